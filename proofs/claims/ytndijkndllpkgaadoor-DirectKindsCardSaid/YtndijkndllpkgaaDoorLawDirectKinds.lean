/- The statement feluccalaw04.DirectKinds of the given program: the law's function answers true at every input, and leaves its arguments as they were; its conditions: none beside the row's own cells. -/
import Derived.Test.YtndijkndllpkgaaDoorRows
import Derived.Test.YtndijkndllpkgaaDoorTie
import Derived.Test.YtndijkndllpkgaaDoorCards
import Derived.Test.YtndijkndllpkgaaDoorPfeluccalaw04DirectKinds
import Derived.Test.YtndijkndllpkgaaDoorPureDirectKinds
import Derived.Test.YtndijkndllpkgaaDoorOpen
import Derived.Test.YtndijkndllpkgaaDoorOpenS
import Derived.WalkKit
import Derived.ProofKit
import Derived.OpenShut
import Derived.ShutString
import Derived.ChangeOld
import Derived.Below
import Derived.SizedLaws
import Derived.LaidMore
import Derived.Lay
import Derived.Stop.Joined
import Derived.MakeChecks
import Derived.Lib.LaidTab
import Derived.Stop.LaidErr
import Derived.SevenTiedAt
namespace Go.Proofs.YtndijkndllpkgaaDoor.directKinds
open Go.ChangeShapes Go.WideShapes Go.ChangeAt Go.RowKit
open Go.ChangeMaps (open_string shut_string)
open Go.Proofs.YtndijkndllpkgaaDoorW.PrintWords
theorem own : ownKnob Tryd.prog.godebug = none := by kernel_rfl
theorem laidOut : laidOutB Tryd.prog = true := by kernel_rfl
theorem tab_of {W : World} (h : laidMetH Tryd.prog [("math/bits.deBruijn32tab", Rows.laid_math_bits_deBruijn32tab), ("math/bits.deBruijn64tab", Rows.laid_math_bits_deBruijn64tab), ("internal/strconv.uint64pow10", Rows.laid_internal_strconv_uint64pow10)] W) : Pr.TabP W := by
  rw [MakeChecks.laidMetH_plain _ _ _ (by kernel_rfl)] at h
  have h1 := laidMet.tail h
  have h2 := laidMet.tail h1
  have hz : Rows.laid_internal_strconv_uint64pow10 (H := Unit) = Lib.tabData .u64 Lib.pow10Tab := by kernel_rfl
  rw [hz] at h2
  exact Lib.tabIs_of_head (g := 0) (t := 82) (e := 75) (n := 20) (by kernel_rfl) (by kernel_rfl) (by kernel_rfl) (by kernel_rfl) (by kernel_rfl) (by kernel_rfl) h2
set_option maxRecDepth 100000 in
theorem lifted (os : Os) (started : os.Started) (H : Type) (enc : TypeId × Value → H) :
    ReturnsInHanded {} Tryd.checked os 12 .any (fun w args => (Rows.directKindsSpec.pre enc Tryd.prog Tryd.f12 [] false w args ∧ laidMetH Tryd.prog [("math/bits.deBruijn32tab", Rows.laid_math_bits_deBruijn32tab), ("math/bits.deBruijn64tab", Rows.laid_math_bits_deBruijn64tab), ("internal/strconv.uint64pow10", Rows.laid_internal_strconv_uint64pow10)] w) ∧ sizedMet enc Tryd.prog Tryd.f12 (OpenSpec.ofChange Rows.directKindsSpec) false w args) (Rows.directKindsSpec.post enc Tryd.prog Tryd.f12 false true false false) := by
  refine returnsInHanded_of_change_and (C := Tryd.checked) (X := fun w _ => laidMetH Tryd.prog [("math/bits.deBruijn32tab", Rows.laid_math_bits_deBruijn32tab), ("math/bits.deBruijn64tab", Rows.laid_math_bits_deBruijn64tab), ("internal/strconv.uint64pow10", Rows.laid_internal_strconv_uint64pow10)] w) (fun _ _ _ hh h => h.of_heap hh) own started (by kernel_rfl) Tryd.func12
    (ChangeSpec.witness_shaped (enc := enc) (C := Tryd.checked) (os := os) (X := fun w _ => laidMetH Tryd.prog [("math/bits.deBruijn32tab", Rows.laid_math_bits_deBruijn32tab), ("math/bits.deBruijn64tab", Rows.laid_math_bits_deBruijn64tab), ("internal/strconv.uint64pow10", Rows.laid_internal_strconv_uint64pow10)] w) false (World.laidAll Tryd.prog os [("math/bits.deBruijn32tab", Rows.laid_math_bits_deBruijn32tab), ("math/bits.deBruijn64tab", Rows.laid_math_bits_deBruijn64tab), ("internal/strconv.uint64pow10", Rows.laid_internal_strconv_uint64pow10)]) #[.agg #[.int .i64 0, .int .i64 0, .int .i64 0, .int .i64 0, .int .i64 0, .int .i64 0], .agg #[.int .i64 0, .int .i64 0, .int .i64 0, .int .i64 0, .int .i64 0]] 8 (World.laidAll_os _ _ _)
      (World.shaped_of_ZipB (by kernel_rfl) (by kernel_rfl)) (by kernel_rfl) (by kernel_rfl) (by kernel_rfl)
      (by rw [MakeChecks.laidMetH_plain _ _ _ (by kernel_rfl)]; exact laidMet_laidAll _ (by kernel_rfl) (by kernel_rfl))) ?_
  intro W base args ds gs before hval0 hW _ hsz0 hL _
  have xTabP : Pr.TabP W := tab_of hL
  clear hL
  have hsz : (DataW.weightsEach Tryd.prog (Tryd.f12.params.toList ++ Rows.directKindsSpec.plain.varTypes Tryd.prog) (ds ++ gs)).all (· ≤ reachBytes) = true := hsz0
  have hval : ∀ (j : Nat) t v, Tryd.f12.params[j]? = some t → args[j]? = some v → Value.okWide Tryd.prog W .any base t v := hval0
  have hW' := hW
  obtain ⟨p, q, hA0, hV, rfl, hfz, hnd⟩ := hW
  have hA : DataW.TrodAll enc Tryd.prog W 0 (fun _ => true) true Tryd.f12.params.toList args.toList ds p := hA0
  rw [Tryd.params12] at hA hval hsz
  obtain ⟨v0, vs0, d0, ds0, p0, q0, hargs, rfl, rfl, h0, r0⟩ := trodAll_cons hA
  obtain ⟨v1, vs1, d1, ds1, p1, q1, rfl, rfl, rfl, h1, r1⟩ := trodAll_cons r0
  obtain ⟨rfl, rfl, rfl⟩ := trodAll_nil r1
  obtain rfl : args = #[v0, v1] := by cases args; simp_all
  obtain ⟨rfl, rfl⟩ := trodVars_none hV
  have k0 := h0
  have lt0 : ∀ x ∈ p0, x.block < W.heap.size := by obtain ⟨m, hm⟩ := k0; exact DataW.trod_lt m _ _ _ hm
  obtain ⟨ll, rfl, g0_0⟩ := Open.open_struct Tryd.underlying34 (ls := [.int .i64, .int .i64, .int .i64, .int .i64, .int .i64, .int .i64]) (Open.OL.struct (lss := [[.int .i64], [.int .i64], [.int .i64], [.int .i64], [.int .i64], [.int .i64]]) Tryd.underlying34 ⟨rfl, by kernel_rfl, (Open.OL.int Tryd.underlying3), rfl, by kernel_rfl, (Open.OL.int Tryd.underlying3), rfl, by kernel_rfl, (Open.OL.int Tryd.underlying3), rfl, by kernel_rfl, (Open.OL.int Tryd.underlying3), rfl, by kernel_rfl, (Open.OL.int Tryd.underlying3), rfl, by kernel_rfl, (Open.OL.int Tryd.underlying3), trivial⟩ (by kernel_rfl)) (hval 0 34 v0 rfl rfl) h0
  obtain ⟨_, ll, rfl, ⟨a0_0, rfl, w0_0⟩, g0_1⟩ := Open.all2_cons g0_0
  clear g0_0
  have i0_0 : -9223372036854775808 ≤ a0_0 ∧ a0_0 ≤ 9223372036854775807 := by simpa [Lit.wf, IntKind.min, IntKind.max, IntKind.signed, IntKind.bits] using w0_0
  obtain ⟨_, ll, rfl, ⟨a0_1, rfl, w0_1⟩, g0_2⟩ := Open.all2_cons g0_1
  clear g0_1
  have i0_1 : -9223372036854775808 ≤ a0_1 ∧ a0_1 ≤ 9223372036854775807 := by simpa [Lit.wf, IntKind.min, IntKind.max, IntKind.signed, IntKind.bits] using w0_1
  obtain ⟨_, ll, rfl, ⟨a0_2, rfl, w0_2⟩, g0_3⟩ := Open.all2_cons g0_2
  clear g0_2
  have i0_2 : -9223372036854775808 ≤ a0_2 ∧ a0_2 ≤ 9223372036854775807 := by simpa [Lit.wf, IntKind.min, IntKind.max, IntKind.signed, IntKind.bits] using w0_2
  obtain ⟨_, ll, rfl, ⟨a0_3, rfl, w0_3⟩, g0_4⟩ := Open.all2_cons g0_3
  clear g0_3
  have i0_3 : -9223372036854775808 ≤ a0_3 ∧ a0_3 ≤ 9223372036854775807 := by simpa [Lit.wf, IntKind.min, IntKind.max, IntKind.signed, IntKind.bits] using w0_3
  obtain ⟨_, ll, rfl, ⟨a0_4, rfl, w0_4⟩, g0_5⟩ := Open.all2_cons g0_4
  clear g0_4
  have i0_4 : -9223372036854775808 ≤ a0_4 ∧ a0_4 ≤ 9223372036854775807 := by simpa [Lit.wf, IntKind.min, IntKind.max, IntKind.signed, IntKind.bits] using w0_4
  obtain ⟨_, ll, rfl, ⟨a0_5, rfl, w0_5⟩, g0_6⟩ := Open.all2_cons g0_5
  clear g0_5
  have i0_5 : -9223372036854775808 ≤ a0_5 ∧ a0_5 ≤ 9223372036854775807 := by simpa [Lit.wf, IntKind.min, IntKind.max, IntKind.signed, IntKind.bits] using w0_5
  obtain rfl := Open.all2_nil g0_6
  clear g0_6
  have k1 := h1
  have lt1 : ∀ x ∈ p1, x.block < W.heap.size := by obtain ⟨m, hm⟩ := k1; exact DataW.trod_lt m _ _ _ hm
  obtain ⟨ll, rfl, g1_0⟩ := Open.open_struct Tryd.underlying36 (ls := [.int .i64, .int .i64, .int .i64, .int .i64, .int .i64]) (Open.OL.struct (lss := [[.int .i64], [.int .i64], [.int .i64], [.int .i64], [.int .i64]]) Tryd.underlying36 ⟨rfl, by kernel_rfl, (Open.OL.int Tryd.underlying3), rfl, by kernel_rfl, (Open.OL.int Tryd.underlying3), rfl, by kernel_rfl, (Open.OL.int Tryd.underlying3), rfl, by kernel_rfl, (Open.OL.int Tryd.underlying3), rfl, by kernel_rfl, (Open.OL.int Tryd.underlying3), trivial⟩ (by kernel_rfl)) (hval 1 36 v1 rfl rfl) h1
  obtain ⟨_, ll, rfl, ⟨a1_0, rfl, w1_0⟩, g1_1⟩ := Open.all2_cons g1_0
  clear g1_0
  have i1_0 : -9223372036854775808 ≤ a1_0 ∧ a1_0 ≤ 9223372036854775807 := by simpa [Lit.wf, IntKind.min, IntKind.max, IntKind.signed, IntKind.bits] using w1_0
  obtain ⟨_, ll, rfl, ⟨a1_1, rfl, w1_1⟩, g1_2⟩ := Open.all2_cons g1_1
  clear g1_1
  have i1_1 : -9223372036854775808 ≤ a1_1 ∧ a1_1 ≤ 9223372036854775807 := by simpa [Lit.wf, IntKind.min, IntKind.max, IntKind.signed, IntKind.bits] using w1_1
  obtain ⟨_, ll, rfl, ⟨a1_2, rfl, w1_2⟩, g1_3⟩ := Open.all2_cons g1_2
  clear g1_2
  have i1_2 : -9223372036854775808 ≤ a1_2 ∧ a1_2 ≤ 9223372036854775807 := by simpa [Lit.wf, IntKind.min, IntKind.max, IntKind.signed, IntKind.bits] using w1_2
  obtain ⟨_, ll, rfl, ⟨a1_3, rfl, w1_3⟩, g1_4⟩ := Open.all2_cons g1_3
  clear g1_3
  have i1_3 : -9223372036854775808 ≤ a1_3 ∧ a1_3 ≤ 9223372036854775807 := by simpa [Lit.wf, IntKind.min, IntKind.max, IntKind.signed, IntKind.bits] using w1_3
  obtain ⟨_, ll, rfl, ⟨a1_4, rfl, w1_4⟩, g1_5⟩ := Open.all2_cons g1_4
  clear g1_4
  have i1_4 : -9223372036854775808 ≤ a1_4 ∧ a1_4 ≤ 9223372036854775807 := by simpa [Lit.wf, IntKind.min, IntKind.max, IntKind.signed, IntKind.bits] using w1_4
  obtain rfl := Open.all2_nil g1_5
  clear g1_5
  clear hA0 hval0 hsz0 hsz
  refine (Pr.feluccalaw04_DirectKinds.calls 1000 a0_0 a0_1 a0_2 a0_3 a0_4 a0_5 a1_0 a1_1 a1_2 a1_3 a1_4 true W xTabP (PureDir.DirectKinds a0_0 a0_1 a0_2 a0_3 a0_4 a0_5 a1_0 a1_1 a1_2 a1_3 a1_4 i0_4 i1_3)).mono fun e W' ⟨he, bel⟩ => ?_
  subst he
  exact ⟨_, rfl, _, _, _, [], _, [], hW', trodAll_mk1 (shut_bool Tryd.underlying4 _), (trodAll_cons_mk (Below.trod laidOut (by kernel_rfl) (of_decide_eq_true (by kernel_rfl)) k0 bel lt0) (trodAll_cons_mk (Below.trod laidOut (by kernel_rfl) (of_decide_eq_true (by kernel_rfl)) k1 bel lt1) trodAll_mk0)), rfl, bel.frame _, fun h => by cases h⟩
theorem over : Rows.directKindsRow.holds Tryd.pinned (OpenSpec.ofChange Rows.directKindsSpec) :=
  OpenClaim.holds_of_wide 12 Tryd.f12 rfl rfl rfl rfl rfl rfl rfl ⟨rfl, rfl, rfl, rfl, rfl⟩ rfl rfl rfl rfl rfl (by kernel_rfl) Tryd.func12 (by kernel_rfl)
    (of_decide_eq_true (by kernel_rfl)) (by unfold Func.isWrapper; first | (rw [if_pos (by decide +kernel)]; kernel_rfl) | (rw [if_neg (by decide +kernel)]; exact ⟨rfl, rfl⟩))
    (fun os started H enc _ => lifted os started H enc)
theorem proved : Rows.DirectKindsCardSaid :=
  Claim7.holds_tied_plain_at .later [] [.data, .data, .data] true (true, "3d8dd0b457bd3f7b3768261d156f6d66f062dcc9c9e78c87794a602a539e84f3") false
    over (fun _ h => by cases h) (by kernel_rfl) (fun _ h => by cases h) directKinds_row_tie rfl ⟨rfl, rfl⟩ (by kernel_rfl) rfl
    (fun f fn hf hfn => by
      obtain rfl : f = 12 := Option.some.inj ((show Tryd.prog.funcNamed "felucca/feluccalaw04.DirectKinds" = some 12 by kernel_rfl).symm.trans hf) |>.symm
      obtain rfl : fn = Tryd.f12 := (Option.some.inj (Tryd.func12.symm.trans hfn)).symm
      exact ⟨by kernel_rfl, fun j t ht => by
        rw [Tryd.params12] at ht
        have hm : t ∈ [34, 36] := by simpa using Array.mem_of_getElem? ht
        have hall : ([34, 36].all fun u => !Tryd.prog.wantsStandIn u) = true := by kernel_rfl
        exact (show Tryd.prog.wantsStandIn t = false by simpa using List.all_eq_true.1 hall t hm)⟩)
    (by kernel_rfl)
end Go.Proofs.YtndijkndllpkgaaDoor.directKinds
namespace Go.Proofs.YtndijkndllpkgaaDoor
/-- The statement, under a short name, for the claim. -/
theorem directKinds_holds : Rows.DirectKindsCardSaid := directKinds.proved
#print axioms directKinds_holds
end Go.Proofs.YtndijkndllpkgaaDoor
