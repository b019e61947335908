/- The statement feluccalaw04.DirectBack of the given program: the law's function answers true at every input, and leaves its arguments as they were; its conditions: none beside the row's own cells. -/
import Derived.Test.YtndijkndllpkgaaDoorRows
import Derived.Test.YtndijkndllpkgaaDoorTie
import Derived.Test.YtndijkndllpkgaaDoorCards
import Derived.Test.YtndijkndllpkgaaDoorPfeluccalaw04DirectBack
import Derived.Test.YtndijkndllpkgaaDoorPureDirectBack
import Derived.Test.YtndijkndllpkgaaDoorOpen
import Derived.Test.YtndijkndllpkgaaDoorOpenS
import Derived.WalkKit
import Derived.ProofKit
import Derived.OpenShut
import Derived.ShutString
import Derived.ChangeOld
import Derived.Below
import Derived.SizedLaws
import Derived.LaidMore
import Derived.Lay
import Derived.Stop.Joined
import Derived.MakeChecks
import Derived.Lib.LaidTab
import Derived.Stop.LaidErr
import Derived.SevenTiedAt
namespace Go.Proofs.YtndijkndllpkgaaDoor.directBack
open Go.ChangeShapes Go.WideShapes Go.ChangeAt Go.RowKit
open Go.ChangeMaps (open_string shut_string)
open Go.Proofs.YtndijkndllpkgaaDoorW.PrintWords
theorem own : ownKnob Tryd.prog.godebug = none := by kernel_rfl
theorem laidOut : laidOutB Tryd.prog = true := by kernel_rfl
theorem tab_of {W : World} (h : laidMetH Tryd.prog [("math/bits.deBruijn32tab", Rows.laid_math_bits_deBruijn32tab), ("math/bits.deBruijn64tab", Rows.laid_math_bits_deBruijn64tab), ("internal/strconv.uint64pow10", Rows.laid_internal_strconv_uint64pow10)] W) : Pr.TabP W := by
  rw [MakeChecks.laidMetH_plain _ _ _ (by kernel_rfl)] at h
  have h1 := laidMet.tail h
  have h2 := laidMet.tail h1
  have hz : Rows.laid_internal_strconv_uint64pow10 (H := Unit) = Lib.tabData .u64 Lib.pow10Tab := by kernel_rfl
  rw [hz] at h2
  exact Lib.tabIs_of_head (g := 0) (t := 82) (e := 75) (n := 20) (by kernel_rfl) (by kernel_rfl) (by kernel_rfl) (by kernel_rfl) (by kernel_rfl) (by kernel_rfl) h2
set_option maxRecDepth 100000 in
theorem lifted (os : Os) (started : os.Started) (H : Type) (enc : TypeId × Value → H) :
    ReturnsInHanded {} Tryd.checked os 10 .any (fun w args => (Rows.directBackSpec.pre enc Tryd.prog Tryd.f10 [] false w args ∧ laidMetH Tryd.prog [("math/bits.deBruijn32tab", Rows.laid_math_bits_deBruijn32tab), ("math/bits.deBruijn64tab", Rows.laid_math_bits_deBruijn64tab), ("internal/strconv.uint64pow10", Rows.laid_internal_strconv_uint64pow10)] w) ∧ sizedMet enc Tryd.prog Tryd.f10 (OpenSpec.ofChange Rows.directBackSpec) false w args) (Rows.directBackSpec.post enc Tryd.prog Tryd.f10 false true false false) := by
  refine returnsInHanded_of_change_and (C := Tryd.checked) (X := fun w _ => laidMetH Tryd.prog [("math/bits.deBruijn32tab", Rows.laid_math_bits_deBruijn32tab), ("math/bits.deBruijn64tab", Rows.laid_math_bits_deBruijn64tab), ("internal/strconv.uint64pow10", Rows.laid_internal_strconv_uint64pow10)] w) (fun _ _ _ hh h => h.of_heap hh) own started (by kernel_rfl) Tryd.func10
    (ChangeSpec.witness_shaped (enc := enc) (C := Tryd.checked) (os := os) (X := fun w _ => laidMetH Tryd.prog [("math/bits.deBruijn32tab", Rows.laid_math_bits_deBruijn32tab), ("math/bits.deBruijn64tab", Rows.laid_math_bits_deBruijn64tab), ("internal/strconv.uint64pow10", Rows.laid_internal_strconv_uint64pow10)] w) false (World.laidAll Tryd.prog os [("math/bits.deBruijn32tab", Rows.laid_math_bits_deBruijn32tab), ("math/bits.deBruijn64tab", Rows.laid_math_bits_deBruijn64tab), ("internal/strconv.uint64pow10", Rows.laid_internal_strconv_uint64pow10)]) #[.agg #[.int .i64 0, .int .i64 0, .int .i64 0, .int .i64 0, .int .i64 0, .int .i64 0, .int .i64 0, .int .i64 0, .int .i64 0, .int .i64 0, .int .i64 0, .int .i64 0, .int .i64 0], .slice none 0 0] 8 (World.laidAll_os _ _ _)
      (World.shaped_of_ZipB (by kernel_rfl) (by kernel_rfl)) (by kernel_rfl) (by kernel_rfl) (by kernel_rfl)
      (by rw [MakeChecks.laidMetH_plain _ _ _ (by kernel_rfl)]; exact laidMet_laidAll _ (by kernel_rfl) (by kernel_rfl))) ?_
  intro W base args ds gs before hval0 hW _ hsz0 hL _
  have xTabP : Pr.TabP W := tab_of hL
  clear hL
  have hsz : (DataW.weightsEach Tryd.prog (Tryd.f10.params.toList ++ Rows.directBackSpec.plain.varTypes Tryd.prog) (ds ++ gs)).all (· ≤ reachBytes) = true := hsz0
  have hval : ∀ (j : Nat) t v, Tryd.f10.params[j]? = some t → args[j]? = some v → Value.okWide Tryd.prog W .any base t v := hval0
  have hW' := hW
  obtain ⟨p, q, hA0, hV, rfl, hfz, hnd⟩ := hW
  have hA : DataW.TrodAll enc Tryd.prog W 0 (fun _ => true) true Tryd.f10.params.toList args.toList ds p := hA0
  rw [Tryd.params10] at hA hval hsz
  obtain ⟨v0, vs0, d0, ds0, p0, q0, hargs, rfl, rfl, h0, r0⟩ := trodAll_cons hA
  obtain ⟨v1, vs1, d1, ds1, p1, q1, rfl, rfl, rfl, h1, r1⟩ := trodAll_cons r0
  obtain ⟨rfl, rfl, rfl⟩ := trodAll_nil r1
  obtain rfl : args = #[v0, v1] := by cases args; simp_all
  obtain ⟨rfl, rfl⟩ := trodVars_none hV
  have k0 := h0
  have lt0 : ∀ x ∈ p0, x.block < W.heap.size := by obtain ⟨m, hm⟩ := k0; exact DataW.trod_lt m _ _ _ hm
  obtain ⟨ll, rfl, g0_0⟩ := Open.open_struct Tryd.underlying38 (ls := [.int .i64, .int .i64, .int .i64, .int .i64, .int .i64, .int .i64, .int .i64, .int .i64, .int .i64, .int .i64, .int .i64, .int .i64, .int .i64]) (Open.OL.struct (lss := [[.int .i64], [.int .i64], [.int .i64, .int .i64, .int .i64, .int .i64, .int .i64, .int .i64], [.int .i64, .int .i64, .int .i64, .int .i64, .int .i64]]) Tryd.underlying38 ⟨rfl, by kernel_rfl, (Open.OL.int Tryd.underlying3), rfl, by kernel_rfl, (Open.OL.int Tryd.underlying3), rfl, by kernel_rfl, (Open.OL.struct (lss := [[.int .i64], [.int .i64], [.int .i64], [.int .i64], [.int .i64], [.int .i64]]) Tryd.underlying34 ⟨rfl, by kernel_rfl, (Open.OL.int Tryd.underlying3), rfl, by kernel_rfl, (Open.OL.int Tryd.underlying3), rfl, by kernel_rfl, (Open.OL.int Tryd.underlying3), rfl, by kernel_rfl, (Open.OL.int Tryd.underlying3), rfl, by kernel_rfl, (Open.OL.int Tryd.underlying3), rfl, by kernel_rfl, (Open.OL.int Tryd.underlying3), trivial⟩ (by kernel_rfl)), rfl, by kernel_rfl, (Open.OL.struct (lss := [[.int .i64], [.int .i64], [.int .i64], [.int .i64], [.int .i64]]) Tryd.underlying36 ⟨rfl, by kernel_rfl, (Open.OL.int Tryd.underlying3), rfl, by kernel_rfl, (Open.OL.int Tryd.underlying3), rfl, by kernel_rfl, (Open.OL.int Tryd.underlying3), rfl, by kernel_rfl, (Open.OL.int Tryd.underlying3), rfl, by kernel_rfl, (Open.OL.int Tryd.underlying3), trivial⟩ (by kernel_rfl)), trivial⟩ (by kernel_rfl)) (hval 0 38 v0 rfl rfl) h0
  obtain ⟨_, ll, rfl, ⟨a0_0, rfl, w0_0⟩, g0_1⟩ := Open.all2_cons g0_0
  clear g0_0
  have i0_0 : -9223372036854775808 ≤ a0_0 ∧ a0_0 ≤ 9223372036854775807 := by simpa [Lit.wf, IntKind.min, IntKind.max, IntKind.signed, IntKind.bits] using w0_0
  obtain ⟨_, ll, rfl, ⟨a0_1, rfl, w0_1⟩, g0_2⟩ := Open.all2_cons g0_1
  clear g0_1
  have i0_1 : -9223372036854775808 ≤ a0_1 ∧ a0_1 ≤ 9223372036854775807 := by simpa [Lit.wf, IntKind.min, IntKind.max, IntKind.signed, IntKind.bits] using w0_1
  obtain ⟨_, ll, rfl, ⟨a0_2, rfl, w0_2⟩, g0_3⟩ := Open.all2_cons g0_2
  clear g0_2
  have i0_2 : -9223372036854775808 ≤ a0_2 ∧ a0_2 ≤ 9223372036854775807 := by simpa [Lit.wf, IntKind.min, IntKind.max, IntKind.signed, IntKind.bits] using w0_2
  obtain ⟨_, ll, rfl, ⟨a0_3, rfl, w0_3⟩, g0_4⟩ := Open.all2_cons g0_3
  clear g0_3
  have i0_3 : -9223372036854775808 ≤ a0_3 ∧ a0_3 ≤ 9223372036854775807 := by simpa [Lit.wf, IntKind.min, IntKind.max, IntKind.signed, IntKind.bits] using w0_3
  obtain ⟨_, ll, rfl, ⟨a0_4, rfl, w0_4⟩, g0_5⟩ := Open.all2_cons g0_4
  clear g0_4
  have i0_4 : -9223372036854775808 ≤ a0_4 ∧ a0_4 ≤ 9223372036854775807 := by simpa [Lit.wf, IntKind.min, IntKind.max, IntKind.signed, IntKind.bits] using w0_4
  obtain ⟨_, ll, rfl, ⟨a0_5, rfl, w0_5⟩, g0_6⟩ := Open.all2_cons g0_5
  clear g0_5
  have i0_5 : -9223372036854775808 ≤ a0_5 ∧ a0_5 ≤ 9223372036854775807 := by simpa [Lit.wf, IntKind.min, IntKind.max, IntKind.signed, IntKind.bits] using w0_5
  obtain ⟨_, ll, rfl, ⟨a0_6, rfl, w0_6⟩, g0_7⟩ := Open.all2_cons g0_6
  clear g0_6
  have i0_6 : -9223372036854775808 ≤ a0_6 ∧ a0_6 ≤ 9223372036854775807 := by simpa [Lit.wf, IntKind.min, IntKind.max, IntKind.signed, IntKind.bits] using w0_6
  obtain ⟨_, ll, rfl, ⟨a0_7, rfl, w0_7⟩, g0_8⟩ := Open.all2_cons g0_7
  clear g0_7
  have i0_7 : -9223372036854775808 ≤ a0_7 ∧ a0_7 ≤ 9223372036854775807 := by simpa [Lit.wf, IntKind.min, IntKind.max, IntKind.signed, IntKind.bits] using w0_7
  obtain ⟨_, ll, rfl, ⟨a0_8, rfl, w0_8⟩, g0_9⟩ := Open.all2_cons g0_8
  clear g0_8
  have i0_8 : -9223372036854775808 ≤ a0_8 ∧ a0_8 ≤ 9223372036854775807 := by simpa [Lit.wf, IntKind.min, IntKind.max, IntKind.signed, IntKind.bits] using w0_8
  obtain ⟨_, ll, rfl, ⟨a0_9, rfl, w0_9⟩, g0_10⟩ := Open.all2_cons g0_9
  clear g0_9
  have i0_9 : -9223372036854775808 ≤ a0_9 ∧ a0_9 ≤ 9223372036854775807 := by simpa [Lit.wf, IntKind.min, IntKind.max, IntKind.signed, IntKind.bits] using w0_9
  obtain ⟨_, ll, rfl, ⟨a0_10, rfl, w0_10⟩, g0_11⟩ := Open.all2_cons g0_10
  clear g0_10
  have i0_10 : -9223372036854775808 ≤ a0_10 ∧ a0_10 ≤ 9223372036854775807 := by simpa [Lit.wf, IntKind.min, IntKind.max, IntKind.signed, IntKind.bits] using w0_10
  obtain ⟨_, ll, rfl, ⟨a0_11, rfl, w0_11⟩, g0_12⟩ := Open.all2_cons g0_11
  clear g0_11
  have i0_11 : -9223372036854775808 ≤ a0_11 ∧ a0_11 ≤ 9223372036854775807 := by simpa [Lit.wf, IntKind.min, IntKind.max, IntKind.signed, IntKind.bits] using w0_11
  obtain ⟨_, ll, rfl, ⟨a0_12, rfl, w0_12⟩, g0_13⟩ := Open.all2_cons g0_12
  clear g0_12
  have i0_12 : -9223372036854775808 ≤ a0_12 ∧ a0_12 ≤ 9223372036854775807 := by simpa [Lit.wf, IntKind.min, IntKind.max, IntKind.signed, IntKind.bits] using w0_12
  obtain rfl := Open.all2_nil g0_13
  clear g0_13
  have k1 := h1
  have lt1 : ∀ x ∈ p1, x.block < W.heap.size := by obtain ⟨m, hm⟩ := k1; exact DataW.trod_lt m _ _ _ hm
  obtain ⟨A1, c1, l1, rfl, hc1, hr1, m1, o1⟩ := Open.open_slice (d := Kd.string) Tryd.underlying39 (by kernel_rfl) (Open.Opens.string Tryd.underlying9) (okWide_slice Tryd.underlying39 (hval 1 39 v1 rfl rfl)) h1
  clear hA0 hval0 hsz0 hsz
  refine (Pr.feluccalaw04_DirectBack.calls 1000 a0_0 a0_1 a0_2 a0_3 a0_4 a0_5 a0_6 a0_7 a0_8 a0_9 a0_10 a0_11 a0_12 A1 c1 l1 true W hr1 hc1 xTabP (PureDir.DirectBack a0_0 a0_1 a0_2 a0_3 a0_4 a0_5 a0_6 a0_7 a0_8 a0_9 a0_10 a0_11 a0_12 l1 (by intro z hz; simp only [List.mem_cons, List.not_mem_nil, or_false] at hz; rcases hz with rfl | rfl | rfl | rfl | rfl | rfl | rfl | rfl | rfl | rfl | rfl | rfl | rfl; exact i0_0; exact i0_1; exact i0_2; exact i0_3; exact i0_4; exact i0_5; exact i0_6; exact i0_7; exact i0_8; exact i0_9; exact i0_10; exact i0_11; exact i0_12) o1)).mono fun e W' ⟨he, bel⟩ => ?_
  subst he
  exact ⟨_, rfl, _, _, _, [], _, [], hW', trodAll_mk1 (shut_bool Tryd.underlying4 _), (trodAll_cons_mk (Below.trod laidOut (by kernel_rfl) (of_decide_eq_true (by kernel_rfl)) k0 bel lt0) (trodAll_cons_mk (Below.trod laidOut (by kernel_rfl) (of_decide_eq_true (by kernel_rfl)) k1 bel lt1) trodAll_mk0)), rfl, bel.frame _, fun h => by cases h⟩
theorem over : Rows.directBackRow.holds Tryd.pinned (OpenSpec.ofChange Rows.directBackSpec) :=
  OpenClaim.holds_of_wide 10 Tryd.f10 rfl rfl rfl rfl rfl rfl rfl ⟨rfl, rfl, rfl, rfl, rfl⟩ rfl rfl rfl rfl rfl (by kernel_rfl) Tryd.func10 (by kernel_rfl)
    (of_decide_eq_true (by kernel_rfl)) (by unfold Func.isWrapper; first | (rw [if_pos (by decide +kernel)]; kernel_rfl) | (rw [if_neg (by decide +kernel)]; exact ⟨rfl, rfl⟩))
    (fun os started H enc _ => lifted os started H enc)
theorem proved : Rows.DirectBackCardSaid :=
  Claim7.holds_tied_plain_at .later [] [.data, .data, .data] true (true, "3d8dd0b457bd3f7b3768261d156f6d66f062dcc9c9e78c87794a602a539e84f3") false
    over (fun _ h => by cases h) (by kernel_rfl) (fun _ h => by cases h) directBack_row_tie rfl ⟨rfl, rfl⟩ (by kernel_rfl) rfl
    (fun f fn hf hfn => by
      obtain rfl : f = 10 := Option.some.inj ((show Tryd.prog.funcNamed "felucca/feluccalaw04.DirectBack" = some 10 by kernel_rfl).symm.trans hf) |>.symm
      obtain rfl : fn = Tryd.f10 := (Option.some.inj (Tryd.func10.symm.trans hfn)).symm
      exact ⟨by kernel_rfl, fun j t ht => by
        rw [Tryd.params10] at ht
        have hm : t ∈ [38, 39] := by simpa using Array.mem_of_getElem? ht
        have hall : ([38, 39].all fun u => !Tryd.prog.wantsStandIn u) = true := by kernel_rfl
        exact (show Tryd.prog.wantsStandIn t = false by simpa using List.all_eq_true.1 hall t hm)⟩)
    (by kernel_rfl)
end Go.Proofs.YtndijkndllpkgaaDoor.directBack
namespace Go.Proofs.YtndijkndllpkgaaDoor
/-- The statement, under a short name, for the claim. -/
theorem directBack_holds : Rows.DirectBackCardSaid := directBack.proved
#print axioms directBack_holds
end Go.Proofs.YtndijkndllpkgaaDoor
