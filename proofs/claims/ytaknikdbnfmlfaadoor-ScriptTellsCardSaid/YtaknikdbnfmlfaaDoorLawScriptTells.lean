/- The statement feluccalaw25.ScriptTells of the given program: the law's function answers true at every input, and leaves its arguments as they were. -/
import Derived.Test.YtaknikdbnfmlfaaDoorRows
import Derived.Test.YtaknikdbnfmlfaaDoorExOp
import Derived.Test.YtaknikdbnfmlfaaDoorTie
import Derived.Test.YtaknikdbnfmlfaaDoorCards
import Derived.Test.YtaknikdbnfmlfaaDoorShp
import Derived.Test.YtaknikdbnfmlfaaDoorSk
import Derived.WalkKit
import Derived.ProofKit
import Derived.OpenShut
import Derived.ShutString
import Derived.ChangeOld
import Derived.Below
import Derived.SizedLaws
import Derived.JoinedOf
import Derived.LaidMore
import Derived.Lay
import Derived.Stop.Joined
import Derived.MakeChecks
import Derived.Lib.LaidTab
import Derived.Stop.LaidErr
import Derived.SevenTiedAt
import Derived.Shelf.Vars
namespace Go.Proofs.YtaknikdbnfmlfaaDoor.scriptTells
open Go.ChangeShapes Go.WideShapes Go.ChangeAt Go.RowKit Go.Proofs.YtaknikdbnfmlfaaDoor.Ex
open Go.ChangeMaps (open_string shut_string)
set_option linter.unusedVariables false
set_option linter.unusedSimpArgs false
theorem own : ownKnob Tryd.prog.godebug = none := by kernel_rfl
theorem laidOut : laidOutB Tryd.prog = true := by kernel_rfl
theorem tab_of {W : World} (h : laidMetH Tryd.prog [("math/bits.deBruijn32tab", Rows.laid_math_bits_deBruijn32tab), ("math/bits.deBruijn64tab", Rows.laid_math_bits_deBruijn64tab), ("internal/strconv.uint64pow10", Rows.laid_internal_strconv_uint64pow10)] W) : Pr.TabP W := by
  rw [MakeChecks.laidMetH_plain _ _ _ (by kernel_rfl)] at h
  have h1 := laidMet.tail h
  have h2 := laidMet.tail h1
  have hz : Rows.laid_internal_strconv_uint64pow10 (H := Unit) = Lib.tabData .u64 Lib.pow10Tab := by kernel_rfl
  rw [hz] at h2
  exact Lib.tabIs_of_head (g := 1) (t := 154) (e := 141) (n := 20) (by kernel_rfl) (by kernel_rfl) (by kernel_rfl) (by kernel_rfl) (by kernel_rfl) (by kernel_rfl) h2
set_option maxRecDepth 100000 in
theorem lifted (os : Os) (started : os.Started) (H : Type) (enc : TypeId × Value → H) (F : Stop.Interp) :
    ReturnsInHanded {} Tryd.checked os 4 .any ((OpenSpec.ofChange Rows.scriptTellsSpec).preRow enc Tryd.prog Tryd.f4 Rows.scriptTellsRow.domain false [("math/bits.deBruijn32tab", Rows.laid_math_bits_deBruijn32tab), ("math/bits.deBruijn64tab", Rows.laid_math_bits_deBruijn64tab), ("internal/strconv.uint64pow10", Rows.laid_internal_strconv_uint64pow10)]) (((OpenSpec.ofChange Rows.scriptTellsSpec).at F).post enc Tryd.prog Tryd.f4 false true false false) := by
  have hx : ∃ places, DataW.whole enc Tryd.prog ((World.laidAll Tryd.prog os [("math/bits.deBruijn32tab", Rows.laid_math_bits_deBruijn32tab), ("math/bits.deBruijn64tab", Rows.laid_math_bits_deBruijn64tab), ("internal/strconv.uint64pow10", Rows.laid_internal_strconv_uint64pow10)]).forCall (fun _ _ => 0) ⟨#[], #[.slice none 0 0, .agg #[.int .u8 0, .int .u8 0, .int .u8 0, .int .u8 0, .int .u8 0, .int .u8 0, .int .u8 0, .int .u8 0, .int .u8 0, .int .u8 0], .slice none 0 0, .int .i64 0], []⟩).memory Tryd.f4.params.toList Rows.scriptTellsSpec.vars false (#[.slice none 0 0, .agg #[.int .u8 0, .int .u8 0, .int .u8 0, .int .u8 0, .int .u8 0, .int .u8 0, .int .u8 0, .int .u8 0, .int .u8 0, .int .u8 0], .slice none 0 0, .int .i64 0] : Array Value).toList 8 = some ([.nil, .agg [.lit (.int .u8 0), .lit (.int .u8 0), .lit (.int .u8 0), .lit (.int .u8 0), .lit (.int .u8 0), .lit (.int .u8 0), .lit (.int .u8 0), .lit (.int .u8 0), .lit (.int .u8 0), .lit (.int .u8 0)], .nil, .lit (.int .i64 0)], [], places) := ⟨[], by kernel_rfl⟩
  obtain ⟨places, hx⟩ := hx
  refine lifted_row (C := Tryd.checked) (s := OpenSpec.ofChange Rows.scriptTellsSpec) own started (by kernel_rfl) Tryd.func4 (World.laidAll Tryd.prog os [("math/bits.deBruijn32tab", Rows.laid_math_bits_deBruijn32tab), ("math/bits.deBruijn64tab", Rows.laid_math_bits_deBruijn64tab), ("internal/strconv.uint64pow10", Rows.laid_internal_strconv_uint64pow10)]) #[.slice none 0 0, .agg #[.int .u8 0, .int .u8 0, .int .u8 0, .int .u8 0, .int .u8 0, .int .u8 0, .int .u8 0, .int .u8 0, .int .u8 0, .int .u8 0], .slice none 0 0, .int .i64 0] (World.laidAll_os _ _ _) (World.shaped_of_ZipB (by kernel_rfl) (by kernel_rfl)) (by kernel_rfl)
    (OpenSpec.preRow_of_cond 8 hx (by kernel_rfl) (fun k hk => by cases hk) (by kernel_rfl) (by rw [MakeChecks.laidMetH_plain _ _ _ (by kernel_rfl)]; exact laidMet_laidAll _ (by kernel_rfl) (by kernel_rfl))) ?_
  intro W base args ds gs before hval0 hW hcond hsz0 hL hsh
  have xTabP : Pr.TabP W := tab_of hL
  have xMaxP : Pr.MaxP W := cell_of_shapedOpen_int (P := Tryd.prog) (g := 0) (t := 3) (zero := #[.int .i64 0]) hsh (of_decide_eq_true (by kernel_rfl)) (by kernel_rfl) rfl (by kernel_rfl) (by kernel_rfl) Tryd.underlying3
  clear hsh hL
  have hval : ∀ (j : Nat) t v, Tryd.f4.params[j]? = some t → args[j]? = some v → Value.okWide Tryd.prog W .any base t v := hval0
  have hW' := hW
  obtain ⟨p, q, hA0, hV, rfl, hfz, hnd⟩ := hW
  have hA : DataW.TrodAll enc Tryd.prog W 0 (fun _ => true) true Tryd.f4.params.toList args.toList ds p := hA0
  rw [Tryd.params4] at hA hval
  obtain ⟨v0, vs0, d0, ds0, p0, q0, hargs, rfl, rfl, h0, r0⟩ := trodAll_cons hA
  obtain ⟨v1, vs1, d1, ds1, p1, q1, rfl, rfl, rfl, h1, r1⟩ := trodAll_cons r0
  obtain ⟨v2, vs2, d2, ds2, p2, q2, rfl, rfl, rfl, h2, r2⟩ := trodAll_cons r1
  obtain ⟨v3, vs3, d3, ds3, p3, q3, rfl, rfl, rfl, h3, r3⟩ := trodAll_cons r2
  obtain ⟨rfl, rfl, rfl⟩ := trodAll_nil r3
  obtain rfl : args = #[v0, v1, v2, v3] := by cases args; simp_all
  obtain ⟨rfl, rfl⟩ := trodVars_none hV
  have k0 := h0
  have lt0 : ∀ x ∈ p0, x.block < W.heap.size := by obtain ⟨m, hm⟩ := k0; exact DataW.trod_lt m _ _ _ hm
  obtain ⟨a0, g0, o0⟩ := open_one (OpK.row (s := [.int .u8]) Tryd.underlying38 (by kernel_rfl) (by decide) (OpK.t (OpK.int Tryd.underlying5))) (cells_slice Tryd.underlying38 (hval 0 38 v0 rfl rfl)) h0
  have k1 := h1
  have lt1 : ∀ x ∈ p1, x.block < W.heap.size := by obtain ⟨m, hm⟩ := k1; exact DataW.trod_lt m _ _ _ hm
  obtain ⟨a1, c1, rfl, g1, o1⟩ := open_arr (s := [.int .u8, .int .u8, .int .u8, .int .u8, .int .u8, .int .u8, .int .u8, .int .u8, .int .u8, .int .u8]) Tryd.underlying39 (OpT.arr (n := 10) Tryd.underlying39 Tryd.underlying5 (by kernel_rfl) (by kernel_rfl)) (hval 1 39 v1 rfl rfl) h1
  have k2 := h2
  have lt2 : ∀ x ∈ p2, x.block < W.heap.size := by obtain ⟨m, hm⟩ := k2; exact DataW.trod_lt m _ _ _ hm
  obtain ⟨a2, g2, o2⟩ := open_one (OpK.row (s := [.int .i64, .str, .int .i64, .int .i64, .int .i64, .int .i64, .int .i64, .int .i64, .int .i64, .int .i64, .int .i64, .int .i64, .int .i64, .int .i64, .int .i64, .int .i64, .row [.int .i64], .int .i64, .int .i64, .int .i64, .int .i64, .int .i64, .int .i64, .int .i64]) Tryd.underlying40 (by kernel_rfl) (by decide) (OpT.struct (lss := [[.int .i64], [.str], [.int .i64, .int .i64, .int .i64, .int .i64, .int .i64, .int .i64, .int .i64, .int .i64, .int .i64, .int .i64, .int .i64, .int .i64, .int .i64], [.int .i64], [.row [.int .i64]], [.int .i64], [.int .i64], [.int .i64, .int .i64, .int .i64, .int .i64, .int .i64]]) Tryd.underlying45 ⟨rfl, by kernel_rfl, (OpK.t (OpK.int Tryd.underlying3)), rfl, by kernel_rfl, (OpK.t (OpK.str Tryd.underlying9)), rfl, by kernel_rfl, (OpT.struct (lss := [[.int .i64], [.int .i64], [.int .i64, .int .i64, .int .i64, .int .i64, .int .i64, .int .i64], [.int .i64, .int .i64, .int .i64, .int .i64, .int .i64]]) Tryd.underlying27 ⟨rfl, by kernel_rfl, (OpK.t (OpK.int Tryd.underlying3)), rfl, by kernel_rfl, (OpK.t (OpK.int Tryd.underlying3)), rfl, by kernel_rfl, (OpT.struct (lss := [[.int .i64], [.int .i64], [.int .i64], [.int .i64], [.int .i64], [.int .i64]]) Tryd.underlying23 ⟨rfl, by kernel_rfl, (OpK.t (OpK.int Tryd.underlying3)), rfl, by kernel_rfl, (OpK.t (OpK.int Tryd.underlying3)), rfl, by kernel_rfl, (OpK.t (OpK.int Tryd.underlying3)), rfl, by kernel_rfl, (OpK.t (OpK.int Tryd.underlying3)), rfl, by kernel_rfl, (OpK.t (OpK.int Tryd.underlying3)), rfl, by kernel_rfl, (OpK.t (OpK.int Tryd.underlying3)), trivial⟩ (by kernel_rfl)), rfl, by kernel_rfl, (OpT.struct (lss := [[.int .i64], [.int .i64], [.int .i64], [.int .i64], [.int .i64]]) Tryd.underlying25 ⟨rfl, by kernel_rfl, (OpK.t (OpK.int Tryd.underlying3)), rfl, by kernel_rfl, (OpK.t (OpK.int Tryd.underlying3)), rfl, by kernel_rfl, (OpK.t (OpK.int Tryd.underlying3)), rfl, by kernel_rfl, (OpK.t (OpK.int Tryd.underlying3)), rfl, by kernel_rfl, (OpK.t (OpK.int Tryd.underlying3)), trivial⟩ (by kernel_rfl)), trivial⟩ (by kernel_rfl)), rfl, by kernel_rfl, (OpK.t (OpK.int Tryd.underlying3)), rfl, by kernel_rfl, (OpK.t (OpK.row (s := [.int .i64]) Tryd.underlying41 (by kernel_rfl) (by decide) (OpK.t (OpK.int Tryd.underlying3)))), rfl, by kernel_rfl, (OpK.t (OpK.int Tryd.underlying3)), rfl, by kernel_rfl, (OpK.t (OpK.int Tryd.underlying3)), rfl, by kernel_rfl, (OpT.struct (lss := [[.int .i64], [.int .i64], [.int .i64], [.int .i64], [.int .i64]]) Tryd.underlying43 ⟨rfl, by kernel_rfl, (OpK.t (OpK.int Tryd.underlying3)), rfl, by kernel_rfl, (OpK.t (OpK.int Tryd.underlying3)), rfl, by kernel_rfl, (OpK.t (OpK.int Tryd.underlying3)), rfl, by kernel_rfl, (OpK.t (OpK.int Tryd.underlying3)), rfl, by kernel_rfl, (OpK.t (OpK.int Tryd.underlying3)), trivial⟩ (by kernel_rfl)), trivial⟩ (by kernel_rfl))) (cells_slice Tryd.underlying40 (hval 2 40 v2 rfl rfl)) h2
  obtain ⟨a3, rfl, rfl, rfl, o3⟩ := open_int Tryd.underlying3 (hval 3 3 v3 rfl rfl) h3
  obtain ⟨k, hk⟩ := ScriptTells_pure a0 a1 a2 a3 (BL_of o0) (X8_of o1)
  have hc := (feluccalaw25_ScriptTells_e k).ok (a0, a1, a2, a3) true W [v0, _, v2, (Value.int .i64 a3)] hk (by
    show PTIs _ W [.one (.row 5 [.int .u8]), .agg lT39, .one (.row 45 kGAct), .one (.sc (.int .i64))] _ _
    simp only [PTIs, PKIs, LKIs]
    exact ⟨_, _, rfl, g0, _, _, rfl, ⟨_, rfl, by simpa only [LTIs, LKIs, TupIs] using g1⟩, _, _, rfl, g2, _, rfl, by simp only [SKIs]⟩) ⟨xTabP, xMaxP⟩
  refine hc.mono fun e W' ⟨v, he, hret, bel⟩ => ?_
  subst he
  have hv := rets_bool hret
  subst hv
  exact ⟨_, rfl, _, _, _, [], _, [], hW', trodAll_mk1 (shut_bool Tryd.underlying4 _), (trodAll_cons_mk (Below.trod laidOut (by kernel_rfl) (of_decide_eq_true (by kernel_rfl)) k0 bel lt0) (trodAll_cons_mk (Below.trod laidOut (by kernel_rfl) (of_decide_eq_true (by kernel_rfl)) k1 bel lt1) (trodAll_cons_mk (Below.trod laidOut (by kernel_rfl) (of_decide_eq_true (by kernel_rfl)) k2 bel lt2) (trodAll_cons_mk (shut_int Tryd.underlying3 o3) trodAll_mk0)))), rfl, bel.frame _, fun h => by cases h⟩
theorem over : Rows.scriptTellsRow.holds Tryd.pinned (OpenSpec.ofChange Rows.scriptTellsSpec) :=
  OpenClaim.holds_of_cond 4 Tryd.f4 rfl rfl rfl rfl rfl rfl rfl ⟨rfl, rfl, rfl, rfl, rfl⟩ rfl rfl rfl rfl rfl (by kernel_rfl) Tryd.func4 (by kernel_rfl)
    (of_decide_eq_true (by kernel_rfl)) (by unfold Func.isWrapper; first | (rw [if_pos (by decide +kernel)]; kernel_rfl) | (rw [if_neg (by decide +kernel)]; exact ⟨rfl, rfl⟩))
    (fun os started H enc _ F => by rw [OpenClaim.pre_eq_preRow]; exact lifted os started H enc F)
theorem proved : Rows.ScriptTellsCardSaid :=
  Claim7.holds_tied_plain_at .later [] [.data, .data, .data] true (true, "d80caa8e10a744bba9d025721475d5e3aaea36d919095dfad0b93e2570a28365") false
    over (fun _ h => by cases h) (by kernel_rfl) (fun _ h => by cases h) scriptTells_row_tie rfl ⟨rfl, rfl⟩ (by kernel_rfl) rfl
    (fun f fn hf hfn => by
      obtain rfl : f = 4 := Option.some.inj ((show Tryd.prog.funcNamed "felucca/feluccalaw25.ScriptTells" = some 4 by kernel_rfl).symm.trans hf) |>.symm
      obtain rfl : fn = Tryd.f4 := (Option.some.inj (Tryd.func4.symm.trans hfn)).symm
      exact ⟨by kernel_rfl, fun j t ht => by
        rw [Tryd.params4] at ht
        have hm : t ∈ [38, 39, 40, 3] := by simpa using Array.mem_of_getElem? ht
        have hall : ([38, 39, 40, 3].all fun u => !Tryd.prog.wantsStandIn u) = true := by kernel_rfl
        exact (show Tryd.prog.wantsStandIn t = false by simpa using List.all_eq_true.1 hall t hm)⟩)
    (by kernel_rfl)
end Go.Proofs.YtaknikdbnfmlfaaDoor.scriptTells
namespace Go.Proofs.YtaknikdbnfmlfaaDoor
/-- The statement, under a short name, for the claim. -/
theorem scriptTells_holds : Rows.ScriptTellsCardSaid := scriptTells.proved
#print axioms scriptTells_holds
end Go.Proofs.YtaknikdbnfmlfaaDoor
