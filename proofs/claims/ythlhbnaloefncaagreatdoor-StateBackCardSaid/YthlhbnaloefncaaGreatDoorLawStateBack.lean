/- The statement feluccalaw21.StateBack of the given program: the law's function answers true at every input, and leaves its arguments as they were. -/
import Derived.Test.YthlhbnaloefncaaGreatDoorRows
import Derived.Test.YthlhbnaloefncaaGreatDoorS6
import Derived.Test.YthlhbnaloefncaaGreatDoorTie
import Derived.Test.YthlhbnaloefncaaGreatDoorCards
import Derived.Test.YthlhbnaloefncaaGreatDoorShp
import Derived.WalkKit
import Derived.ProofKit
import Derived.OpenShut
import Derived.ShutString
import Derived.ChangeOld
import Derived.Below
import Derived.SizedLaws
import Derived.JoinedOf
import Derived.LaidMore
import Derived.Lay
import Derived.Stop.Joined
import Derived.MakeChecks
import Derived.Lib.LaidTab
import Derived.Stop.LaidErr
import Derived.SevenTiedAt
import Derived.Shelf.Vars
namespace Go.Proofs.YthlhbnaloefncaaGreatDoor.stateBack
open Go.ChangeShapes Go.WideShapes Go.ChangeAt Go.RowKit Go.Proofs.YthlhbnaloefncaaGreatDoor.Ex
open Go.ChangeMaps (open_string shut_string)
set_option linter.unusedVariables false
set_option linter.unusedSimpArgs false
theorem own : ownKnob Tryz.prog.godebug = none := by kernel_rfl
theorem laidOut : laidOutB Tryz.prog = true := by kernel_rfl
set_option maxRecDepth 100000 in
theorem lifted (os : Os) (started : os.Started) (H : Type) (enc : TypeId × Value → H) (F : Stop.Interp) :
    ReturnsInHanded {} Tryz.checked os 5 .any ((OpenSpec.ofChange Rows.stateBackSpec).preRow enc Tryz.prog Tryz.f5 Rows.stateBackRow.domain false [("unicode/utf8.acceptRanges", Rows.laid_unicode_utf8_acceptRanges), ("unicode/utf8.first", Rows.laid_unicode_utf8_first)]) (((OpenSpec.ofChange Rows.stateBackSpec).at F).post enc Tryz.prog Tryz.f5 false true false false) := by
  have hx : ∃ places, DataW.whole enc Tryz.prog ((World.laidAll Tryz.prog os [("unicode/utf8.acceptRanges", Rows.laid_unicode_utf8_acceptRanges), ("unicode/utf8.first", Rows.laid_unicode_utf8_first)]).forCall (fun _ _ => 0) ⟨#[], #[.agg #[.slice none 0 0, .slice none 0 0, .int .i64 0, .int .i64 0, .slice none 0 0], .slice none 0 0, .int .i64 0, .int .i64 0], []⟩).memory Tryz.f5.params.toList Rows.stateBackSpec.vars false (#[.agg #[.slice none 0 0, .slice none 0 0, .int .i64 0, .int .i64 0, .slice none 0 0], .slice none 0 0, .int .i64 0, .int .i64 0] : Array Value).toList 8 = some ([.agg [.agg [.nil, .nil, .lit (.int .i64 0), .lit (.int .i64 0)], .nil], .nil, .lit (.int .i64 0), .lit (.int .i64 0)], [], places) := ⟨[], by kernel_rfl⟩
  obtain ⟨places, hx⟩ := hx
  refine lifted_row (C := Tryz.checked) (s := OpenSpec.ofChange Rows.stateBackSpec) own started (by kernel_rfl) Tryz.func5 (World.laidAll Tryz.prog os [("unicode/utf8.acceptRanges", Rows.laid_unicode_utf8_acceptRanges), ("unicode/utf8.first", Rows.laid_unicode_utf8_first)]) #[.agg #[.slice none 0 0, .slice none 0 0, .int .i64 0, .int .i64 0, .slice none 0 0], .slice none 0 0, .int .i64 0, .int .i64 0] (World.laidAll_os _ _ _) (World.shaped_of_ZipB (by kernel_rfl) (by kernel_rfl)) (by kernel_rfl)
    (OpenSpec.preRow_of_cond 8 hx (by kernel_rfl) (fun k hk => by cases hk) (by kernel_rfl) (by rw [MakeChecks.laidMetH_plain _ _ _ (by kernel_rfl)]; exact laidMet_laidAll _ (by kernel_rfl) (by kernel_rfl))) ?_
  intro W base args ds gs before hval0 hW hcond hsz0 hL hsh
  have xMaxP : Pr.MaxP W := cell_of_shapedOpen_int (P := Tryz.prog) (g := 0) (t := 3) (zero := #[.int .i64 0]) hsh (of_decide_eq_true (by kernel_rfl)) (by kernel_rfl) rfl (by kernel_rfl) (by kernel_rfl) Tryz.underlying3
  clear hsh hL
  have hval : ∀ (j : Nat) t v, Tryz.f5.params[j]? = some t → args[j]? = some v → Value.okWide Tryz.prog W .any base t v := hval0
  have hW' := hW
  obtain ⟨p, q, hA0, hV, rfl, hfz, hnd⟩ := hW
  have hA : DataW.TrodAll enc Tryz.prog W 0 (fun _ => true) true Tryz.f5.params.toList args.toList ds p := hA0
  rw [Tryz.params5] at hA hval
  obtain ⟨v0, vs0, d0, ds0, p0, q0, hargs, rfl, rfl, h0, r0⟩ := trodAll_cons hA
  obtain ⟨v1, vs1, d1, ds1, p1, q1, rfl, rfl, rfl, h1, r1⟩ := trodAll_cons r0
  obtain ⟨v2, vs2, d2, ds2, p2, q2, rfl, rfl, rfl, h2, r2⟩ := trodAll_cons r1
  obtain ⟨v3, vs3, d3, ds3, p3, q3, rfl, rfl, rfl, h3, r3⟩ := trodAll_cons r2
  obtain ⟨rfl, rfl, rfl⟩ := trodAll_nil r3
  obtain rfl : args = #[v0, v1, v2, v3] := by cases args; simp_all
  obtain ⟨rfl, rfl⟩ := trodVars_none hV
  have k0 := h0
  have lt0 : ∀ x ∈ p0, x.block < W.heap.size := by obtain ⟨m, hm⟩ := k0; exact DataW.trod_lt m _ _ _ hm
  obtain ⟨a0, c0, rfl, g0, o0⟩ := open_agg (s := [.row kGContact, .row kGRange, .int .i64, .int .i64, .row kGBooked]) Tryz.underlying28 (OpT.struct (lss := [[.row kGContact, .row kGRange, .int .i64, .int .i64], [.row kGBooked]]) Tryz.underlying28 ⟨rfl, by kernel_rfl, (OpT.struct (lss := [[.row kGContact], [.row kGRange], [.int .i64], [.int .i64]]) Tryz.underlying25 ⟨rfl, by kernel_rfl, (OpK.t (OpK.row (s := [.int .i64, .int .i64, .int .i64, .int .i64, .int .i64, .int .i64]) Tryz.underlying22 (by kernel_rfl) (by decide) (OpT.struct (lss := [[.int .i64], [.int .i64], [.int .i64], [.int .i64], [.int .i64], [.int .i64]]) Tryz.underlying34 ⟨rfl, by kernel_rfl, (OpK.t (OpK.int Tryz.underlying3)), rfl, by kernel_rfl, (OpK.t (OpK.int Tryz.underlying3)), rfl, by kernel_rfl, (OpK.t (OpK.int Tryz.underlying3)), rfl, by kernel_rfl, (OpK.t (OpK.int Tryz.underlying3)), rfl, by kernel_rfl, (OpK.t (OpK.int Tryz.underlying3)), rfl, by kernel_rfl, (OpK.t (OpK.int Tryz.underlying3)), trivial⟩ (by kernel_rfl)))), rfl, by kernel_rfl, (OpK.t (OpK.row (s := [.int .i64, .int .i64, .int .i64, .int .i64, .int .i64]) Tryz.underlying23 (by kernel_rfl) (by decide) (OpT.struct (lss := [[.int .i64], [.int .i64], [.int .i64], [.int .i64], [.int .i64]]) Tryz.underlying36 ⟨rfl, by kernel_rfl, (OpK.t (OpK.int Tryz.underlying3)), rfl, by kernel_rfl, (OpK.t (OpK.int Tryz.underlying3)), rfl, by kernel_rfl, (OpK.t (OpK.int Tryz.underlying3)), rfl, by kernel_rfl, (OpK.t (OpK.int Tryz.underlying3)), rfl, by kernel_rfl, (OpK.t (OpK.int Tryz.underlying3)), trivial⟩ (by kernel_rfl)))), rfl, by kernel_rfl, (OpK.t (OpK.int Tryz.underlying3)), rfl, by kernel_rfl, (OpK.t (OpK.int Tryz.underlying3)), trivial⟩ (by kernel_rfl)), rfl, by kernel_rfl, (OpK.t (OpK.row (s := [.int .i64, .int .i64, .int .i64, .int .i64]) Tryz.underlying26 (by kernel_rfl) (by decide) (OpT.struct (lss := [[.int .i64], [.int .i64, .int .i64, .int .i64]]) Tryz.underlying50 ⟨rfl, by kernel_rfl, (OpK.t (OpK.int Tryz.underlying3)), rfl, by kernel_rfl, (OpT.arr (n := 3) Tryz.underlying48 Tryz.underlying3 (by kernel_rfl) (by kernel_rfl)), trivial⟩ (by kernel_rfl)))), trivial⟩ (by kernel_rfl)) (hval 0 28 v0 rfl rfl) h0
  have k1 := h1
  have lt1 : ∀ x ∈ p1, x.block < W.heap.size := by obtain ⟨m, hm⟩ := k1; exact DataW.trod_lt m _ _ _ hm
  obtain ⟨a1, g1, o1⟩ := open_one (OpK.row (s := [.int .i64]) Tryz.underlying39 (by kernel_rfl) (by decide) (OpK.t (OpK.int Tryz.underlying3))) (cells_slice Tryz.underlying39 (hval 1 39 v1 rfl rfl)) h1
  obtain ⟨a2, rfl, rfl, rfl, o2⟩ := open_int Tryz.underlying3 (hval 2 3 v2 rfl rfl) h2
  obtain ⟨a3, rfl, rfl, rfl, o3⟩ := open_int Tryz.underlying3 (hval 3 3 v3 rfl rfl) h3
  obtain ⟨k, hk⟩ := StateBack_pure a0 (okS_1 o0) (okS_2 o0) a1 a2 a3
  have hc := (feluccalaw21_StateBack_e k).ok (a0, a1, a2, a3) true W [_, v1, (Value.int .i64 a2), (Value.int .i64 a3)] hk (by
    show PTIs _ W [.agg lGState, .one (.row 3 [.int .i64]), .one (.sc (.int .i64)), .one (.sc (.int .i64))] _ _
    simp only [PTIs, PKIs, LKIs]
    exact ⟨_, _, rfl, ⟨_, rfl, by simpa only [LTIs, LKIs, TupIs] using g0⟩, _, _, rfl, g1, _, _, rfl, by simp only [SKIs], _, rfl, by simp only [SKIs]⟩) xMaxP
  refine hc.mono fun e W' ⟨v, he, hret, bel⟩ => ?_
  subst he
  have hv := rets_bool hret
  subst hv
  exact ⟨_, rfl, _, _, _, [], _, [], hW', trodAll_mk1 (shut_bool Tryz.underlying4 _), (trodAll_cons_mk (Below.trod laidOut (by kernel_rfl) (of_decide_eq_true (by kernel_rfl)) k0 bel lt0) (trodAll_cons_mk (Below.trod laidOut (by kernel_rfl) (of_decide_eq_true (by kernel_rfl)) k1 bel lt1) (trodAll_cons_mk (shut_int Tryz.underlying3 o2) (trodAll_cons_mk (shut_int Tryz.underlying3 o3) trodAll_mk0)))), rfl, bel.frame _, fun h => by cases h⟩
theorem over : Rows.stateBackRow.holds Tryz.pinned (OpenSpec.ofChange Rows.stateBackSpec) :=
  OpenClaim.holds_of_cond 5 Tryz.f5 rfl rfl rfl rfl rfl rfl rfl ⟨rfl, rfl, rfl, rfl, rfl⟩ rfl rfl rfl rfl rfl (by kernel_rfl) Tryz.func5 (by kernel_rfl)
    (of_decide_eq_true (by kernel_rfl)) (by unfold Func.isWrapper; first | (rw [if_pos (by decide +kernel)]; kernel_rfl) | (rw [if_neg (by decide +kernel)]; exact ⟨rfl, rfl⟩))
    (fun os started H enc _ F => by rw [OpenClaim.pre_eq_preRow]; exact lifted os started H enc F)
theorem proved : Rows.StateBackCardSaid :=
  Claim7.holds_tied_plain_at .later [] [.data, .pinned] true (true, "bfc70092d3948fb94f16409883d01212acbc66b924c0288c8ac01d770b3d87a3") false
    over (fun _ h => by cases h) (by kernel_rfl) (fun _ h => by cases h) stateBack_row_tie rfl ⟨rfl, rfl⟩ (by kernel_rfl) rfl
    (fun f fn hf hfn => by
      obtain rfl : f = 5 := Option.some.inj ((show Tryz.prog.funcNamed "felucca/feluccalaw21.StateBack" = some 5 by kernel_rfl).symm.trans hf) |>.symm
      obtain rfl : fn = Tryz.f5 := (Option.some.inj (Tryz.func5.symm.trans hfn)).symm
      exact ⟨by kernel_rfl, fun j t ht => by
        rw [Tryz.params5] at ht
        have hm : t ∈ [28, 39, 3, 3] := by simpa using Array.mem_of_getElem? ht
        have hall : ([28, 39, 3, 3].all fun u => !Tryz.prog.wantsStandIn u) = true := by kernel_rfl
        exact (show Tryz.prog.wantsStandIn t = false by simpa using List.all_eq_true.1 hall t hm)⟩)
    (by kernel_rfl)
end Go.Proofs.YthlhbnaloefncaaGreatDoor.stateBack
namespace Go.Proofs.YthlhbnaloefncaaGreatDoor
/-- The statement, under a short name, for the claim. -/
theorem stateBack_holds : Rows.StateBackCardSaid := stateBack.proved
#print axioms stateBack_holds
end Go.Proofs.YthlhbnaloefncaaGreatDoor
