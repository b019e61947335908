/- The statement feluccalaw21.StateTells of the given program: the law's function answers true at every input, and leaves its arguments as they were. -/
import Derived.Test.YthlhbnaloefncaaGreatDoorRows
import Derived.Test.YthlhbnaloefncaaGreatDoorU7
import Derived.Test.YthlhbnaloefncaaGreatDoorTie
import Derived.Test.YthlhbnaloefncaaGreatDoorCards
import Derived.Test.YthlhbnaloefncaaGreatDoorShp
import Derived.WalkKit
import Derived.ProofKit
import Derived.OpenShut
import Derived.ShutString
import Derived.ChangeOld
import Derived.Below
import Derived.SizedLaws
import Derived.JoinedOf
import Derived.LaidMore
import Derived.Lay
import Derived.Stop.Joined
import Derived.MakeChecks
import Derived.Lib.LaidTab
import Derived.Stop.LaidErr
import Derived.SevenTiedAt
import Derived.Shelf.Vars
namespace Go.Proofs.YthlhbnaloefncaaGreatDoor.stateTells
open Go.ChangeShapes Go.WideShapes Go.ChangeAt Go.RowKit Go.Proofs.YthlhbnaloefncaaGreatDoor.Ex
open Go.ChangeMaps (open_string shut_string)
set_option linter.unusedVariables false
set_option linter.unusedSimpArgs false
theorem own : ownKnob Tryz.prog.godebug = none := by kernel_rfl
theorem laidOut : laidOutB Tryz.prog = true := by kernel_rfl
set_option maxRecDepth 100000 in
theorem lifted (os : Os) (started : os.Started) (H : Type) (enc : TypeId × Value → H) (F : Stop.Interp) :
    ReturnsInHanded {} Tryz.checked os 3 .any ((OpenSpec.ofChange Rows.stateTellsSpec).preRow enc Tryz.prog Tryz.f3 Rows.stateTellsRow.domain false [("unicode/utf8.acceptRanges", Rows.laid_unicode_utf8_acceptRanges), ("unicode/utf8.first", Rows.laid_unicode_utf8_first)]) (((OpenSpec.ofChange Rows.stateTellsSpec).at F).post enc Tryz.prog Tryz.f3 false true false false) := by
  have hx : ∃ places, DataW.whole enc Tryz.prog ((World.laidAll Tryz.prog os [("unicode/utf8.acceptRanges", Rows.laid_unicode_utf8_acceptRanges), ("unicode/utf8.first", Rows.laid_unicode_utf8_first)]).forCall (fun _ _ => 0) ⟨#[], #[.agg #[.slice none 0 0, .slice none 0 0, .int .i64 0, .int .i64 0, .slice none 0 0], .slice none 0 0, .agg #[.slice none 0 0, .slice none 0 0, .int .i64 0, .int .i64 0, .slice none 0 0]], []⟩).memory Tryz.f3.params.toList Rows.stateTellsSpec.vars false (#[.agg #[.slice none 0 0, .slice none 0 0, .int .i64 0, .int .i64 0, .slice none 0 0], .slice none 0 0, .agg #[.slice none 0 0, .slice none 0 0, .int .i64 0, .int .i64 0, .slice none 0 0]] : Array Value).toList 8 = some ([.agg [.agg [.nil, .nil, .lit (.int .i64 0), .lit (.int .i64 0)], .nil], .nil, .agg [.agg [.nil, .nil, .lit (.int .i64 0), .lit (.int .i64 0)], .nil]], [], places) := ⟨[], by kernel_rfl⟩
  obtain ⟨places, hx⟩ := hx
  refine lifted_row (C := Tryz.checked) (s := OpenSpec.ofChange Rows.stateTellsSpec) own started (by kernel_rfl) Tryz.func3 (World.laidAll Tryz.prog os [("unicode/utf8.acceptRanges", Rows.laid_unicode_utf8_acceptRanges), ("unicode/utf8.first", Rows.laid_unicode_utf8_first)]) #[.agg #[.slice none 0 0, .slice none 0 0, .int .i64 0, .int .i64 0, .slice none 0 0], .slice none 0 0, .agg #[.slice none 0 0, .slice none 0 0, .int .i64 0, .int .i64 0, .slice none 0 0]] (World.laidAll_os _ _ _) (World.shaped_of_ZipB (by kernel_rfl) (by kernel_rfl)) (by kernel_rfl)
    (OpenSpec.preRow_of_cond 8 hx (by kernel_rfl) (fun k hk => by cases hk) (by kernel_rfl) (by rw [MakeChecks.laidMetH_plain _ _ _ (by kernel_rfl)]; exact laidMet_laidAll _ (by kernel_rfl) (by kernel_rfl))) ?_
  intro W base args ds gs before hval0 hW hcond hsz0 hL hsh
  have xMaxP : Pr.MaxP W := cell_of_shapedOpen_int (P := Tryz.prog) (g := 0) (t := 3) (zero := #[.int .i64 0]) hsh (of_decide_eq_true (by kernel_rfl)) (by kernel_rfl) rfl (by kernel_rfl) (by kernel_rfl) Tryz.underlying3
  clear hsh hL
  have hval : ∀ (j : Nat) t v, Tryz.f3.params[j]? = some t → args[j]? = some v → Value.okWide Tryz.prog W .any base t v := hval0
  have hW' := hW
  obtain ⟨p, q, hA0, hV, rfl, hfz, hnd⟩ := hW
  have hA : DataW.TrodAll enc Tryz.prog W 0 (fun _ => true) true Tryz.f3.params.toList args.toList ds p := hA0
  rw [Tryz.params3] at hA hval
  obtain ⟨v0, vs0, d0, ds0, p0, q0, hargs, rfl, rfl, h0, r0⟩ := trodAll_cons hA
  obtain ⟨v1, vs1, d1, ds1, p1, q1, rfl, rfl, rfl, h1, r1⟩ := trodAll_cons r0
  obtain ⟨v2, vs2, d2, ds2, p2, q2, rfl, rfl, rfl, h2, r2⟩ := trodAll_cons r1
  obtain ⟨rfl, rfl, rfl⟩ := trodAll_nil r2
  obtain rfl : args = #[v0, v1, v2] := by cases args; simp_all
  obtain ⟨rfl, rfl⟩ := trodVars_none hV
  have k0 := h0
  have lt0 : ∀ x ∈ p0, x.block < W.heap.size := by obtain ⟨m, hm⟩ := k0; exact DataW.trod_lt m _ _ _ hm
  obtain ⟨a0, c0, rfl, g0, o0⟩ := open_agg (s := [.row kGContact, .row kGRange, .int .i64, .int .i64, .row kGBooked]) Tryz.underlying28 (OpT.struct (lss := [[.row kGContact, .row kGRange, .int .i64, .int .i64], [.row kGBooked]]) Tryz.underlying28 ⟨rfl, by kernel_rfl, (OpT.struct (lss := [[.row kGContact], [.row kGRange], [.int .i64], [.int .i64]]) Tryz.underlying25 ⟨rfl, by kernel_rfl, (OpK.t (OpK.row (s := [.int .i64, .int .i64, .int .i64, .int .i64, .int .i64, .int .i64]) Tryz.underlying22 (by kernel_rfl) (by decide) (OpT.struct (lss := [[.int .i64], [.int .i64], [.int .i64], [.int .i64], [.int .i64], [.int .i64]]) Tryz.underlying34 ⟨rfl, by kernel_rfl, (OpK.t (OpK.int Tryz.underlying3)), rfl, by kernel_rfl, (OpK.t (OpK.int Tryz.underlying3)), rfl, by kernel_rfl, (OpK.t (OpK.int Tryz.underlying3)), rfl, by kernel_rfl, (OpK.t (OpK.int Tryz.underlying3)), rfl, by kernel_rfl, (OpK.t (OpK.int Tryz.underlying3)), rfl, by kernel_rfl, (OpK.t (OpK.int Tryz.underlying3)), trivial⟩ (by kernel_rfl)))), rfl, by kernel_rfl, (OpK.t (OpK.row (s := [.int .i64, .int .i64, .int .i64, .int .i64, .int .i64]) Tryz.underlying23 (by kernel_rfl) (by decide) (OpT.struct (lss := [[.int .i64], [.int .i64], [.int .i64], [.int .i64], [.int .i64]]) Tryz.underlying36 ⟨rfl, by kernel_rfl, (OpK.t (OpK.int Tryz.underlying3)), rfl, by kernel_rfl, (OpK.t (OpK.int Tryz.underlying3)), rfl, by kernel_rfl, (OpK.t (OpK.int Tryz.underlying3)), rfl, by kernel_rfl, (OpK.t (OpK.int Tryz.underlying3)), rfl, by kernel_rfl, (OpK.t (OpK.int Tryz.underlying3)), trivial⟩ (by kernel_rfl)))), rfl, by kernel_rfl, (OpK.t (OpK.int Tryz.underlying3)), rfl, by kernel_rfl, (OpK.t (OpK.int Tryz.underlying3)), trivial⟩ (by kernel_rfl)), rfl, by kernel_rfl, (OpK.t (OpK.row (s := [.int .i64, .int .i64, .int .i64, .int .i64]) Tryz.underlying26 (by kernel_rfl) (by decide) (OpT.struct (lss := [[.int .i64], [.int .i64, .int .i64, .int .i64]]) Tryz.underlying50 ⟨rfl, by kernel_rfl, (OpK.t (OpK.int Tryz.underlying3)), rfl, by kernel_rfl, (OpT.arr (n := 3) Tryz.underlying48 Tryz.underlying3 (by kernel_rfl) (by kernel_rfl)), trivial⟩ (by kernel_rfl)))), trivial⟩ (by kernel_rfl)) (hval 0 28 v0 rfl rfl) h0
  have k1 := h1
  have lt1 : ∀ x ∈ p1, x.block < W.heap.size := by obtain ⟨m, hm⟩ := k1; exact DataW.trod_lt m _ _ _ hm
  obtain ⟨a1, g1, o1⟩ := open_one (OpK.row (s := [.int .i64, .int .i64, .int .i64, .int .i64, .int .i64, .int .i64, .int .i64, .int .i64, .int .i64, .int .i64, .int .i64, .int .i64, .int .i64, .int .i64, .str, .int .i64, .row [.int .i64], .int .i64, .int .i64]) Tryz.underlying29 (by kernel_rfl) (by decide) (OpT.struct (lss := [[.int .i64], [.int .i64, .int .i64, .int .i64, .int .i64, .int .i64, .int .i64, .int .i64, .int .i64, .int .i64, .int .i64, .int .i64, .int .i64, .int .i64], [.str], [.int .i64], [.row [.int .i64]], [.int .i64], [.int .i64]]) Tryz.underlying41 ⟨rfl, by kernel_rfl, (OpK.t (OpK.int Tryz.underlying3)), rfl, by kernel_rfl, (OpT.struct (lss := [[.int .i64], [.int .i64], [.int .i64, .int .i64, .int .i64, .int .i64, .int .i64, .int .i64], [.int .i64, .int .i64, .int .i64, .int .i64, .int .i64]]) Tryz.underlying38 ⟨rfl, by kernel_rfl, (OpK.t (OpK.int Tryz.underlying3)), rfl, by kernel_rfl, (OpK.t (OpK.int Tryz.underlying3)), rfl, by kernel_rfl, (OpT.struct (lss := [[.int .i64], [.int .i64], [.int .i64], [.int .i64], [.int .i64], [.int .i64]]) Tryz.underlying34 ⟨rfl, by kernel_rfl, (OpK.t (OpK.int Tryz.underlying3)), rfl, by kernel_rfl, (OpK.t (OpK.int Tryz.underlying3)), rfl, by kernel_rfl, (OpK.t (OpK.int Tryz.underlying3)), rfl, by kernel_rfl, (OpK.t (OpK.int Tryz.underlying3)), rfl, by kernel_rfl, (OpK.t (OpK.int Tryz.underlying3)), rfl, by kernel_rfl, (OpK.t (OpK.int Tryz.underlying3)), trivial⟩ (by kernel_rfl)), rfl, by kernel_rfl, (OpT.struct (lss := [[.int .i64], [.int .i64], [.int .i64], [.int .i64], [.int .i64]]) Tryz.underlying36 ⟨rfl, by kernel_rfl, (OpK.t (OpK.int Tryz.underlying3)), rfl, by kernel_rfl, (OpK.t (OpK.int Tryz.underlying3)), rfl, by kernel_rfl, (OpK.t (OpK.int Tryz.underlying3)), rfl, by kernel_rfl, (OpK.t (OpK.int Tryz.underlying3)), rfl, by kernel_rfl, (OpK.t (OpK.int Tryz.underlying3)), trivial⟩ (by kernel_rfl)), trivial⟩ (by kernel_rfl)), rfl, by kernel_rfl, (OpK.t (OpK.str Tryz.underlying9)), rfl, by kernel_rfl, (OpK.t (OpK.int Tryz.underlying3)), rfl, by kernel_rfl, (OpK.t (OpK.row (s := [.int .i64]) Tryz.underlying39 (by kernel_rfl) (by decide) (OpK.t (OpK.int Tryz.underlying3)))), rfl, by kernel_rfl, (OpK.t (OpK.int Tryz.underlying3)), rfl, by kernel_rfl, (OpK.t (OpK.int Tryz.underlying3)), trivial⟩ (by kernel_rfl))) (cells_slice Tryz.underlying29 (hval 1 29 v1 rfl rfl)) h1
  have k2 := h2
  have lt2 : ∀ x ∈ p2, x.block < W.heap.size := by obtain ⟨m, hm⟩ := k2; exact DataW.trod_lt m _ _ _ hm
  obtain ⟨a2, c2, rfl, g2, o2⟩ := open_agg (s := [.row kGContact, .row kGRange, .int .i64, .int .i64, .row kGBooked]) Tryz.underlying28 (OpT.struct (lss := [[.row kGContact, .row kGRange, .int .i64, .int .i64], [.row kGBooked]]) Tryz.underlying28 ⟨rfl, by kernel_rfl, (OpT.struct (lss := [[.row kGContact], [.row kGRange], [.int .i64], [.int .i64]]) Tryz.underlying25 ⟨rfl, by kernel_rfl, (OpK.t (OpK.row (s := [.int .i64, .int .i64, .int .i64, .int .i64, .int .i64, .int .i64]) Tryz.underlying22 (by kernel_rfl) (by decide) (OpT.struct (lss := [[.int .i64], [.int .i64], [.int .i64], [.int .i64], [.int .i64], [.int .i64]]) Tryz.underlying34 ⟨rfl, by kernel_rfl, (OpK.t (OpK.int Tryz.underlying3)), rfl, by kernel_rfl, (OpK.t (OpK.int Tryz.underlying3)), rfl, by kernel_rfl, (OpK.t (OpK.int Tryz.underlying3)), rfl, by kernel_rfl, (OpK.t (OpK.int Tryz.underlying3)), rfl, by kernel_rfl, (OpK.t (OpK.int Tryz.underlying3)), rfl, by kernel_rfl, (OpK.t (OpK.int Tryz.underlying3)), trivial⟩ (by kernel_rfl)))), rfl, by kernel_rfl, (OpK.t (OpK.row (s := [.int .i64, .int .i64, .int .i64, .int .i64, .int .i64]) Tryz.underlying23 (by kernel_rfl) (by decide) (OpT.struct (lss := [[.int .i64], [.int .i64], [.int .i64], [.int .i64], [.int .i64]]) Tryz.underlying36 ⟨rfl, by kernel_rfl, (OpK.t (OpK.int Tryz.underlying3)), rfl, by kernel_rfl, (OpK.t (OpK.int Tryz.underlying3)), rfl, by kernel_rfl, (OpK.t (OpK.int Tryz.underlying3)), rfl, by kernel_rfl, (OpK.t (OpK.int Tryz.underlying3)), rfl, by kernel_rfl, (OpK.t (OpK.int Tryz.underlying3)), trivial⟩ (by kernel_rfl)))), rfl, by kernel_rfl, (OpK.t (OpK.int Tryz.underlying3)), rfl, by kernel_rfl, (OpK.t (OpK.int Tryz.underlying3)), trivial⟩ (by kernel_rfl)), rfl, by kernel_rfl, (OpK.t (OpK.row (s := [.int .i64, .int .i64, .int .i64, .int .i64]) Tryz.underlying26 (by kernel_rfl) (by decide) (OpT.struct (lss := [[.int .i64], [.int .i64, .int .i64, .int .i64]]) Tryz.underlying50 ⟨rfl, by kernel_rfl, (OpK.t (OpK.int Tryz.underlying3)), rfl, by kernel_rfl, (OpT.arr (n := 3) Tryz.underlying48 Tryz.underlying3 (by kernel_rfl) (by kernel_rfl)), trivial⟩ (by kernel_rfl)))), trivial⟩ (by kernel_rfl)) (hval 2 28 v2 rfl rfl) h2
  obtain ⟨k, hk⟩ := StateTells_pure a0 (okS_1 o0) (okS_2 o0) a1 (rows_ok o1) a2
  have hc := (feluccalaw21_StateTells_e k).ok (a0, a1, a2) true W [_, v1, _] hk (by
    show PTIs _ W [.agg lGState, .one (.row 41 kGFeluccalaw21Act), .agg lGState] _ _
    simp only [PTIs, PKIs, LKIs]
    exact ⟨_, _, rfl, ⟨_, rfl, by simpa only [LTIs, LKIs, TupIs] using g0⟩, _, _, rfl, g1, _, rfl, ⟨_, rfl, by simpa only [LTIs, LKIs, TupIs] using g2⟩⟩) xMaxP
  refine hc.mono fun e W' ⟨v, he, hret, bel⟩ => ?_
  subst he
  have hv := rets_bool hret
  subst hv
  exact ⟨_, rfl, _, _, _, [], _, [], hW', trodAll_mk1 (shut_bool Tryz.underlying4 _), (trodAll_cons_mk (Below.trod laidOut (by kernel_rfl) (of_decide_eq_true (by kernel_rfl)) k0 bel lt0) (trodAll_cons_mk (Below.trod laidOut (by kernel_rfl) (of_decide_eq_true (by kernel_rfl)) k1 bel lt1) (trodAll_cons_mk (Below.trod laidOut (by kernel_rfl) (of_decide_eq_true (by kernel_rfl)) k2 bel lt2) trodAll_mk0))), rfl, bel.frame _, fun h => by cases h⟩
theorem over : Rows.stateTellsRow.holds Tryz.pinned (OpenSpec.ofChange Rows.stateTellsSpec) :=
  OpenClaim.holds_of_cond 3 Tryz.f3 rfl rfl rfl rfl rfl rfl rfl ⟨rfl, rfl, rfl, rfl, rfl⟩ rfl rfl rfl rfl rfl (by kernel_rfl) Tryz.func3 (by kernel_rfl)
    (of_decide_eq_true (by kernel_rfl)) (by unfold Func.isWrapper; first | (rw [if_pos (by decide +kernel)]; kernel_rfl) | (rw [if_neg (by decide +kernel)]; exact ⟨rfl, rfl⟩))
    (fun os started H enc _ F => by rw [OpenClaim.pre_eq_preRow]; exact lifted os started H enc F)
theorem proved : Rows.StateTellsCardSaid :=
  Claim7.holds_tied_plain_at .later [] [.data, .pinned] true (true, "bfc70092d3948fb94f16409883d01212acbc66b924c0288c8ac01d770b3d87a3") false
    over (fun _ h => by cases h) (by kernel_rfl) (fun _ h => by cases h) stateTells_row_tie rfl ⟨rfl, rfl⟩ (by kernel_rfl) rfl
    (fun f fn hf hfn => by
      obtain rfl : f = 3 := Option.some.inj ((show Tryz.prog.funcNamed "felucca/feluccalaw21.StateTells" = some 3 by kernel_rfl).symm.trans hf) |>.symm
      obtain rfl : fn = Tryz.f3 := (Option.some.inj (Tryz.func3.symm.trans hfn)).symm
      exact ⟨by kernel_rfl, fun j t ht => by
        rw [Tryz.params3] at ht
        have hm : t ∈ [28, 29, 28] := by simpa using Array.mem_of_getElem? ht
        have hall : ([28, 29, 28].all fun u => !Tryz.prog.wantsStandIn u) = true := by kernel_rfl
        exact (show Tryz.prog.wantsStandIn t = false by simpa using List.all_eq_true.1 hall t hm)⟩)
    (by kernel_rfl)
end Go.Proofs.YthlhbnaloefncaaGreatDoor.stateTells
namespace Go.Proofs.YthlhbnaloefncaaGreatDoor
/-- The statement, under a short name, for the claim. -/
theorem stateTells_holds : Rows.StateTellsCardSaid := stateTells.proved
#print axioms stateTells_holds
end Go.Proofs.YthlhbnaloefncaaGreatDoor
