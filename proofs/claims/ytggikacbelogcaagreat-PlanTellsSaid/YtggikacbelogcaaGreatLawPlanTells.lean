/- The statement feluccalaw08.PlanTells of the given program: the law's function answers true at every input, and leaves its arguments as they were. -/
import Derived.Test.YtggikacbelogcaaGreatRows
import Derived.Test.YtggikacbelogcaaGreatExOp
import Derived.Test.YtggikacbelogcaaGreatF4
import Derived.Test.YtggikacbelogcaaGreatQi
import Derived.WalkKit
import Derived.ProofKit
import Derived.OpenShut
import Derived.ShutString
import Derived.ChangeOld
import Derived.Below
import Derived.SizedLaws
import Derived.JoinedOf
namespace Go.Proofs.YtggikacbelogcaaGreat.planTells
open Go.ChangeShapes Go.WideShapes Go.ChangeAt Go.RowKit Go.Proofs.YtggikacbelogcaaGreat.Ex
open Go.ChangeMaps (open_string shut_string)
theorem own : ownKnob Tryz.prog.godebug = none := by kernel_rfl
theorem laidOut : laidOutB Tryz.prog = true := by kernel_rfl
set_option maxRecDepth 100000 in
theorem lifted (os : Os) (started : os.Started) (H : Type) (enc : TypeId × Value → H) :
    ReturnsInHanded {} Tryz.checked os 3 .any (Rows.planTellsSpec.pre6 enc Tryz.prog Tryz.f3 [] false) (Rows.planTellsSpec.post enc Tryz.prog Tryz.f3 false true false false) := by
  refine returnsInHanded_of_change_sized (C := Tryz.checked) own started (by kernel_rfl) Tryz.func3
    (ChangeSpec.witness6 (enc := enc) (C := Tryz.checked) false ⟨#[], #[.agg #[.slice none 0 0, .slice none 0 0, .int .i64 0, .int .i64 0], .slice none 0 0, .agg #[.slice none 0 0, .slice none 0 0, .int .i64 0, .int .i64 0]], []⟩ 8 (by kernel_rfl) (by kernel_rfl) (by kernel_rfl) (by kernel_rfl)) ?_
  intro W base args ds gs before hval0 hW _ hsz0 _
  have hval : ∀ (j : Nat) t v, Tryz.f3.params[j]? = some t → args[j]? = some v → Value.okWide Tryz.prog W .any base t v := hval0
  have hW' := hW
  obtain ⟨p, q, hA0, hV, rfl, hfz, hnd⟩ := hW
  have hA : DataW.TrodAll enc Tryz.prog W 0 (fun _ => true) true Tryz.f3.params.toList args.toList ds p := hA0
  rw [Tryz.params3] at hA hval
  obtain ⟨v0, vs0, d0, ds0, p0, q0, hargs, rfl, rfl, h0, r0⟩ := trodAll_cons hA
  obtain ⟨v1, vs1, d1, ds1, p1, q1, rfl, rfl, rfl, h1, r1⟩ := trodAll_cons r0
  obtain ⟨v2, vs2, d2, ds2, p2, q2, rfl, rfl, rfl, h2, r2⟩ := trodAll_cons r1
  obtain ⟨rfl, rfl, rfl⟩ := trodAll_nil r2
  obtain rfl : args = #[v0, v1, v2] := by cases args; simp_all
  obtain ⟨rfl, rfl⟩ := trodVars_none hV
  have k0 := h0
  have lt0 : ∀ x ∈ p0, x.block < W.heap.size := by obtain ⟨m, hm⟩ := k0; exact DataW.trod_lt m _ _ _ hm
  obtain ⟨a0, c0, rfl, g0, o0⟩ := open_agg (s := [.row kT33, .row kT35, .int .i64, .int .i64]) Tryz.underlying25 (OpT.struct (lss := [[.row kT33], [.row kT35], [.int .i64], [.int .i64]]) Tryz.underlying25 ⟨rfl, by kernel_rfl, (OpK.t (OpK.row (s := [.int .i64, .int .i64, .int .i64, .int .i64, .int .i64, .int .i64]) Tryz.underlying22 (by kernel_rfl) (by decide) (OpT.struct (lss := [[.int .i64], [.int .i64], [.int .i64], [.int .i64], [.int .i64], [.int .i64]]) Tryz.underlying33 ⟨rfl, by kernel_rfl, (OpK.t (OpK.int Tryz.underlying3)), rfl, by kernel_rfl, (OpK.t (OpK.int Tryz.underlying3)), rfl, by kernel_rfl, (OpK.t (OpK.int Tryz.underlying3)), rfl, by kernel_rfl, (OpK.t (OpK.int Tryz.underlying3)), rfl, by kernel_rfl, (OpK.t (OpK.int Tryz.underlying3)), rfl, by kernel_rfl, (OpK.t (OpK.int Tryz.underlying3)), trivial⟩ (by kernel_rfl)))), rfl, by kernel_rfl, (OpK.t (OpK.row (s := [.int .i64, .int .i64, .int .i64, .int .i64, .int .i64]) Tryz.underlying23 (by kernel_rfl) (by decide) (OpT.struct (lss := [[.int .i64], [.int .i64], [.int .i64], [.int .i64], [.int .i64]]) Tryz.underlying35 ⟨rfl, by kernel_rfl, (OpK.t (OpK.int Tryz.underlying3)), rfl, by kernel_rfl, (OpK.t (OpK.int Tryz.underlying3)), rfl, by kernel_rfl, (OpK.t (OpK.int Tryz.underlying3)), rfl, by kernel_rfl, (OpK.t (OpK.int Tryz.underlying3)), rfl, by kernel_rfl, (OpK.t (OpK.int Tryz.underlying3)), trivial⟩ (by kernel_rfl)))), rfl, by kernel_rfl, (OpK.t (OpK.int Tryz.underlying3)), rfl, by kernel_rfl, (OpK.t (OpK.int Tryz.underlying3)), trivial⟩ (by kernel_rfl)) (hval 0 25 v0 rfl rfl) h0
  have k1 := h1
  have lt1 : ∀ x ∈ p1, x.block < W.heap.size := by obtain ⟨m, hm⟩ := k1; exact DataW.trod_lt m _ _ _ hm
  obtain ⟨a1, g1, o1⟩ := open_one (OpK.row (s := [.int .i64, .int .i64, .int .i64, .int .i64, .int .i64, .int .i64, .int .i64, .int .i64, .int .i64, .int .i64, .int .i64, .int .i64, .int .i64, .int .i64, .int .i64]) Tryz.underlying26 (by kernel_rfl) (by decide) (OpT.struct (lss := [[.int .i64], [.int .i64, .int .i64, .int .i64, .int .i64, .int .i64, .int .i64, .int .i64, .int .i64, .int .i64, .int .i64, .int .i64, .int .i64, .int .i64], [.int .i64]]) Tryz.underlying39 ⟨rfl, by kernel_rfl, (OpK.t (OpK.int Tryz.underlying3)), rfl, by kernel_rfl, (OpT.struct (lss := [[.int .i64], [.int .i64], [.int .i64, .int .i64, .int .i64, .int .i64, .int .i64, .int .i64], [.int .i64, .int .i64, .int .i64, .int .i64, .int .i64]]) Tryz.underlying37 ⟨rfl, by kernel_rfl, (OpK.t (OpK.int Tryz.underlying3)), rfl, by kernel_rfl, (OpK.t (OpK.int Tryz.underlying3)), rfl, by kernel_rfl, (OpT.struct (lss := [[.int .i64], [.int .i64], [.int .i64], [.int .i64], [.int .i64], [.int .i64]]) Tryz.underlying33 ⟨rfl, by kernel_rfl, (OpK.t (OpK.int Tryz.underlying3)), rfl, by kernel_rfl, (OpK.t (OpK.int Tryz.underlying3)), rfl, by kernel_rfl, (OpK.t (OpK.int Tryz.underlying3)), rfl, by kernel_rfl, (OpK.t (OpK.int Tryz.underlying3)), rfl, by kernel_rfl, (OpK.t (OpK.int Tryz.underlying3)), rfl, by kernel_rfl, (OpK.t (OpK.int Tryz.underlying3)), trivial⟩ (by kernel_rfl)), rfl, by kernel_rfl, (OpT.struct (lss := [[.int .i64], [.int .i64], [.int .i64], [.int .i64], [.int .i64]]) Tryz.underlying35 ⟨rfl, by kernel_rfl, (OpK.t (OpK.int Tryz.underlying3)), rfl, by kernel_rfl, (OpK.t (OpK.int Tryz.underlying3)), rfl, by kernel_rfl, (OpK.t (OpK.int Tryz.underlying3)), rfl, by kernel_rfl, (OpK.t (OpK.int Tryz.underlying3)), rfl, by kernel_rfl, (OpK.t (OpK.int Tryz.underlying3)), trivial⟩ (by kernel_rfl)), trivial⟩ (by kernel_rfl)), rfl, by kernel_rfl, (OpK.t (OpK.int Tryz.underlying3)), trivial⟩ (by kernel_rfl))) (cells_slice Tryz.underlying26 (hval 1 26 v1 rfl rfl)) h1
  have k2 := h2
  have lt2 : ∀ x ∈ p2, x.block < W.heap.size := by obtain ⟨m, hm⟩ := k2; exact DataW.trod_lt m _ _ _ hm
  obtain ⟨a2, c2, rfl, g2, o2⟩ := open_agg (s := [.row kT33, .row kT35, .int .i64, .int .i64]) Tryz.underlying25 (OpT.struct (lss := [[.row kT33], [.row kT35], [.int .i64], [.int .i64]]) Tryz.underlying25 ⟨rfl, by kernel_rfl, (OpK.t (OpK.row (s := [.int .i64, .int .i64, .int .i64, .int .i64, .int .i64, .int .i64]) Tryz.underlying22 (by kernel_rfl) (by decide) (OpT.struct (lss := [[.int .i64], [.int .i64], [.int .i64], [.int .i64], [.int .i64], [.int .i64]]) Tryz.underlying33 ⟨rfl, by kernel_rfl, (OpK.t (OpK.int Tryz.underlying3)), rfl, by kernel_rfl, (OpK.t (OpK.int Tryz.underlying3)), rfl, by kernel_rfl, (OpK.t (OpK.int Tryz.underlying3)), rfl, by kernel_rfl, (OpK.t (OpK.int Tryz.underlying3)), rfl, by kernel_rfl, (OpK.t (OpK.int Tryz.underlying3)), rfl, by kernel_rfl, (OpK.t (OpK.int Tryz.underlying3)), trivial⟩ (by kernel_rfl)))), rfl, by kernel_rfl, (OpK.t (OpK.row (s := [.int .i64, .int .i64, .int .i64, .int .i64, .int .i64]) Tryz.underlying23 (by kernel_rfl) (by decide) (OpT.struct (lss := [[.int .i64], [.int .i64], [.int .i64], [.int .i64], [.int .i64]]) Tryz.underlying35 ⟨rfl, by kernel_rfl, (OpK.t (OpK.int Tryz.underlying3)), rfl, by kernel_rfl, (OpK.t (OpK.int Tryz.underlying3)), rfl, by kernel_rfl, (OpK.t (OpK.int Tryz.underlying3)), rfl, by kernel_rfl, (OpK.t (OpK.int Tryz.underlying3)), rfl, by kernel_rfl, (OpK.t (OpK.int Tryz.underlying3)), trivial⟩ (by kernel_rfl)))), rfl, by kernel_rfl, (OpK.t (OpK.int Tryz.underlying3)), rfl, by kernel_rfl, (OpK.t (OpK.int Tryz.underlying3)), trivial⟩ (by kernel_rfl)) (hval 2 25 v2 rfl rfl) h2
  obtain ⟨k, hk⟩ := PlanTells_pure a0 (rows_ok (okv_1 o0)) (rows_ok (okv_2 o0)) a1 (rows_ok o1) a2
  have hc := (feluccalaw08_PlanTells_e k).ok (a0, a1, a2) true W [_, v1, _] hk (by
    show PTIs _ W [.agg lT25, .one (.row 39 kT39), .agg lT25] _ _
    simp only [PTIs, PKIs, LKIs]
    exact ⟨_, _, rfl, ⟨_, rfl, by simpa only [LTIs, LKIs, TupIs] using g0⟩, _, _, rfl, g1, _, rfl, ⟨_, rfl, by simpa only [LTIs, LKIs, TupIs] using g2⟩⟩)
  refine hc.mono fun e W' ⟨v, he, hret, bel⟩ => ?_
  subst he
  have hv := rets_bool hret
  subst hv
  exact ⟨_, rfl, _, _, _, [], _, [], hW', trodAll_mk1 (shut_bool Tryz.underlying4 _), (trodAll_cons_mk (Below.trod laidOut (by kernel_rfl) (of_decide_eq_true (by kernel_rfl)) k0 bel lt0) (trodAll_cons_mk (Below.trod laidOut (by kernel_rfl) (of_decide_eq_true (by kernel_rfl)) k1 bel lt1) (trodAll_cons_mk (Below.trod laidOut (by kernel_rfl) (of_decide_eq_true (by kernel_rfl)) k2 bel lt2) trodAll_mk0))), rfl, bel.frame _, fun h => by cases h⟩
theorem proved : Rows.PlanTellsSaid :=
  OpenClaim.holds_of_wide 3 Tryz.f3 rfl rfl rfl rfl rfl rfl rfl ⟨rfl, rfl, rfl, rfl, rfl⟩ rfl rfl rfl rfl rfl (by kernel_rfl) Tryz.func3 (by kernel_rfl)
    (of_decide_eq_true (by kernel_rfl)) (by unfold Func.isWrapper; first | (rw [if_pos (by decide +kernel)]; kernel_rfl) | (rw [if_neg (by decide +kernel)]; exact ⟨rfl, rfl⟩))
    (fun os started H enc _ => lifted os started H enc)
end Go.Proofs.YtggikacbelogcaaGreat.planTells
namespace Go.Proofs.YtggikacbelogcaaGreat
/-- The statement, under a short name, for the claim. -/
theorem planTells_holds : Rows.PlanTellsSaid := planTells.proved
#print axioms planTells_holds
end Go.Proofs.YtggikacbelogcaaGreat
