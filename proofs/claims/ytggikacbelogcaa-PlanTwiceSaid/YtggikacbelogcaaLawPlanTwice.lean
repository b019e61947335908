/- The statement feluccalaw08.PlanTwice of the given program: the law's function answers true at every input, and leaves its arguments as they were. -/
import Derived.Test.YtggikacbelogcaaRows
import Derived.Test.YtggikacbelogcaaExOp
import Derived.Test.YtggikacbelogcaaF4
import Derived.Test.YtggikacbelogcaaQe
import Derived.WalkKit
import Derived.ProofKit
import Derived.OpenShut
import Derived.ShutString
import Derived.ChangeOld
import Derived.Below
import Derived.SizedLaws
import Derived.JoinedOf
namespace Go.Proofs.Ytggikacbelogcaa.planTwice
open Go.ChangeShapes Go.WideShapes Go.ChangeAt Go.RowKit Go.Proofs.Ytggikacbelogcaa.Ex
open Go.ChangeMaps (open_string shut_string)
theorem own : ownKnob Try.prog.godebug = none := by kernel_rfl
theorem laidOut : laidOutB Try.prog = true := by kernel_rfl
set_option maxRecDepth 100000 in
theorem lifted (os : Os) (started : os.Started) (H : Type) (enc : TypeId × Value → H) :
    ReturnsInHanded {} Try.checked os 13 .any (Rows.planTwiceSpec.pre6 enc Try.prog Try.f13 [] false) (Rows.planTwiceSpec.post enc Try.prog Try.f13 false true false false) := by
  refine returnsInHanded_of_change_sized (C := Try.checked) own started (by kernel_rfl) Try.func13
    (ChangeSpec.witness6 (enc := enc) (C := Try.checked) false ⟨#[], #[.agg #[.slice none 0 0, .slice none 0 0, .int .i64 0, .int .i64 0], .agg #[.int .i64 0, .int .i64 0, .int .i64 0, .int .i64 0, .int .i64 0, .int .i64 0]], []⟩ 8 (by kernel_rfl) (by kernel_rfl) (by kernel_rfl) (by kernel_rfl)) ?_
  intro W base args ds gs before hval0 hW _ hsz0 _
  have hval : ∀ (j : Nat) t v, Try.f13.params[j]? = some t → args[j]? = some v → Value.okWide Try.prog W .any base t v := hval0
  have hW' := hW
  obtain ⟨p, q, hA0, hV, rfl, hfz, hnd⟩ := hW
  have hA : DataW.TrodAll enc Try.prog W 0 (fun _ => true) true Try.f13.params.toList args.toList ds p := hA0
  rw [Try.params13] at hA hval
  obtain ⟨v0, vs0, d0, ds0, p0, q0, hargs, rfl, rfl, h0, r0⟩ := trodAll_cons hA
  obtain ⟨v1, vs1, d1, ds1, p1, q1, rfl, rfl, rfl, h1, r1⟩ := trodAll_cons r0
  obtain ⟨rfl, rfl, rfl⟩ := trodAll_nil r1
  obtain rfl : args = #[v0, v1] := by cases args; simp_all
  obtain ⟨rfl, rfl⟩ := trodVars_none hV
  have k0 := h0
  have lt0 : ∀ x ∈ p0, x.block < W.heap.size := by obtain ⟨m, hm⟩ := k0; exact DataW.trod_lt m _ _ _ hm
  obtain ⟨a0, c0, rfl, g0, o0⟩ := open_agg (s := [.row kT28, .row kT56, .int .i64, .int .i64]) Try.underlying52 (OpT.struct (lss := [[.row kT28], [.row kT56], [.int .i64], [.int .i64]]) Try.underlying52 ⟨rfl, by kernel_rfl, (OpK.t (OpK.row (s := [.int .i64, .int .i64, .int .i64, .int .i64, .int .i64, .int .i64]) Try.underlying22 (by kernel_rfl) (by decide) (OpT.struct (lss := [[.int .i64], [.int .i64], [.int .i64], [.int .i64], [.int .i64], [.int .i64]]) Try.underlying28 ⟨rfl, by kernel_rfl, (OpK.t (OpK.int Try.underlying3)), rfl, by kernel_rfl, (OpK.t (OpK.int Try.underlying3)), rfl, by kernel_rfl, (OpK.t (OpK.int Try.underlying3)), rfl, by kernel_rfl, (OpK.t (OpK.int Try.underlying3)), rfl, by kernel_rfl, (OpK.t (OpK.int Try.underlying3)), rfl, by kernel_rfl, (OpK.t (OpK.int Try.underlying3)), trivial⟩ (by kernel_rfl)))), rfl, by kernel_rfl, (OpK.t (OpK.row (s := [.int .i64, .int .i64, .int .i64, .int .i64, .int .i64]) Try.underlying50 (by kernel_rfl) (by decide) (OpT.struct (lss := [[.int .i64], [.int .i64], [.int .i64], [.int .i64], [.int .i64]]) Try.underlying56 ⟨rfl, by kernel_rfl, (OpK.t (OpK.int Try.underlying3)), rfl, by kernel_rfl, (OpK.t (OpK.int Try.underlying3)), rfl, by kernel_rfl, (OpK.t (OpK.int Try.underlying3)), rfl, by kernel_rfl, (OpK.t (OpK.int Try.underlying3)), rfl, by kernel_rfl, (OpK.t (OpK.int Try.underlying3)), trivial⟩ (by kernel_rfl)))), rfl, by kernel_rfl, (OpK.t (OpK.int Try.underlying3)), rfl, by kernel_rfl, (OpK.t (OpK.int Try.underlying3)), trivial⟩ (by kernel_rfl)) (hval 0 52 v0 rfl rfl) h0
  have k1 := h1
  have lt1 : ∀ x ∈ p1, x.block < W.heap.size := by obtain ⟨m, hm⟩ := k1; exact DataW.trod_lt m _ _ _ hm
  obtain ⟨a1, c1, rfl, g1, o1⟩ := open_agg (s := [.int .i64, .int .i64, .int .i64, .int .i64, .int .i64, .int .i64]) Try.underlying28 (OpT.struct (lss := [[.int .i64], [.int .i64], [.int .i64], [.int .i64], [.int .i64], [.int .i64]]) Try.underlying28 ⟨rfl, by kernel_rfl, (OpK.t (OpK.int Try.underlying3)), rfl, by kernel_rfl, (OpK.t (OpK.int Try.underlying3)), rfl, by kernel_rfl, (OpK.t (OpK.int Try.underlying3)), rfl, by kernel_rfl, (OpK.t (OpK.int Try.underlying3)), rfl, by kernel_rfl, (OpK.t (OpK.int Try.underlying3)), rfl, by kernel_rfl, (OpK.t (OpK.int Try.underlying3)), trivial⟩ (by kernel_rfl)) (hval 1 28 v1 rfl rfl) h1
  obtain ⟨k, hk⟩ := PlanTwice_pure a0 (rows_ok (okv_1 o0)) (rows_ok (okv_2 o0)) a1 o1
  have hc := (feluccalaw08_PlanTwice_e k).ok (a0, a1) true W [_, _] hk (by
    show PTIs _ W [.agg lT52, .agg lT28] _ _
    simp only [PTIs, PKIs, LKIs]
    exact ⟨_, _, rfl, ⟨_, rfl, by simpa only [LTIs, LKIs, TupIs] using g0⟩, _, rfl, ⟨_, rfl, by simpa only [LTIs, LKIs, TupIs] using g1⟩⟩)
  refine hc.mono fun e W' ⟨v, he, hret, bel⟩ => ?_
  subst he
  have hv := rets_bool hret
  subst hv
  exact ⟨_, rfl, _, _, _, [], _, [], hW', trodAll_mk1 (shut_bool Try.underlying4 _), (trodAll_cons_mk (Below.trod laidOut (by kernel_rfl) (of_decide_eq_true (by kernel_rfl)) k0 bel lt0) (trodAll_cons_mk (Below.trod laidOut (by kernel_rfl) (of_decide_eq_true (by kernel_rfl)) k1 bel lt1) trodAll_mk0)), rfl, bel.frame _, fun h => by cases h⟩
theorem proved : Rows.PlanTwiceSaid :=
  OpenClaim.holds_of_wide 13 Try.f13 rfl rfl rfl rfl rfl rfl rfl ⟨rfl, rfl, rfl, rfl, rfl⟩ rfl rfl rfl rfl rfl (by kernel_rfl) Try.func13 (by kernel_rfl)
    (of_decide_eq_true (by kernel_rfl)) (by unfold Func.isWrapper; first | (rw [if_pos (by decide +kernel)]; kernel_rfl) | (rw [if_neg (by decide +kernel)]; exact ⟨rfl, rfl⟩))
    (fun os started H enc _ => lifted os started H enc)
end Go.Proofs.Ytggikacbelogcaa.planTwice
namespace Go.Proofs.Ytggikacbelogcaa
/-- The statement, under a short name, for the claim. -/
theorem planTwice_holds : Rows.PlanTwiceSaid := planTwice.proved
#print axioms planTwice_holds
end Go.Proofs.Ytggikacbelogcaa
