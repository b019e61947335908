import Derived.Test.YtggikacbelogcaaGreatPd
import Derived.Test.YtggikacbelogcaaGreatF3
namespace Go.Proofs.YtggikacbelogcaaGreat.Ex
open Go
set_option linter.unusedVariables false
theorem slices_Insert_one (l : List T33) (c : T33) (r k : Nat) (hs : l.length ≤ 1000000000) (hr : r ≤ l.length) : slices_Insert k l ((r : Int), [c]) = some (insAt l r c) := by
  unfold slices_Insert insF insAt
  rw [decide_eq_true (Int.natCast_nonneg r), decide_eq_true (show (r : Int) ≤ Int.ofNat l.length from by have : Int.ofNat l.length = (l.length : Int) := rfl; omega), decide_eq_true (show (l.length + [c].length) * 48 ≤ 140737488355328 from by simp only [List.length_cons, List.length_nil]; omega)]
  simp
def AddR (l : List T33) (c : T33) (r : Nat) : List T33 × Int := if conB c = false then (l, 1) else if 4096 ≤ l.length then (l, 3) else if (l.any fun x => decide (x.1 = c.1)) = true then (l, 4) else if (l.any fun x => ovB x c) = true then (l, 5) else (insAt l r c, 0)
theorem contacts_Add_spec (l : List T33) (c : T33) (k : Nat) (hs : l.length ≤ 1000000000) (hc : rngC c) (hsort : ∀ i j, i < j → j < l.length → cmpC (l.getD i z28) (l.getD j z28) < 0) (hk : l.length + 6 < k) :
    ∃ r, r ≤ l.length ∧ (∀ q, q < r → cmpC (l.getD q z28) c < 0) ∧ (∀ q, r ≤ q → q < l.length → 0 ≤ cmpC (l.getD q z28) c) ∧ contacts_Add k (l, c) = some (AddR l c r) := by
  obtain ⟨r, h1, h2, h3, h4⟩ := BS_spec l c k hs hsort hk
  refine ⟨r, h1, h2, h3, ?_⟩
  unfold contacts_Add AddR
  simp only [Clone_spec l k hs, check_Contact_spec k c hc.1 hc.2, contacts_of_spec, ContainsFunc_of_spec l c.1 k (by omega) (by omega), ContainsFunc_ov_spec l c k (by omega) (by omega), h4, slices_Insert_one l c r k hs h1, Option.bind_some]
  cases conB c with
  | false => rfl
  | true =>
    rw [if_neg (by simp)]
    by_cases h5 : 4096 ≤ l.length
    · rw [if_pos h5, decide_eq_true (show (4096 : Int) ≤ Int.ofNat l.length from by have : Int.ofNat l.length = (l.length : Int) := rfl; omega)]; rfl
    · rw [if_neg h5, decide_eq_false (show ¬ (4096 : Int) ≤ Int.ofNat l.length from by have : Int.ofNat l.length = (l.length : Int) := rfl; omega)]
      simp only [cond_false, cond_true]
      cases (l.any fun x => decide (x.1 = c.1)) with
      | true => rfl
      | false =>
        rw [if_neg (by simp)]
        cases (l.any fun x => ovB x c) with
        | true => rfl
        | false =>
          rw [if_neg (by simp)]
          cases decide (r < l.length ∧ cmpC (l.getD r z28) c = 0) <;> rfl
theorem findC_any (l : List T33) (id : Int) : (findC l id).2 = l.any fun c => decide (c.1 = id) := by
  unfold findC
  rw [Bool.eq_iff_iff, List.any_eq_true]
  cases h : l.find? (fun c => decide (c.1 = id)) with
  | none =>
    constructor
    · intro h'; cases h'
    · rintro ⟨x, hx, hp⟩
      have := List.find?_eq_none.1 h x hx
      exact absurd hp this
  | some c =>
    exact ⟨fun _ => ⟨c, List.mem_of_find?_eq_some h, List.find?_some (p := fun c : T33 => decide (c.1 = id)) h⟩, fun _ => rfl⟩
theorem any_ov {l : List T33} {c : T33} (hl : ∀ x ∈ l, conB x = true) (hc : conB c = true) : (l.any fun x => ovB x c) = l.any fun x => ovR x c := by
  rw [Bool.eq_iff_iff, List.any_eq_true, List.any_eq_true]
  constructor
  · rintro ⟨x, hx, h⟩; exact ⟨x, hx, (ov_iff (hl x hx) hc) ▸ h⟩
  · rintro ⟨x, hx, h⟩; exact ⟨x, hx, (ov_iff (hl x hx) hc).symm ▸ h⟩
/-- The program's Add and the document's are the same on rows whose contacts may be. -/
theorem adds_same (l : List T33) (c : T33) (k : Nat) (hs : l.length ≤ 1000000000) (hc : rngC c) (hl : ∀ x ∈ l, conB x = true) (hsort : ∀ i j, i < j → j < l.length → cmpC (l.getD i z28) (l.getD j z28) < 0) (hk : l.length + 6 < k) : contacts_Add k (l, c) = feluccaref06_Add k (l, c) := by
  obtain ⟨r, h1, h2, h3, h4⟩ := contacts_Add_spec l c k hs hc hsort hk
  rw [h4, ref06_Add_spec l c r k hs h1 (fun q hq => by rw [less_cmp]; exact decide_eq_true (h2 q hq)) (fun q hq hq' => by rw [less_cmp]; exact decide_eq_false (by have := h3 q hq hq'; omega)) (by omega)]
  unfold AddR
  rw [findC_any]
  cases hcb : conB c with
  | false => rfl
  | true => rw [any_ov hl hcb]
end Go.Proofs.YtggikacbelogcaaGreat.Ex
