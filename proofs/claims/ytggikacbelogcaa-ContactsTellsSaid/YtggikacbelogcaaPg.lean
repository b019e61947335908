/- The statements on contacts, in plain words: the order, what is found, what was added and deleted, what is over. -/
import Derived.Test.YtggikacbelogcaaPf
namespace Go.Proofs.Ytggikacbelogcaa.Ex
open Go
set_option linter.unusedVariables false
set_option linter.unusedSimpArgs false
theorem rows_ok {s : List SK} {l : List (Tup s)} (h : SK.okv (.row s) l) : ∀ x ∈ l, okvT s x := by
  simp only [SK.okv] at h
  exact h.2
theorem cond_t {α : Type} {b : Bool} {x y r : α} (hb : b = true) (h : x = r) : (bif b then x else y) = r := by subst hb; exact h
theorem cond_f {α : Type} {b : Bool} {x y r : α} (hb : b = false) (h : y = r) : (bif b then x else y) = r := by subst hb; exact h
theorem bind_s {α β : Type} {o : Option α} {v : α} {f : α → Option β} {r : Option β} (ho : o = some v) (h : f v = r) : o.bind f = r := by subst ho; exact h
theorem len_nat {α : Type} (l : List α) : Int.ofNat l.length = (l.length : Int) := rfl
theorem small_spec : feluccalaw06_small 300 () = some true := by
  have e1 : contacts_Expire 300 ([(5, 1, 2, 10, 20, 3), (4, 1, 2, 20, 30, 1)], 20) = some ([(4, 1, 2, 20, 30, 1)], [5]) := by
    rw [contacts_Expire_spec _ _ _ (by decide) (by decide)]
    have : sorted (goneC 20 [(5, 1, 2, 10, 20, 3), (4, 1, 2, 20, 30, 1)]) = [5] := by
      show sorted [5] = [5]
      unfold sorted
      rw [List.mergeSort_singleton]
    rw [this]
    rfl
  unfold feluccalaw06_small
  refine bind_s (v := ([(5, 1, 2, 10, 20, 3), (4, 1, 2, 20, 30, 1)], 0)) (by kernel_rfl) ?_
  refine bind_s (v := ([(5, 1, 2, 10, 20, 3), (4, 1, 2, 20, 30, 1)], 5)) (by kernel_rfl) ?_
  refine bind_s (v := ([(5, 1, 2, 10, 20, 3), (4, 1, 2, 20, 30, 1)], 4)) (by kernel_rfl) ?_
  refine bind_s (v := ([(5, 1, 2, 10, 20, 9), (4, 1, 2, 20, 30, 1)], 0)) (by kernel_rfl) ?_
  refine bind_s (v := ([(4, 1, 2, 20, 30, 1)], 0)) (by kernel_rfl) ?_
  refine bind_s (v := ([(4, 1, 2, 20, 30, 1)], 6)) (by kernel_rfl) ?_
  refine bind_s e1 ?_
  kernel_rfl
/-! ### the order -/
theorem cmp_zero_iff (a b : T28) : cmpC a b = 0 ↔ a.2.1 = b.2.1 ∧ a.2.2.1 = b.2.2.1 ∧ a.2.2.2.1 = b.2.2.2.1 ∧ a.1 = b.1 := by
  have h1 := cmp_lt_iff a b
  have h2 := cmp_lt_iff b a
  rw [cmp_neg a b] at h2
  constructor
  · intro h
    have g1 : ¬ cmpC a b < 0 := by omega
    have g2 : ¬ -cmpC a b < 0 := by omega
    rw [h1] at g1
    rw [h2] at g2
    omega
  · intro h
    have g1 : ¬ cmpC a b < 0 := by rw [h1]; omega
    have g2 : ¬ -cmpC a b < 0 := by rw [h2]; omega
    omega
theorem cmp_self (a : T28) : cmpC a a = 0 := (cmp_zero_iff a a).2 ⟨rfl, rfl, rfl, rfl⟩
theorem cmp_le_trans {a b c : T28} (h1 : cmpC a b ≤ 0) (h2 : cmpC b c ≤ 0) : cmpC a c ≤ 0 := by
  rcases cmp_range a b with h | h | h
  · rcases cmp_range b c with g | g | g
    · have := cmp_trans (a := a) (b := b) (c := c) (by omega) (by omega); omega
    · have k1 := (cmp_lt_iff a b).1 (by omega)
      have k2 := (cmp_zero_iff b c).1 g
      have := (cmp_lt_iff a c).2 (by omega)
      omega
    · omega
  · have k1 := (cmp_zero_iff a b).1 h
    rcases cmp_range b c with g | g | g
    · have k2 := (cmp_lt_iff b c).1 (by omega)
      have := (cmp_lt_iff a c).2 (by omega)
      omega
    · have k2 := (cmp_zero_iff b c).1 g
      have := (cmp_zero_iff a c).2 (by omega)
      omega
    · omega
  · omega
theorem cmp_eq_left {a b : T28} (h : cmpC a b = 0) (c : T28) : cmpC b c = cmpC a c := by
  obtain ⟨h1, h2, h3, h4⟩ := (cmp_zero_iff a b).1 h
  unfold cmpC
  rw [h1, h2, h3, h4]
theorem ContactsOrder_pure (a b c : T28) : ∃ k, feluccalaw06_ContactsOrder k (a, b, c) = some true := by
  refine ⟨300, ?_⟩
  have hc : ∀ x y, contacts_Compare 300 (x, y) = some (cmpC x y) := fun x y => Compare_spec 300 x y (by decide)
  have hw : w64 (0 - cmpC b a) = cmpC a b := by
    rw [cmp_neg a b]
    rcases cmp_range a b with h | h | h <;> rw [h] <;> rfl
  have hz := fun h1 h2 => cmp_le_trans (a := a) (b := b) (c := c) h1 h2
  have hq := fun h => cmp_eq_left (a := a) (b := b) h c
  have hs : feluccalaw06_small 300 () = some true := small_spec
  have hx := cmp_range a b
  unfold feluccalaw06_ContactsOrder
  simp only [hs, hc, hw, cmp_self, Option.bind_some, cond_true, decide_true]
  generalize cmpC a b = x at *
  generalize cmpC b c = y at *
  generalize cmpC a c = z at *
  by_cases hy : y ≤ 0
  · by_cases hz0 : 0 < z
    · rcases hx with rfl | rfl | rfl
      · have := hz (by decide) hy; omega
      · have := hz (by decide) hy; omega
      · simp [hy, hz0]
    · rcases hx with rfl | rfl | rfl
      · simp [hy, hz0]
      · simp [hy, hz0, hq rfl]
      · simp [hy, hz0]
  · rcases hx with rfl | rfl | rfl
    · simp [hy]
    · have e := hq rfl
      subst e
      simp [hy]
    · simp [hy]
/-! ### what is found -/
theorem Find_spec (l : List T28) (id : Int) (k : Nat) (hs : l.length ≤ 1000000000) (hk : l.length < k) : contacts_Find k (l, id) = some (findC l id) := contacts_Find_spec l id k (by omega) hk
theorem i_sub {i : Nat} (h : 0 < i) (h' : i ≤ 1000000000) : w64 ((i : Int) - 1) = ((i - 1 : Nat) : Int) := by rw [w64_id (by omega) (by omega)]; omega
theorem Finds_L0 (l : List T28) (id : Int) (head : Bool) (hl : l.length ≤ 1000) (hn : l.Pairwise fun a b => a.1 ≠ b.1) : ∀ (n i k : Nat) (had : Bool), l.length - i = n → n + l.length < k → i ≤ l.length → feluccalaw06_ContactsFinds_L0 k (l, id, head, had, (i : Int)) = some (.inl (l, id, head, had || (l.drop i).any fun c => decide (c.1 = id)))
  | 0, i, k + 1, had, h, hk, hi => by
    have : i = l.length := by omega
    subst this
    simp only [feluccalaw06_ContactsFinds_L0]
    refine cond_f (by rw [i_lt, decide_eq_false (by omega)]) ?_
    simp
  | n + 1, i, k + 1, had, h, hk, _ => by
    have hi : i < l.length := by omega
    have hm : l.getD i z28 ∈ l := by rw [getD_get hi]; exact List.getElem_mem hi
    have hf := findC_mem hn hm
    have t1 : decide ((i : Int) < Int.ofNat l.length) = true := by rw [i_lt, decide_eq_true hi]
    have t2 : decide (0 ≤ (i : Int)) = true := decide_eq_true (Int.natCast_nonneg i)
    have ih := fun had => Finds_L0 l id head hl hn n (i + 1) k had (by omega) (by omega) (by omega)
    simp only [feluccalaw06_ContactsFinds_L0, t1, t2, Int.toNat_natCast, cond_true, Find_spec l _ k (by omega) (by omega), hf, Option.bind_some, w64_succ (by omega : i < 4611686018427387904), ih, drop_any z28 hi]
    rw [eq6, decide_eq_true rfl]
    cases hd : decide ((l.getD i z28).1 = id) <;> cases had <;> simp
theorem ContactsFinds_pure (l : List T28) (hr : ∀ c ∈ l, okvT kT28 c) (id : Int) : ∃ k, feluccalaw06_ContactsFinds k (l, id) = some true := by
  refine ⟨300, ?_⟩
  have hs : feluccalaw06_small 300 () = some true := small_spec
  unfold feluccalaw06_ContactsFinds
  refine bind_s hs (cond_t rfl ?_)
  by_cases h50 : 50 < Int.ofNat l.length
  · exact cond_t (decide_eq_true h50) rfl
  refine cond_f (decide_eq_false h50) ?_
  rw [len_nat] at h50
  refine bind_s (Right_spec l 300 (by omega) (fun c hc => rng_of (hr c hc)) (by omega)) ?_
  cases hb : rightB l with
  | false => rfl
  | true =>
    have hR := (rightB_iff.1 hb).1
    refine cond_t rfl (bind_s (Finds_L0 l id true (by omega) hR.ids l.length 0 300 false (by omega) (by omega) (by omega)) ?_)
    simp only
    refine bind_s (Find_spec l id 300 (by omega) (by omega)) ?_
    have ha : (l.any fun c => decide (c.1 = id)) = (findC l id).2 := (findC_any l id).symm
    rw [List.drop_zero, ha]
    cases h2 : (findC l id).2 with
    | true =>
      obtain ⟨_, e⟩ := findC_some h2
      simp [e]
    | false =>
      obtain ⟨e, _⟩ := findC_false h2
      simp [e]
/-! ### what was added and deleted -/
theorem Same_spec (a b : List T28) (k : Nat) (hs : a.length ≤ 1000000000) (hk : a.length < k) : contacts_Same k (a, b) = some (decide (a = b)) := by
  unfold contacts_Same
  exact bind_s (Equal_spec a b k (by omega) hk) (by cases decide (a = b) <;> rfl)
theorem ContactsTwice_pure (l : List T28) (hr : ∀ c ∈ l, okvT kT28 c) (c : T28) (hc : okvT kT28 c) : ∃ k, feluccalaw06_ContactsTwice k (l, c) = some true := by
  refine ⟨300, ?_⟩
  have hs : feluccalaw06_small 300 () = some true := small_spec
  unfold feluccalaw06_ContactsTwice
  refine bind_s hs (cond_t rfl ?_)
  by_cases h50 : 50 < Int.ofNat l.length
  · exact cond_t (decide_eq_true h50) rfl
  refine cond_f (decide_eq_false h50) ?_
  rw [len_nat] at h50
  refine bind_s (Right_spec l 300 (by omega) (fun c hc => rng_of (hr c hc)) (by omega)) ?_
  cases hb : rightB l with
  | false => rfl
  | true =>
    have hR := (rightB_iff.1 hb).1
    refine cond_t rfl ?_
    rcases Add_cases hR (by omega) c (rng_of hc) 300 (by omega) with ⟨e, he, ha, _⟩ | ⟨r, ha, hR2, hcon, hid⟩
    · refine bind_s ha (cond_t (by simpa using he) (bind_s (Same_spec l l 300 (by omega) (by omega)) ?_))
      rw [decide_eq_true rfl]; rfl
    · refine bind_s ha ?_
      dsimp only
      refine cond_f rfl ?_
      have hlen : (insAt l r c).length = l.length + 1 := ins_len
      have hm : c ∈ insAt l r c := ins_mem.2 (.inl rfl)
      obtain ⟨e, ha2, he4⟩ : ∃ e, contacts_Add 300 (insAt l r c, c) = some (insAt l r c, e) ∧ e = 4 := by
        rcases Add_cases hR2 (by omega) c (rng_of hc) 300 (by omega) with ⟨e, he, ha, h4⟩ | ⟨r', _, _, _, hid'⟩
        · exact ⟨e, ha, h4 ⟨c, hm, rfl⟩ hcon⟩
        · exact absurd rfl (hid' c hm)
      subst he4
      have hf : (insAt l r c).filter (keepC c.1) = l := ins_filter hid
      refine bind_s ha2 ?_
      dsimp only
      refine bind_s (v := (l, 0)) ?_ ?_
      · rw [contacts_Delete_spec _ _ _ (by omega) (by omega), hf, if_neg (by omega)]
      refine bind_s ha ?_
      dsimp only
      refine cond_t rfl (cond_t rfl (bind_s (Same_spec l l 300 (by omega) (by omega)) ?_))
      rw [decide_eq_true rfl]
      refine cond_t rfl (cond_t rfl (bind_s (Same_spec _ (insAt l r c) 300 (by omega) (by omega)) ?_))
      rw [decide_eq_true rfl]; rfl
/-! ### what is over -/
theorem Expire_spec (l : List T28) (now : Int) (k : Nat) (hs : l.length ≤ 1000000000) (hk : l.length < k) : contacts_Expire k (l, now) = some (leftC now l, sorted (goneC now l)) := contacts_Expire_spec l now k hs hk
theorem Expires_L0 (l : List T28) (A : Int) (a b : Bool) (x1 y1 z1 : List Int) (b1 c1 : List T28) (hl : l.length ≤ 1000) : ∀ (n i k m : Nat), l.length - i = n → n < k → i ≤ l.length → m ≤ i → feluccalaw06_ContactsExpires_L0 k (l, A, a, x1, b1, y1, c1, z1, (m : Int), (i : Int)) = some (.inl (l, A, a, x1, b1, y1, c1, z1, ((m + (goneC A (l.drop i)).length : Nat) : Int)))
  | 0, i, k + 1, m, h, hk, hi, hm => by
    have : i = l.length := by omega
    subst this
    simp only [feluccalaw06_ContactsExpires_L0]
    refine cond_f (by rw [i_lt, decide_eq_false (by omega)]) ?_
    simp [goneC]
  | n + 1, i, k + 1, m, h, hk, _, hm => by
    have hi : i < l.length := by omega
    have t1 : decide ((i : Int) < Int.ofNat l.length) = true := by rw [i_lt, decide_eq_true hi]
    have t2 : decide (0 ≤ (i : Int)) = true := decide_eq_true (Int.natCast_nonneg i)
    have ih := fun m hm => Expires_L0 l A a b x1 y1 z1 b1 c1 hl n (i + 1) k m (by omega) (by omega) (by omega) hm
    simp only [feluccalaw06_ContactsExpires_L0, t1, t2, Int.toNat_natCast, cond_true, w64_succ (by omega : i < 4611686018427387904), w64_succ (by omega : m < 4611686018427387904), ih (m + 1) (by omega), ih m (by omega), goneC_step z28 hi]
    by_cases e : A < (l.getD i z28).2.2.2.2.1
    · refine cond_f (decide_eq_false (show ¬ (l.getD i z28).2.2.2.2.1 ≤ A by omega)) ?_
      rw [decide_eq_true e]
      rfl
    · refine cond_t (decide_eq_true (show (l.getD i z28).2.2.2.2.1 ≤ A by omega)) ?_
      rw [decide_eq_false e]
      simp only [cond_false, List.length_append, List.length_cons, List.length_nil]
      have e2 : ∀ q, m + (0 + 1 + q) = m + 1 + q := fun q => by omega
      rw [e2]
theorem Expires_L1 (l : List T28) (A : Int) (a : Bool) (x1 y1 z1 : List Int) (b1 c1 : List T28) (m : Int) (hl : l.length ≤ 1000) (hz : z1.length ≤ 1000) (hf : ∀ z ∈ z1, (findC l z).2 = true ∧ (findC l z).1.2.2.2.2.1 ≤ A) (hs : z1.Pairwise (· < ·)) : ∀ (n i k : Nat), z1.length - i = n → n + l.length < k → i ≤ z1.length → feluccalaw06_ContactsExpires_L1 k (l, A, a, x1, b1, y1, c1, z1, m, (i : Int)) = some (.inl (l, a, x1, b1, y1, c1, z1, m))
  | 0, i, k + 1, h, hk, hi => by
    have : i = z1.length := by omega
    subst this
    simp only [feluccalaw06_ContactsExpires_L1]
    exact cond_f (by rw [i_lt, decide_eq_false (by omega)]) rfl
  | n + 1, i, k + 1, h, hk, _ => by
    have hi : i < z1.length := by omega
    have t1 : decide ((i : Int) < Int.ofNat z1.length) = true := by rw [i_lt, decide_eq_true hi]
    have t2 : decide (0 ≤ (i : Int)) = true := decide_eq_true (Int.natCast_nonneg i)
    have ih := Expires_L1 l A a x1 y1 z1 b1 c1 m hl hz hf hs n (i + 1) k (by omega) (by omega) (by omega)
    have hg : ∀ j (hj : j < z1.length), z1.getD j 0 = z1[j] := fun j hj => by rw [List.getD_eq_getElem?_getD, List.getElem?_eq_getElem hj]; rfl
    obtain ⟨f1, f2⟩ := hf (z1.getD i 0) (by rw [hg i hi]; exact List.getElem_mem hi)
    simp only [feluccalaw06_ContactsExpires_L1, t1, t2, Int.toNat_natCast, cond_true, Find_spec l _ k (by omega) (by omega), Option.bind_some, w64_succ (by omega : i < 4611686018427387904), ih, f1]
    refine cond_f (decide_eq_false (by omega)) ?_
    by_cases h0 : 0 < i
    · have t3 : decide (((i - 1 : Nat) : Int) < Int.ofNat z1.length) = true := by rw [i_lt, decide_eq_true (by omega)]
      have t4 : decide (0 ≤ ((i - 1 : Nat) : Int)) = true := decide_eq_true (Int.natCast_nonneg _)
      rw [i_sub h0 (by omega), t3, t4]
      refine cond_t (decide_eq_true (by omega)) (cond_t rfl (cond_t rfl (cond_f (decide_eq_false ?_) rfl)))
      rw [Int.toNat_natCast, hg i hi, hg (i - 1) (by omega)]
      have := List.pairwise_iff_getElem.1 hs (i - 1) i (by omega) hi (by omega)
      omega
    · exact cond_f (decide_eq_false (by omega)) rfl
theorem gone_len (now : Int) (l : List T28) : (goneC now l).length + (leftC now l).length = l.length := by
  unfold goneC leftC
  rw [List.length_map]
  induction l with
  | nil => rfl
  | cons x l ih =>
    rw [List.filter_cons, List.filter_cons]
    cases decide (now < x.2.2.2.2.1) <;> simp <;> omega
theorem left_left {now later : Int} (h : now ≤ later) (l : List T28) : leftC later (leftC now l) = leftC later l := by
  unfold leftC
  rw [List.filter_filter]
  congr 1
  funext c
  rw [Bool.eq_iff_iff]
  simp only [Bool.and_eq_true, decide_eq_true_eq]
  omega
theorem sorted_len (l : List Int) : (sorted l).length = l.length := by unfold sorted; rw [List.length_mergeSort]
theorem sorted_lt {l : List Int} (h : l.Nodup) : (sorted l).Pairwise (· < ·) := by
  have h1 := sorted_pw l
  have h2 : (sorted l).Nodup := (sorted_perm l).nodup_iff.2 h
  exact (h1.and h2).imp fun ⟨a, b⟩ => by omega
theorem RightT.gone {l : List T28} (h : RightT l) (now : Int) : (goneC now l).Nodup := by
  unfold goneC
  refine (List.pairwise_map).2 ?_
  exact (h.ids.filter _).imp fun h => h
theorem gone_find {l : List T28} (h : RightT l) {now z : Int} (hz : z ∈ sorted (goneC now l)) : (findC l z).2 = true ∧ (findC l z).1.2.2.2.2.1 ≤ now := by
  have hz := (sorted_perm _).mem_iff.1 hz
  unfold goneC at hz
  obtain ⟨c, hc, rfl⟩ := List.mem_map.1 hz
  obtain ⟨h1, h2⟩ := List.mem_filter.1 hc
  rw [findC_mem h.ids h1]
  simp at h2
  exact ⟨rfl, h2⟩
theorem ContactsExpires_pure (l : List T28) (hr : ∀ c ∈ l, okvT kT28 c) (now later : Int) : ∃ k, feluccalaw06_ContactsExpires k (l, now, later) = some true := by
  refine ⟨300, ?_⟩
  have hs : feluccalaw06_small 300 () = some true := small_spec
  unfold feluccalaw06_ContactsExpires
  refine bind_s hs (cond_t rfl ?_)
  by_cases h50 : 50 < Int.ofNat l.length
  · exact cond_t (decide_eq_true h50) rfl
  refine cond_f (decide_eq_false h50) ?_
  rw [len_nat] at h50
  refine bind_s (Right_spec l 300 (by omega) (fun c hc => rng_of (hr c hc)) (by omega)) ?_
  cases hb : rightB l with
  | false => rfl
  | true =>
    have hR := (rightB_iff.1 hb).1
    refine cond_t rfl ?_
    by_cases hlt : later < now
    · exact cond_t (decide_eq_true hlt) rfl
    refine cond_f (decide_eq_false hlt) ?_
    have l1 := leftC_len now l
    have l2 := leftC_len later l
    have g1 := gone_len now l
    have g2 := gone_len later l
    have g3 := gone_len later (leftC now l)
    have e1 := left_left (now := now) (later := later) (by omega) l
    rw [e1] at g3
    refine bind_s (Expire_spec l now 300 (by omega) (by omega)) ?_
    dsimp only
    refine bind_s (Expire_spec (leftC now l) later 300 (by omega) (by omega)) ?_
    dsimp only
    refine bind_s (Expire_spec l later 300 (by omega) (by omega)) ?_
    dsimp only
    refine bind_s (Expires_L0 l later true true _ _ _ _ _ (by omega) l.length 0 300 0 (by omega) (by omega) (by omega) (by omega)) ?_
    dsimp only
    refine bind_s (Expires_L1 l later true _ _ (sorted (goneC later l)) _ _ _ (by omega) (by rw [sorted_len]; omega) (fun z hz => gone_find hR hz) (sorted_lt (hR.gone later)) (sorted (goneC later l)).length 0 300 (by omega) (by rw [sorted_len]; omega) (by omega)) ?_
    dsimp only
    refine cond_t rfl (bind_s (Same_spec _ _ 300 (by rw [e1]; omega) (by rw [e1]; omega)) ?_)
    rw [decide_eq_true e1]
    rw [List.drop_zero]
    simp only [sorted_len, len_nat, Nat.zero_add]
    refine cond_t rfl (cond_t (decide_eq_true ?_) (cond_t (decide_eq_true ?_) (cond_t (decide_eq_true ?_) rfl)))
    · rw [w64_id (by omega) (by omega)]; omega
    · first | trivial | omega
    · rw [w64_id (by omega) (by omega)]; omega
end Go.Proofs.Ytggikacbelogcaa.Ex
