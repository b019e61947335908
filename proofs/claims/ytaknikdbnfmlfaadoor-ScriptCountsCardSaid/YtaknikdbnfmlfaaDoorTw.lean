/- Texts, lines, words, over lists of bytes. -/
import Derived.Test.YtaknikdbnfmlfaaDoorStr
namespace Go.Proofs.YtaknikdbnfmlfaaDoor.Ex
open Go Go.RowKit Go.Lib Go.Proofs.YtaknikdbnfmlfaaDoor.Wrd
set_option linter.unusedVariables false
set_option linter.unusedSimpArgs false
theorem ofL_inj {a b : List UInt8} (h : ofL a = ofL b) : a = b := by have := congrArg (fun x : ByteArray => x.data.toList) h; simpa [data_ofL] using this
theorem ofL_size (l : List UInt8) : (ofL l).size = l.length := by simp [ofL, ByteArray.size]
theorem ba_app (l m : List UInt8) : (⟨l.toArray⟩ : ByteArray) ++ (⟨m.toArray⟩ : ByteArray) = ⟨(l ++ m).toArray⟩ := by
  apply ByteArray.ext
  simp [ByteArray.data_append]
theorem ofL_append (a b : List UInt8) : ofL a ++ ofL b = ofL (a ++ b) := ba_app a b
theorem drop_at (s : ByteArray) (i : Nat) (h : i < s.size) : s.data.toList.drop i = (s[i]'h) :: s.data.toList.drop (i + 1) := by
  rw [List.drop_eq_getElem_cons (by simpa using h)]; rfl
theorem byte_is {c : UInt8} {n : Nat} (hn : n < 256) : ((c.toNat : Int) = (n : Int)) ↔ c = UInt8.ofNat n := by
  constructor
  · intro h
    have h' : c.toNat = n := by omega
    rw [← h', UInt8.ofNat_toNat]
  · rintro rfl
    simp [UInt8.toNat_ofNat', Nat.mod_eq_of_lt hn]

/-! ### rows of texts -/
theorem splitF_run : ∀ (m l : List UInt8), (∀ c ∈ m, c ≠ 10) → splitF (m ++ 10 :: l) = m :: splitF l
  | [], l, _ => by simp [splitF]
  | c :: m, l, h => by
    have hc : c ≠ 10 := h c List.mem_cons_self
    rw [List.cons_append]
    show (if c = 10 then [] :: splitF (m ++ 10 :: l) else match splitF (m ++ 10 :: l) with | [] => [[c]] | x :: r => (c :: x) :: r) = _
    rw [if_neg hc, splitF_run m l (fun d hd => h d (List.mem_cons_of_mem _ hd))]
theorem splitF_one (m : List UInt8) (h : ∀ c ∈ m, c ≠ 10) : splitF m = [m] := by
  induction m with
  | nil => rfl
  | cons c m ih =>
    have hc : c ≠ 10 := h c List.mem_cons_self
    unfold splitF
    rw [if_neg hc, ih (fun d hd => h d (List.mem_cons_of_mem _ hd))]
theorem splitF_snoc : ∀ (m : List UInt8), splitF (m ++ [10]) = splitF m ++ [[]]
  | [] => by simp [splitF]
  | c :: m => by
    rw [List.cons_append]
    unfold splitF
    by_cases hc : c = 10
    · rw [if_pos hc, if_pos hc, splitF_snoc m]; rfl
    · rw [if_neg hc, if_neg hc, splitF_snoc m]
      cases h : splitF m with
      | nil => exact absurd h (splitF_ne m)
      | cons x r => rfl
/-- Lines with a line feed behind each. -/
def cat (l : List (List UInt8)) : List UInt8 := l.flatMap fun x => x ++ [10]
theorem cat_split : ∀ (m : List UInt8), cat (splitF m) = m ++ [10]
  | [] => rfl
  | c :: m => by
    have ih := cat_split m
    unfold splitF
    by_cases hc : c = 10
    · rw [if_pos hc]; subst hc
      show [10] ++ cat (splitF m) = _
      rw [ih]; rfl
    · rw [if_neg hc]
      cases h : splitF m with
      | nil => exact absurd h (splitF_ne m)
      | cons x r =>
        rw [h] at ih
        show (c :: x) ++ [10] ++ cat r = _
        have : cat (x :: r) = x ++ [10] ++ cat r := rfl
        rw [this] at ih
        simp only [List.cons_append]
        rw [ih]
theorem split_cat (l : List (List UInt8)) (h : ∀ x ∈ l, ∀ c ∈ x, c ≠ 10) : splitF (cat l) = l ++ [[]] := by
  induction l with
  | nil => rfl
  | cons x l ih =>
    have : cat (x :: l) = x ++ 10 :: cat l := by simp [cat]
    rw [this, splitF_run x _ (h x List.mem_cons_self), ih (fun y hy => h y (List.mem_cons_of_mem _ hy))]
    rfl
theorem trimF_snoc (m : List UInt8) : trimF (m ++ [10]) = m := by unfold trimF; simp
theorem lines_cat (l : List (List UInt8)) (h : ∀ x ∈ l, ∀ c ∈ x, c ≠ 10) : linesL (cat l) = l := by
  rcases List.eq_nil_or_concat l with rfl | ⟨m, x, rfl⟩
  · rfl
  · rw [List.concat_eq_append] at h ⊢
    have e : cat (m ++ [x]) = (cat m ++ x) ++ [10] := by simp [cat]
    have h2 := split_cat (m ++ [x]) h
    unfold linesL
    rw [e] at h2 ⊢
    rw [if_neg (by simp), trimF_snoc]
    rw [splitF_snoc] at h2
    exact List.append_cancel_right h2
theorem cat_lines (s : List UInt8) : cat (linesL s) = s ∨ cat (linesL s) = s ++ [10] := by
  unfold linesL
  split
  · rename_i h; left; rw [h]; rfl
  · rename_i h
    unfold trimF
    split
    · rename_i h2
      left
      rw [cat_split]
      obtain ⟨m, hm⟩ := List.getLast?_eq_some_iff.1 h2
      rw [hm]; simp
    · right; exact cat_split s
theorem split_no : ∀ (m : List UInt8), ∀ x ∈ splitF m, ∀ c ∈ x, c ≠ 10
  | [], x, hx, c, hc => by
    simp [splitF] at hx
    subst hx
    cases hc
  | d :: m, x, hx, c, hc => by
    unfold splitF at hx
    by_cases hd : d = 10
    · rw [if_pos hd] at hx
      rcases List.mem_cons.1 hx with rfl | hx
      · cases hc
      · exact split_no m x hx c hc
    · rw [if_neg hd] at hx
      cases h : splitF m with
      | nil => exact absurd h (splitF_ne m)
      | cons y r =>
        rw [h] at hx
        have ih := split_no m
        rw [h] at ih
        rcases List.mem_cons.1 hx with rfl | hx
        · rcases List.mem_cons.1 hc with rfl | hc
          · exact hd
          · exact ih y List.mem_cons_self c hc
        · exact ih x (List.mem_cons_of_mem _ hx) c hc
theorem split_len : ∀ (m : List UInt8), (splitF m).length ≤ m.length + 1
  | [] => by simp [splitF]
  | c :: m => by
    have ih := split_len m
    unfold splitF
    split
    · simp only [List.length_cons]; omega
    · cases h : splitF m with
      | nil => simp
      | cons x r => rw [h] at ih; simp only [List.length_cons] at ih ⊢; omega
theorem lines_len (s : List UInt8) : (linesL s).length ≤ s.length + 1 := by
  unfold linesL
  split
  · simp
  · have h1 := split_len (trimF s)
    have h2 : (trimF s).length ≤ s.length := by unfold trimF; split <;> simp
    omega
/-- The document's lines, from where one stands on: what is left, the line that was begun. -/
def lgo : List UInt8 → List UInt8 → List (List UInt8)
  | [], cur => if cur = [] then [] else [cur]
  | c :: l, cur => if c = 10 then cur :: lgo l [] else lgo l (cur ++ [c])
theorem lgo_cur : ∀ (l cur : List UInt8), (cur ≠ [] ∨ l ≠ []) → (∀ c ∈ cur, c ≠ 10) → lgo l cur = splitF (trimF (cur ++ l))
  | [], cur, h, hc => by
    have hne : cur ≠ [] := by rcases h with h | h <;> simp_all
    unfold lgo
    have : trimF (cur ++ []) = cur := by
      unfold trimF
      rw [List.append_nil]
      split
      · rename_i h2
        exact absurd rfl (hc 10 (List.mem_of_getLast? h2))
      · rfl
    rw [if_neg hne, this, splitF_one cur hc]
  | c :: l, cur, h, hc => by
    unfold lgo
    by_cases h10 : c = 10
    · subst h10
      rw [if_pos rfl]
      by_cases hl : l = []
      · subst hl
        rw [trimF_snoc, splitF_one cur hc]; rfl
      · rw [lgo_cur l [] (.inr hl) (fun c hc => by cases hc)]
        have e : trimF (cur ++ 10 :: l) = cur ++ 10 :: trimF l := by
          unfold trimF
          have e1 : (cur ++ 10 :: l).getLast? = l.getLast? := by
            cases l with
            | nil => exact absurd rfl hl
            | cons x l => rw [List.getLast?_append, List.getLast?_cons_cons, List.getLast?_cons]; rfl
          rw [e1]
          split
          · rw [List.dropLast_append_of_ne_nil (by simp), List.dropLast_cons_of_ne_nil hl]
          · rfl
        rw [e, splitF_run cur _ hc]; rfl
    · rw [if_neg h10, lgo_cur l (cur ++ [c]) (.inl (by simp)) (fun d hd => by
        rcases List.mem_append.1 hd with hd | hd
        · exact hc d hd
        · rw [List.mem_singleton] at hd; subst hd; exact h10)]
      simp
theorem lgo_lines (s : List UInt8) : lgo s [] = linesL s := by
  unfold linesL
  split
  · rename_i h; subst h; rfl
  · rename_i h
    exact lgo_cur s [] (.inr h) (fun c hc => by cases hc)
theorem wgo_len : ∀ (l cur : List UInt8), (wgo l cur).length ≤ l.length + 1
  | [], cur => by unfold wgo; split <;> simp
  | c :: l, cur => by
    have h1 := wgo_len l []
    have h2 := wgo_len l (cur ++ [c])
    unfold wgo
    split
    · split
      · simp only [List.length_cons]; omega
      · simp only [List.length_cons]; omega
    · simp only [List.length_cons]; omega
theorem words_len (l : List UInt8) : (wordsL l).length ≤ l.length + 1 := by
  have h := wgo_len (bare l) []
  have h2 : (bare l).length ≤ l.length := (List.takeWhile_sublist _).length_le
  unfold wordsL; omega
def jnB (l : List ByteArray) : List UInt8 := Lib.join (l.map (·.data.toList)) [32]
theorem join_snoc (l : List (List UInt8)) (x sep : List UInt8) (h : l ≠ []) : sep.intercalate (l ++ [x]) = sep.intercalate l ++ sep ++ x := by
  induction l with
  | nil => exact absurd rfl h
  | cons a l ih =>
    cases l with
    | nil => simp [List.intercalate, List.intersperse]
    | cons b l =>
      have h2 := ih (by simp)
      have e1 : List.intersperse sep (a :: b :: (l ++ [x])) = a :: sep :: List.intersperse sep (b :: (l ++ [x])) := rfl
      have e2 : List.intersperse sep (a :: b :: l) = a :: sep :: List.intersperse sep (b :: l) := rfl
      have h3 : (List.intersperse sep (b :: (l ++ [x]))).flatten = (List.intersperse sep (b :: l)).flatten ++ sep ++ x := h2
      show (List.intersperse sep (a :: b :: (l ++ [x]))).flatten = (List.intersperse sep (a :: b :: l)).flatten ++ sep ++ x
      rw [e1, e2, List.flatten_cons, List.flatten_cons, h3, List.flatten_cons, List.flatten_cons]
      simp
theorem jnB_snoc (l : List ByteArray) (x : ByteArray) (h : l ≠ []) : jnB (l ++ [x]) = jnB l ++ [32] ++ x.data.toList := by
  unfold jnB Lib.join
  rw [List.map_append, List.map_cons, List.map_nil]
  exact join_snoc _ _ _ (by simpa using h)
theorem jnB_one (x : ByteArray) : jnB [x] = x.data.toList := by simp [jnB, Lib.join, List.intercalate]
theorem jnB_len (l : List ByteArray) (N : Nat) (hx : ∀ x ∈ l, x.size ≤ N) : (jnB l).length ≤ l.length * (N + 1) := by
  have : ∀ i, i ≤ l.length → (jnB (l.take i)).length ≤ i * (N + 1) := by
    intro i
    induction i with
    | zero => intro _; simp [jnB, Lib.join, List.intercalate]
    | succ i ih =>
      intro hi
      have h1 := ih (by omega)
      have et : l.take (i + 1) = l.take i ++ [l[i]] := List.take_succ_eq_append_getElem (by omega)
      have hxi := hx l[i] (List.getElem_mem (by omega))
      have hsz : (l[i]).data.toList.length = (l[i]).size := by simp
      have hmul : (i + 1) * (N + 1) = i * (N + 1) + N + 1 := by rw [Nat.add_mul]; omega
      by_cases h0 : l.take i = []
      · rw [et, h0, List.nil_append, jnB_one]; omega
      · rw [et, jnB_snoc _ _ h0]; simp only [List.length_append, List.length_singleton]; omega
  have h := this l.length (Nat.le_refl _)
  rwa [List.take_length] at h
def plainB (l : List UInt8) : Prop := (∀ c ∈ l, blk c = false ∧ c ≠ 10 ∧ c ≠ 35) ∧ l ≠ []
theorem wgo_join : ∀ (L : List (List UInt8)), (∀ x ∈ L, plainB x) → wgo (([32] : List UInt8).intercalate L) [] = L
  | [], _ => rfl
  | [a], h => by
    have ha := h a List.mem_cons_self
    have e : ([32] : List UInt8).intercalate [a] = a ++ [] := by simp [List.intercalate]
    rw [e, wgo_run a [] [] (fun c hc => (ha.1 c hc).1)]
    unfold wgo
    rw [List.nil_append, if_neg ha.2]
  | a :: b :: l, h => by
    have ha := h a List.mem_cons_self
    have ih := wgo_join (b :: l) (fun x hx => h x (List.mem_cons_of_mem _ hx))
    have e : ([32] : List UInt8).intercalate (a :: b :: l) = a ++ (32 :: ([32] : List UInt8).intercalate (b :: l)) := by
      have e2 : List.intersperse [32] (a :: b :: l) = a :: [32] :: List.intersperse [32] (b :: l) := rfl
      unfold List.intercalate
      rw [e2, List.flatten_cons, List.flatten_cons]; rfl
    rw [e, wgo_run a _ [] (fun c hc => (ha.1 c hc).1), List.nil_append]
    simp only [wgo]
    rw [if_pos (by rfl), if_neg ha.2, ih]
theorem mem_join {c : UInt8} : ∀ (L : List (List UInt8)), c ∈ ([32] : List UInt8).intercalate L → c = 32 ∨ ∃ x ∈ L, c ∈ x
  | [], h => by simp [List.intercalate] at h
  | [a], h => by
    have e : ([32] : List UInt8).intercalate [a] = a := by simp [List.intercalate]
    rw [e] at h
    exact .inr ⟨a, List.mem_cons_self, h⟩
  | a :: b :: l, h => by
    have e2 : List.intersperse [32] (a :: b :: l) = a :: [32] :: List.intersperse [32] (b :: l) := rfl
    unfold List.intercalate at h
    rw [e2, List.flatten_cons, List.flatten_cons, List.mem_append, List.mem_append] at h
    rcases h with h | h | h
    · exact .inr ⟨a, List.mem_cons_self, h⟩
    · exact .inl (by simpa using h)
    · rcases mem_join (b :: l) h with h | ⟨x, hx, hc⟩
      · exact .inl h
      · exact .inr ⟨x, List.mem_cons_of_mem _ hx, hc⟩
theorem bare_all (l : List UInt8) (h : ∀ c ∈ l, c ≠ 35) : bare l = l := by
  unfold bare
  induction l with
  | nil => rfl
  | cons c l ih =>
    have hc : (c != 35) = true := by simpa using h c List.mem_cons_self
    rw [List.takeWhile_cons, if_pos hc, ih (fun d hd => h d (List.mem_cons_of_mem _ hd))]
theorem wgo_sep {c : UInt8} (hc : blk c = true) (u : List UInt8) : ∀ (s cur : List UInt8), wgo (s ++ c :: u) cur = wgo s cur ++ wgo u []
  | [], cur => by
    simp only [List.nil_append, wgo, hc, if_true]
    by_cases h : cur = []
    · simp [h]
    · simp [h]
  | d :: s, cur => by
    simp only [List.cons_append, wgo]
    by_cases hd : blk d = true
    · simp only [hd, if_true]
      by_cases h : cur = []
      · simp only [h, if_true]; exact wgo_sep hc u s []
      · simp only [h, if_false]; rw [wgo_sep hc u s []]; rfl
    · rw [if_neg hd, if_neg hd]; exact wgo_sep hc u s _
theorem bare_app (s : List UInt8) (h : ∀ c ∈ s, c ≠ 35) (u : List UInt8) : bare (s ++ u) = s ++ bare u := by
  induction s with
  | nil => rfl
  | cons c s ih =>
    have hc : (c != 35) = true := by simpa using h c List.mem_cons_self
    unfold bare at ih ⊢
    rw [List.cons_append, List.takeWhile_cons, if_pos hc, ih (fun d hd => h d (List.mem_cons_of_mem _ hd))]; rfl
theorem words_sep (s t : List UInt8) (h : ∀ c ∈ s, c ≠ 35) : wordsL (s ++ 32 :: t) = wordsL s ++ wordsL t := by
  unfold wordsL
  rw [bare_app s h, bare_all s h]
  have : bare (32 :: t) = 32 :: bare t := by unfold bare; rw [List.takeWhile_cons, if_pos (by decide)]
  rw [this]
  exact wgo_sep (by rfl) _ _ _
theorem bare_cut (s t : List UInt8) : bare (s ++ 35 :: t) = bare s := by
  induction s with
  | nil => unfold bare; simp
  | cons c s ih =>
    unfold bare at ih ⊢
    rw [List.cons_append, List.takeWhile_cons, List.takeWhile_cons, ih]
theorem words_remark (s t : List UInt8) : wordsL (s ++ 35 :: t) = wordsL s := by unfold wordsL; rw [bare_cut]
theorem words_edges (s : List UInt8) : wordsL (32 :: (s ++ [9])) = wordsL s := by
  unfold wordsL
  have e1 : bare (32 :: (s ++ [9])) = 32 :: bare (s ++ [9]) := by unfold bare; rw [List.takeWhile_cons, if_pos (by decide)]
  have e2 : ∀ u, wgo (32 :: u) [] = wgo u [] := fun u => by simp only [wgo]; rw [if_pos (by rfl), if_pos trivial]
  rw [e1, e2]
  have e3 : bare (s ++ [9]) = bare s ∨ bare (s ++ [9]) = bare s ++ [9] := by
    clear e1
    induction s with
    | nil => right; rfl
    | cons c s ih =>
      unfold bare at ih ⊢
      rw [List.cons_append, List.takeWhile_cons, List.takeWhile_cons]
      by_cases hc : (c != 35) = true
      · rw [if_pos hc, if_pos hc]
        rcases ih with h | h
        · left; rw [h]
        · right; rw [h]; rfl
      · rw [if_neg hc, if_neg hc]; left; rfl
  rcases e3 with h | h
  · rw [h]
  · rw [h, wgo_sep (by rfl) []]
    simp [wgo]
/-- What a word is made of. -/
theorem wgo_good : ∀ (l cur : List UInt8), (∀ c ∈ l, c ≠ 35) → (∀ c ∈ cur, blk c = false ∧ c ≠ 35) → ∀ x ∈ wgo l cur, (∀ c ∈ x, blk c = false ∧ c ≠ 35) ∧ x ≠ []
  | [], cur, _, hc, x, hx => by
    unfold wgo at hx
    by_cases h : cur = []
    · rw [if_pos h] at hx; simp at hx
    · rw [if_neg h, List.mem_singleton] at hx; subst hx; exact ⟨hc, h⟩
  | c :: l, cur, hl, hc, x, hx => by
    have hl' : ∀ d ∈ l, d ≠ 35 := fun d hd => hl d (List.mem_cons_of_mem _ hd)
    simp only [wgo] at hx
    by_cases hb : blk c = true
    · rw [if_pos hb] at hx
      by_cases h : cur = []
      · rw [if_pos h] at hx; exact wgo_good l [] hl' (fun d hd => by simp at hd) x hx
      · rw [if_neg h] at hx
        rcases List.mem_cons.1 hx with rfl | hx
        · exact ⟨hc, h⟩
        · exact wgo_good l [] hl' (fun d hd => by simp at hd) x hx
    · rw [if_neg hb] at hx
      refine wgo_good l (cur ++ [c]) hl' (fun d hd => ?_) x hx
      rcases List.mem_append.1 hd with hd | hd
      · exact hc d hd
      · rw [List.mem_singleton] at hd; subst hd
        exact ⟨by simpa using hb, hl d List.mem_cons_self⟩
theorem bare_no (l : List UInt8) : ∀ c ∈ bare l, c ≠ 35 := by
  unfold bare
  induction l with
  | nil => intro c hc; simp at hc
  | cons d l ih =>
    intro c hc
    rw [List.takeWhile_cons] at hc
    by_cases hd : (d != 35) = true
    · rw [if_pos hd] at hc
      rcases List.mem_cons.1 hc with rfl | hc
      · simpa using hd
      · exact ih c hc
    · rw [if_neg hd] at hc; simp at hc
theorem words_good (l : List UInt8) : ∀ x ∈ wordsL l, (∀ c ∈ x, blk c = false ∧ c ≠ 35) ∧ x ≠ [] := wgo_good _ _ (bare_no l) (fun c hc => by simp at hc)
theorem wgo_total : ∀ (l cur : List UInt8), ∀ x ∈ wgo l cur, x.length ≤ l.length + cur.length
  | [], cur, x, hx => by
    unfold wgo at hx
    split at hx
    · simp at hx
    · rw [List.mem_singleton] at hx; subst hx; simp
  | c :: l, cur, x, hx => by
    simp only [wgo] at hx
    split at hx
    · split at hx
      · have := wgo_total l [] x hx; simp at this ⊢; omega
      · rcases List.mem_cons.1 hx with rfl | hx
        · simp
        · have := wgo_total l [] x hx; simp at this ⊢; omega
    · have := wgo_total l _ x hx; simp at this ⊢; omega
theorem words_size (l : List UInt8) : ∀ x ∈ wordsL l, x.length ≤ l.length := by
  intro x hx
  have h := wgo_total _ _ x hx
  have h2 : (bare l).length ≤ l.length := (List.takeWhile_sublist _).length_le
  simp at h; omega
theorem cat_len (L : List (List UInt8)) (N : Nat) (h : ∀ x ∈ L, x.length ≤ N) : (cat L).length ≤ L.length * (N + 1) := by
  induction L with
  | nil => simp [cat]
  | cons x L ih =>
    have e : cat (x :: L) = x ++ [10] ++ cat L := by simp [cat]
    have h1 := h x List.mem_cons_self
    have h2 := ih (fun y hy => h y (List.mem_cons_of_mem _ hy))
    rw [e]
    simp only [List.length_append, List.length_cons, List.length_nil, Nat.add_mul]
    omega
end Go.Proofs.YtaknikdbnfmlfaaDoor.Ex
