/- What texts say, in plain words: rows of two texts, faults, what is printed is read again. -/
import Derived.Test.YtaknikdbnfmlfaaDoorTc
namespace Go.Proofs.YtaknikdbnfmlfaaDoor.Ex
open Go Go.RowKit Go.Lib Go.Proofs.YtaknikdbnfmlfaaDoor.Wrd Go.Proofs.YtaknikdbnfmlfaaDoor.Dig
set_option linter.unusedVariables false
set_option linter.unusedSimpArgs false
theorem rowsF_app : ∀ (A B : List (List UInt8)) (i : Int), rowsF i (A ++ B) = rowsF i A ++ rowsF (i + (A.length : Int)) B
  | [], B, i => by simp [rowsF]
  | x :: r, B, i => by
    have e : i + 1 + (r.length : Int) = i + ((x :: r).length : Int) := by simp; omega
    simp only [List.cons_append, rowsF, rowsF_app r B (i + 1), e]
    cases (wordsL x).isEmpty <;> simp
theorem rowsF_shift (c : Int) : ∀ (A : List (List UInt8)) (i : Int), rowsF (i + c) A = (rowsF i A).map fun x => (x.1 + c, x.2)
  | [], i => rfl
  | x :: r, i => by
    have e : i + c + 1 = i + 1 + c := by omega
    simp only [rowsF, e, rowsF_shift c r (i + 1)]
    cases (wordsL x).isEmpty <;> simp
theorem rowsF_none : ∀ (A : List (List UInt8)) (i : Int), (∀ x ∈ A, wordsL x = []) → rowsF i A = []
  | [], i, _ => rfl
  | x :: r, i, h => by
    simp only [rowsF, h x List.mem_cons_self, List.isEmpty_nil, cond_true]
    exact rowsF_none r (i + 1) fun y hy => h y (List.mem_cons_of_mem _ hy)
/-- The code of what words say. -/
def cd (x : Int × List ByteArray) : Int := (parseB x.2).2
theorem parseS_app : ∀ (A B : List (Int × List ByteArray)) (acc : List GDirective), parseS (A ++ B) acc = match parseS A acc with
    | .inl o => parseS B o.2
    | .inr o => .inr o
  | [], B, acc => rfl
  | x :: r, B, acc => by
    simp only [List.cons_append, parseS]
    cases decide ((parseB x.2).2 = 0) with
    | true => exact parseS_app r B _
    | false => rfl
theorem parseS_acc : ∀ (A : List (Int × List ByteArray)) (acc : List GDirective), parseS A acc = match parseS A [] with
    | .inl o => .inl ((0, 0), acc ++ o.2)
    | .inr o => .inr o
  | [], acc => by simp [parseS]
  | x :: r, acc => by
    simp only [parseS]
    cases decide ((parseB x.2).2 = 0) with
    | false => rfl
    | true =>
      simp only [cond_true, List.nil_append]
      rw [parseS_acc r (acc ++ [(parseB x.2).1]), parseS_acc r [(parseB x.2).1]]
      cases parseS r [] <;> simp
theorem parseS_shift (c : Int) : ∀ (A : List (Int × List ByteArray)) (acc : List GDirective), parseS (A.map fun x => (x.1 + c, x.2)) acc = match parseS A acc with
    | .inl o => .inl o
    | .inr o => .inr (o.1, (o.2.1 + c, o.2.2))
  | [], acc => rfl
  | x :: r, acc => by
    simp only [List.map_cons, parseS]
    cases decide ((parseB x.2).2 = 0) with
    | true => exact parseS_shift c r _
    | false => rfl
/-- Every row is right, or the first one that is not makes a fault. -/
theorem parseS_cases : ∀ (A : List (Int × List ByteArray)), (parseS A [] = .inl ((0, 0), A.map fun x => (parseB x.2).1) ∧ ∀ x ∈ A, cd x = 0) ∨ ∃ (i : Nat) (x : Int × List ByteArray), A[i]? = some x ∧ cd x ≠ 0 ∧ (∀ (j : Nat) y, j < i → A[j]? = some y → cd y = 0) ∧ parseS A [] = .inr ([], (x.1, cd x))
  | [] => .inl ⟨rfl, fun x hx => by cases hx⟩
  | x :: r => by
    by_cases h : cd x = 0
    · have e : parseS (x :: r) [] = match parseS r [] with
          | .inl o => .inl ((0, 0), [(parseB x.2).1] ++ o.2)
          | .inr o => .inr o := by
        rw [← parseS_acc]
        simp only [parseS]
        rw [show decide ((parseB x.2).2 = 0) = true from decide_eq_true h]
        rfl
      rcases parseS_cases r with ⟨h1, h2⟩ | ⟨i, y, h1, h2, h3, h4⟩
      · refine .inl ⟨?_, fun z hz => ?_⟩
        · rw [e, h1]; rfl
        · rcases List.mem_cons.1 hz with rfl | hz
          · exact h
          · exact h2 z hz
      · refine .inr ⟨i + 1, y, by simpa using h1, h2, fun j z hj hz => ?_, by rw [e, h4]⟩
        cases j with
        | zero => simp at hz; rw [← hz]; exact h
        | succ j => exact h3 j z (by omega) (by simpa using hz)
    · refine .inr ⟨0, x, rfl, h, fun j y hj => by omega, ?_⟩
      simp only [parseS]
      rw [show decide ((parseB x.2).2 = 0) = false from decide_eq_false h]
      rfl
theorem cd_cases (x : Int × List ByteArray) : cd x = 0 ∨ cd x = 1 ∨ cd x = 2 := by
  unfold cd
  rcases parse_cases x.2 with h | h | ⟨d, h, _⟩ <;> rw [h] <;> simp
/-! ### lines of two texts -/
theorem splitF_app : ∀ (m l : List UInt8), splitF (m ++ 10 :: l) = splitF m ++ splitF l
  | [], l => by simp [splitF]
  | c :: m, l => by
    have ih := splitF_app m l
    by_cases hc : c = 10
    · subst hc
      simp [splitF, ih]
    · have hne := splitF_ne m
      simp only [List.cons_append, splitF, if_neg hc, ih]
      cases hm : splitF m with
      | nil => exact absurd hm hne
      | cons y r => simp
theorem lines_feed (s : List UInt8) : linesL (s ++ [10]) = splitF s := by
  unfold linesL
  rw [if_neg (by simp), trimF_snoc]
theorem lines_two (s t : List UInt8) : linesL (s ++ 10 :: t) = linesL (s ++ [10]) ++ linesL t := by
  by_cases ht : t = []
  · subst ht
    simp [linesL]
  · rw [lines_feed]
    have e : trimF (s ++ 10 :: t) = s ++ 10 :: trimF t := by
      obtain ⟨u, c, rfl⟩ := list_snoc t ht
      unfold trimF
      rw [show s ++ 10 :: (u ++ [c]) = (s ++ 10 :: u) ++ [c] by simp]
      simp only [List.getLast?_append, List.getLast?_singleton, Option.some_or]
      by_cases hc : c = 10
      · subst hc
        simp
        rw [show (10 : UInt8) :: (u ++ [10]) = (10 :: u) ++ [10] from rfl, List.dropLast_concat]
      · simp [hc]
    have h1 : linesL (s ++ 10 :: t) = splitF (trimF (s ++ 10 :: t)) := by unfold linesL; rw [if_neg (by simp)]
    have h2 : linesL t = splitF (trimF t) := by unfold linesL; rw [if_neg ht]
    rw [h1, e, splitF_app, h2]
theorem rows_two (s t : List UInt8) : rowsT (s ++ 10 :: t) = rowsT (s ++ [10]) ++ (rowsT t).map fun x => (x.1 + ((linesL (s ++ [10])).length : Int), x.2) := by
  unfold rowsT
  rw [lines_two, rowsF_app, ← rowsF_shift]
/-! ### what is printed is read as it was -/
theorem op_plain (n : Int) : plainB (opB n) := by
  unfold opB plainB
  split <;> exact ⟨by decide, by decide⟩
theorem kd_plain (n : Int) : plainB (kdB n) := by
  unfold kdB plainB
  split <;> exact ⟨by decide, by decide⟩
theorem digit_plain {c : UInt8} (h1 : 48 ≤ c.toNat) (h2 : c.toNat ≤ 57) : blk c = false ∧ c ≠ 10 ∧ c ≠ 35 := by
  refine ⟨?_, fun e => by subst e; simp at h1, fun e => by subst e; simp at h1⟩
  unfold blk
  have n1 : c ≠ 32 := fun e => by subst e; simp at h1
  have n2 : c ≠ 9 := fun e => by subst e; simp at h1
  have n3 : c ≠ 13 := fun e => by subst e; simp at h1
  simp [n1, n2, n3]
theorem num_plain {n : Int} (h0 : 0 ≤ n) (h1 : n ≤ 2147483647) : plainB (itoa n) := by
  unfold itoa
  rw [if_neg (by omega)]
  exact ⟨fun c hc => digit_plain (dec_digit _ c hc).1 (dec_digit _ c hc).2, dec_ne _⟩
theorem words_plain {d : GDirective} (h : dR d = true) : ∀ a ∈ wordsB d, plainB a.data.toList := by
  obtain ⟨_, h2, _⟩ := dR_shape h
  intro a ha
  unfold wordsB at ha
  rcases List.mem_cons.1 ha with rfl | ha
  · rw [data_ofL]; exact op_plain _
  rcases List.mem_cons.1 ha with rfl | ha
  · rw [data_ofL]; exact kd_plain _
  obtain ⟨n, hn, rfl⟩ := List.mem_map.1 ha
  rw [tB_data (h2 n hn).1 (h2 n hn).2]
  exact num_plain (h2 n hn).1 (h2 n hn).2
theorem jn_mem {L : List ByteArray} (h : ∀ a ∈ L, plainB a.data.toList) {c : UInt8} (hc : c ∈ jnB L) : c ≠ 10 ∧ c ≠ 35 := by
  unfold jnB Lib.join at hc
  rcases mem_join _ hc with rfl | ⟨x, hx, hc⟩
  · exact ⟨by decide, by decide⟩
  · obtain ⟨a, ha, rfl⟩ := List.mem_map.1 hx
    exact ⟨((h a ha).1 c hc).2.1, ((h a ha).1 c hc).2.2⟩
theorem words_jn {L : List ByteArray} (h : ∀ a ∈ L, plainB a.data.toList) : (wordsL (jnB L)).map ofL = L := by
  unfold wordsL
  rw [bare_all _ fun c hc => (jn_mem h hc).2]
  unfold jnB Lib.join
  rw [wgo_join _ fun x hx => by obtain ⟨a, ha, rfl⟩ := List.mem_map.1 hx; exact h a ha, List.map_map]
  have : (ofL ∘ fun x : ByteArray => x.data.toList) = id := funext fun x => ofL_data x
  rw [this, List.map_id]
/-- Directives, line by line. -/
def textB (l : List GDirective) : List UInt8 := cat (l.map fun d => jnB (wordsB d))
theorem printS_right : ∀ (l : List GDirective) (b : List UInt8), (∀ d ∈ l, dR d = true) → printS l b = .inl (ofL (b ++ textB l))
  | [], b, _ => by simp [printS, textB, cat]
  | d :: r, b, h => by
    simp only [printS, h d List.mem_cons_self, cond_true]
    rw [printS_right r _ fun x hx => h x (List.mem_cons_of_mem _ hx)]
    simp [textB, cat, lineB]
theorem printS_wrong : ∀ (l : List GDirective) (b : List UInt8), (l.all dR) = false → printS l b = .inr (ofL [], false)
  | [], b, h => by simp at h
  | d :: r, b, h => by
    simp only [printS]
    cases hd : dR d with
    | false => rfl
    | true =>
      simp only [List.all_cons, hd, Bool.true_and] at h
      exact printS_wrong r _ h
theorem printT_eq (l : List GDirective) : printT l = bif l.all dR then (ofL (textB l), true) else (ofL [], false) := by
  unfold printT
  cases h : l.all dR with
  | true =>
    rw [printS_right l [] fun d hd => List.all_eq_true.1 h d hd]
    simp
  | false => rw [printS_wrong l [] h]; rfl
theorem rows_text : ∀ (l : List GDirective) (i : Int), (∀ d ∈ l, dR d = true) → (rowsF i (l.map fun d => jnB (wordsB d))).map (·.2) = l.map wordsB
  | [], i, _ => rfl
  | d :: r, i, h => by
    have hw := words_jn (words_plain (h d List.mem_cons_self))
    have hne : (wordsL (jnB (wordsB d))).isEmpty = false := by
      cases hq : wordsL (jnB (wordsB d)) with
      | nil => rw [hq] at hw; simp [wordsB] at hw
      | cons _ _ => rfl
    simp only [List.map_cons, rowsF, hne, cond_false, hw, rows_text r (i + 1) fun x hx => h x (List.mem_cons_of_mem _ hx)]
theorem parse_text (l : List GDirective) (h : ∀ d ∈ l, dR d = true) : parseT (textB l) = (l, (0, 0)) := by
  have hl : linesL (textB l) = l.map fun d => jnB (wordsB d) := lines_cat _ fun x hx c hc => by
    obtain ⟨d, hd, rfl⟩ := List.mem_map.1 hx
    exact (jn_mem (words_plain (h d hd)) hc).1
  have hr := rows_text l 1 h
  have hm : ∀ {β : Type} (f : List ByteArray → β), (rowsF 1 (l.map fun d => jnB (wordsB d))).map (fun x => f x.2) = l.map fun d => f (wordsB d) := fun f => by
    have e := congrArg (List.map f) hr
    rw [List.map_map, List.map_map] at e
    exact e
  unfold parseT parseR rowsT
  rw [hl]
  rcases parseS_cases (rowsF 1 (l.map fun d => jnB (wordsB d))) with ⟨h1, h2⟩ | ⟨i, x, h1, h2, h3, h4⟩
  · rw [h1, hm fun w => (parseB w).1]
    have : (l.map fun d => (parseB (wordsB d)).1) = l := by
      conv => rhs; rw [← List.map_id l]
      exact List.map_congr_left fun d hd => by rw [parse_words (h d hd)]; rfl
    simp only [this]
  · exfalso
    have : x.2 ∈ l.map wordsB := by rw [← hr]; exact List.mem_map.2 ⟨x, List.mem_of_getElem? h1, rfl⟩
    obtain ⟨d, hd, he⟩ := List.mem_map.1 this
    apply h2
    unfold cd
    rw [← he, parse_words (h d hd)]
theorem textB_len (l : List GDirective) (h : ∀ d ∈ l, dR d = true) : (textB l).length ≤ l.length * 171 := by
  have := cat_len (l.map fun d => jnB (wordsB d)) 170 fun x hx => by
    obtain ⟨d, hd, rfl⟩ := List.mem_map.1 hx
    have := lineB_len (h d hd)
    simp only [lineB, List.length_append, List.length_cons, List.length_nil] at this
    omega
  rw [List.length_map] at this
  exact this
/-- What a text says is right. -/
theorem parseT_right {s : List UInt8} (h : (parseT s).2.2 = 0) : (∀ d ∈ (parseT s).1, dR d = true) ∧ (parseT s).2 = (0, 0) := by
  unfold parseT parseR at h ⊢
  rcases parseS_cases (rowsT s) with ⟨h1, h2⟩ | ⟨i, x, h1, h2, h3, h4⟩
  · rw [h1]
    refine ⟨fun d hd => ?_, rfl⟩
    obtain ⟨x, hx, rfl⟩ := List.mem_map.1 hd
    have := h2 x hx
    unfold cd at this
    rcases parse_cases x.2 with h | h | ⟨d, h, hr, _⟩
    · rw [h] at this; simp at this
    · rw [h] at this; simp at this
    · rw [h]; exact hr
  · rw [h4] at h
    exact absurd h h2
theorem parseT_len (s : List UInt8) : (parseT s).1.length ≤ (linesL s).length := by
  have := rowsF_len 1 (linesL s)
  unfold parseT parseR
  rcases parseS_cases (rowsT s) with ⟨h1, h2⟩ | ⟨i, x, h1, h2, h3, h4⟩
  · rw [h1]; simpa [rowsT] using this
  · rw [h4]; simp
/-- A fault is of a line that there is, and no directives are told with it. -/
theorem parseT_fault {s : List UInt8} (h : (parseT s).2.2 ≠ 0) : ∃ (i j : Nat) (y : List UInt8), (rowsT s)[i]? = some ((j : Int) + 1, (wordsL y).map ofL) ∧ (linesL s)[j]? = some y ∧ parseT s = ([], ((j : Int) + 1, (parseB ((wordsL y).map ofL)).2)) ∧ ∀ (q : Nat) z, q < i → (rowsT s)[q]? = some z → cd z = 0 := by
  unfold parseT parseR at h ⊢
  rcases parseS_cases (rowsT s) with ⟨h1, h2⟩ | ⟨i, x, h1, h2, h3, h4⟩
  · rw [h1] at h; simp at h
  · rw [h4]
    obtain ⟨j, y, g1, rfl, _⟩ := rowsF_mem 1 _ x (List.mem_of_getElem? h1)
    exact ⟨i, j, y, by rw [h1, show (1 : Int) + (j : Int) = (j : Int) + 1 by omega], g1, by simp only [cd]; rw [show (1 : Int) + (j : Int) = (j : Int) + 1 by omega], h3⟩
end Go.Proofs.YtaknikdbnfmlfaaDoor.Ex
