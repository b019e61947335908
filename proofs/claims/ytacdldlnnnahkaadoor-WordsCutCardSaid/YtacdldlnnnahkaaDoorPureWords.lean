/- Layer 2 over lists: the document's lines, words and rows of texts come to the same as the program's. -/
import Derived.Test.YtacdldlnnnahkaaDoorWordsB
import Derived.Test.YtacdldlnnnahkaaDoorPfeluccaref02Same
import Derived.Test.YtacdldlnnnahkaaDoorPfeluccaref02Lines
import Derived.Test.YtacdldlnnnahkaaDoorPfeluccaref02Words
import Derived.Test.YtacdldlnnnahkaaDoorPfeluccaref02Line
namespace Go.Proofs.YtacdldlnnnahkaaDoor.PureWords
open Go.RowKit Go.Proofs.YtacdldlnnnahkaaDoorW.PrintWords Go.Proofs.YtacdldlnnnahkaaDoorW.PrintLast Go.Proofs.YtacdldlnnnahkaaDoorW.PrintMore Go.Proofs.YtacdldlnnnahkaaDoor.Pr Go.Proofs.YtacdldlnnnahkaaDoor.Wrd

theorem w64 {x : Int} (h0 : -9223372036854775808 ≤ x) (h1 : x ≤ 9223372036854775807) : wrap64 x = x := by unfold wrap64; omega

theorem ofL_inj {a b : List UInt8} (h : ofL a = ofL b) : a = b := by have := congrArg (fun x : ByteArray => x.data.toList) h; simpa [data_ofL] using this
theorem ofL_size (l : List UInt8) : (ofL l).size = l.length := by simp [ofL, ByteArray.size]
theorem ofL_toList (l : List UInt8) : (ofL l).toList = l := by rw [ByteArray.toList_eq, data_ofL]
theorem ofL_append (a b : List UInt8) : ofL a ++ ofL b = ofL (a ++ b) := ba_app a b
theorem ba_eq {a b : ByteArray} : a.toList = b.toList ↔ a = b := by
  constructor
  · intro h
    rw [ByteArray.toList_eq, ByteArray.toList_eq] at h
    rw [← ofL_data a, ← ofL_data b, h]
  · rintro rfl; rfl
theorem rd_at (xs : List ByteArray) (i : Nat) (h : i < xs.length) : rdOf ByteArray.empty xs (i : Int) = xs[i] := by
  unfold rdOf
  rw [Int.toNat_natCast, List.getD_eq_getElem?_getD, List.getElem?_eq_getElem h]; rfl
theorem bt_get (s : ByteArray) (i : Nat) (h : i < s.size) : bt s (i : Int) = ((s[i]'h).toNat : Int) := by
  have := bt_at s (i : Int) (by simpa using h)
  rw [← this]; rfl
theorem drop_at (s : ByteArray) (i : Nat) (h : i < s.size) : s.data.toList.drop i = (s[i]'h) :: s.data.toList.drop (i + 1) := by
  rw [List.drop_eq_getElem_cons (by simpa using h)]; rfl
theorem byte_is {c : UInt8} {n : Nat} (hn : n < 256) : ((c.toNat : Int) = (n : Int)) ↔ c = UInt8.ofNat n := by
  constructor
  · intro h
    have h' : c.toNat = n := by omega
    rw [← h', UInt8.ofNat_toNat]
  · rintro rfl
    simp [UInt8.toNat_ofNat', Nat.mod_eq_of_lt hn]

/-! ### rows of texts -/
theorem same_loop (a b : List ByteArray) (hl : a.length = b.length) (ha : a.length ≤ 4611686018427387904) (d : Nat) : ∀ (k i : Nat), i + d = a.length → d < k → feluccaref02_Same.l0 k a b (i : Int) = some (decide (a.drop i = b.drop i)) := by
  induction d with
  | zero =>
    intro k i hi hk
    obtain ⟨k, rfl⟩ : ∃ q, k = q + 1 := ⟨k - 1, by omega⟩
    simp only [feluccaref02_Same.l0]
    rw [if_neg (by omega), List.drop_of_length_le (by omega), List.drop_of_length_le (by omega)]
    simp
  | succ d ih =>
    intro k i hi hk
    obtain ⟨k, rfl⟩ : ∃ q, k = q + 1 := ⟨k - 1, by omega⟩
    simp only [feluccaref02_Same.l0]
    rw [if_pos (by omega), if_pos (by omega), if_pos (by omega), rd_at a i (by omega), rd_at b i (by omega), w64 (by omega) (by omega)]
    have e1 : a.drop i = a[i] :: a.drop (i + 1) := List.drop_eq_getElem_cons (by omega)
    have e2 : b.drop i = b[i] :: b.drop (i + 1) := List.drop_eq_getElem_cons (by omega)
    rw [e1, e2]
    by_cases h : a[i] = b[i]
    · rw [if_pos (by rw [h]), show (i : Int) + 1 = ((i + 1 : Nat) : Int) by omega, ih k (i + 1) (by omega) (by omega)]
      simp only [List.cons.injEq, h, true_and]
    · rw [if_neg (fun e => h (ba_eq.1 e))]
      simp only [List.cons.injEq, h, false_and, decide_false]
theorem same_some (a b : List ByteArray) (ha : a.length ≤ 4611686018427387904) {k : Nat} (hk : a.length < k) : feluccaref02_Same.f k a b = some (decide (a = b)) := by
  unfold feluccaref02_Same.f
  by_cases hl : a.length = b.length
  · rw [if_pos (by omega)]
    have := same_loop a b hl ha a.length k 0 (by omega) hk
    simpa using this
  · rw [if_neg (by omega), decide_eq_false (fun e => hl (by rw [e]))]

/-! ### lines -/
theorem splitF_run : ∀ (m l : List UInt8), (∀ c ∈ m, c ≠ 10) → splitF (m ++ 10 :: l) = m :: splitF l
  | [], l, _ => by simp [splitF]
  | c :: m, l, h => by
    have hc : c ≠ 10 := h c List.mem_cons_self
    rw [List.cons_append]
    show (if c = 10 then [] :: splitF (m ++ 10 :: l) else match splitF (m ++ 10 :: l) with | [] => [[c]] | x :: r => (c :: x) :: r) = _
    rw [if_neg hc, splitF_run m l (fun d hd => h d (List.mem_cons_of_mem _ hd))]
theorem splitF_one (m : List UInt8) (h : ∀ c ∈ m, c ≠ 10) : splitF m = [m] := by
  induction m with
  | nil => rfl
  | cons c m ih =>
    have hc : c ≠ 10 := h c List.mem_cons_self
    unfold splitF
    rw [if_neg hc, ih (fun d hd => h d (List.mem_cons_of_mem _ hd))]
theorem splitF_snoc : ∀ (m : List UInt8), splitF (m ++ [10]) = splitF m ++ [[]]
  | [] => by simp [splitF]
  | c :: m => by
    rw [List.cons_append]
    unfold splitF
    by_cases hc : c = 10
    · rw [if_pos hc, if_pos hc, splitF_snoc m]; rfl
    · rw [if_neg hc, if_neg hc, splitF_snoc m]
      cases h : splitF m with
      | nil => exact absurd h (splitF_ne m)
      | cons x r => rfl
/-- Lines with a line feed behind each. -/
def cat (l : List (List UInt8)) : List UInt8 := l.flatMap fun x => x ++ [10]
theorem cat_split : ∀ (m : List UInt8), cat (splitF m) = m ++ [10]
  | [] => rfl
  | c :: m => by
    have ih := cat_split m
    unfold splitF
    by_cases hc : c = 10
    · rw [if_pos hc]; subst hc
      show [10] ++ cat (splitF m) = _
      rw [ih]; rfl
    · rw [if_neg hc]
      cases h : splitF m with
      | nil => exact absurd h (splitF_ne m)
      | cons x r =>
        rw [h] at ih
        show (c :: x) ++ [10] ++ cat r = _
        have : cat (x :: r) = x ++ [10] ++ cat r := rfl
        rw [this] at ih
        simp only [List.cons_append]
        rw [ih]
theorem split_cat (l : List (List UInt8)) (h : ∀ x ∈ l, ∀ c ∈ x, c ≠ 10) : splitF (cat l) = l ++ [[]] := by
  induction l with
  | nil => rfl
  | cons x l ih =>
    have : cat (x :: l) = x ++ 10 :: cat l := by simp [cat]
    rw [this, splitF_run x _ (h x List.mem_cons_self), ih (fun y hy => h y (List.mem_cons_of_mem _ hy))]
    rfl
theorem trimF_snoc (m : List UInt8) : trimF (m ++ [10]) = m := by unfold trimF; simp
theorem lines_cat (l : List (List UInt8)) (h : ∀ x ∈ l, ∀ c ∈ x, c ≠ 10) : linesL (cat l) = l := by
  rcases List.eq_nil_or_concat l with rfl | ⟨m, x, rfl⟩
  · rfl
  · rw [List.concat_eq_append] at h ⊢
    have e : cat (m ++ [x]) = (cat m ++ x) ++ [10] := by simp [cat]
    have h2 := split_cat (m ++ [x]) h
    unfold linesL
    rw [e] at h2 ⊢
    rw [if_neg (by simp), trimF_snoc]
    rw [splitF_snoc] at h2
    exact List.append_cancel_right h2
theorem cat_lines (s : List UInt8) : cat (linesL s) = s ∨ cat (linesL s) = s ++ [10] := by
  unfold linesL
  split
  · rename_i h; left; rw [h]; rfl
  · rename_i h
    unfold trimF
    split
    · rename_i h2
      left
      rw [cat_split]
      obtain ⟨m, hm⟩ := List.getLast?_eq_some_iff.1 h2
      rw [hm]; simp
    · right; exact cat_split s
theorem split_no : ∀ (m : List UInt8), ∀ x ∈ splitF m, ∀ c ∈ x, c ≠ 10
  | [], x, hx, c, hc => by
    simp [splitF] at hx
    subst hx
    cases hc
  | d :: m, x, hx, c, hc => by
    unfold splitF at hx
    by_cases hd : d = 10
    · rw [if_pos hd] at hx
      rcases List.mem_cons.1 hx with rfl | hx
      · cases hc
      · exact split_no m x hx c hc
    · rw [if_neg hd] at hx
      cases h : splitF m with
      | nil => exact absurd h (splitF_ne m)
      | cons y r =>
        rw [h] at hx
        have ih := split_no m
        rw [h] at ih
        rcases List.mem_cons.1 hx with rfl | hx
        · rcases List.mem_cons.1 hc with rfl | hc
          · exact hd
          · exact ih y List.mem_cons_self c hc
        · exact ih x (List.mem_cons_of_mem _ hx) c hc
theorem split_len : ∀ (m : List UInt8), (splitF m).length ≤ m.length + 1
  | [] => by simp [splitF]
  | c :: m => by
    have ih := split_len m
    unfold splitF
    split
    · simp only [List.length_cons]; omega
    · cases h : splitF m with
      | nil => simp
      | cons x r => rw [h] at ih; simp only [List.length_cons] at ih ⊢; omega
theorem lines_len (s : List UInt8) : (linesL s).length ≤ s.length + 1 := by
  unfold linesL
  split
  · simp
  · have h1 := split_len (trimF s)
    have h2 : (trimF s).length ≤ s.length := by unfold trimF; split <;> simp
    omega

/-- The document's lines, from where one stands on: what is left, the line that was begun. -/
def lgo : List UInt8 → List UInt8 → List (List UInt8)
  | [], cur => if cur = [] then [] else [cur]
  | c :: l, cur => if c = 10 then cur :: lgo l [] else lgo l (cur ++ [c])
theorem lgo_cur : ∀ (l cur : List UInt8), (cur ≠ [] ∨ l ≠ []) → (∀ c ∈ cur, c ≠ 10) → lgo l cur = splitF (trimF (cur ++ l))
  | [], cur, h, hc => by
    have hne : cur ≠ [] := by rcases h with h | h <;> simp_all
    unfold lgo
    have : trimF (cur ++ []) = cur := by
      unfold trimF
      rw [List.append_nil]
      split
      · rename_i h2
        exact absurd rfl (hc 10 (List.mem_of_getLast? h2))
      · rfl
    rw [if_neg hne, this, splitF_one cur hc]
  | c :: l, cur, h, hc => by
    unfold lgo
    by_cases h10 : c = 10
    · subst h10
      rw [if_pos rfl]
      by_cases hl : l = []
      · subst hl
        rw [trimF_snoc, splitF_one cur hc]; rfl
      · rw [lgo_cur l [] (.inr hl) (fun c hc => by cases hc)]
        have e : trimF (cur ++ 10 :: l) = cur ++ 10 :: trimF l := by
          unfold trimF
          have e1 : (cur ++ 10 :: l).getLast? = l.getLast? := by
            cases l with
            | nil => exact absurd rfl hl
            | cons x l => rw [List.getLast?_append, List.getLast?_cons_cons, List.getLast?_cons]; rfl
          rw [e1]
          split
          · rw [List.dropLast_append_of_ne_nil (by simp), List.dropLast_cons_of_ne_nil hl]
          · rfl
        rw [e, splitF_run cur _ hc]; rfl
    · rw [if_neg h10, lgo_cur l (cur ++ [c]) (.inl (by simp)) (fun d hd => by
        rcases List.mem_append.1 hd with hd | hd
        · exact hc d hd
        · rw [List.mem_singleton] at hd; subst hd; exact h10)]
      simp
theorem lgo_lines (s : List UInt8) : lgo s [] = linesL s := by
  unfold linesL
  split
  · rename_i h; subst h; rfl
  · rename_i h
    exact lgo_cur s [] (.inr h) (fun c hc => by cases hc)

theorem reflines_loop (s : ByteArray) (hs : s.size ≤ 1000000) (d : Nat) : ∀ (k i f : Nat) (acc : List ByteArray), i + d = s.size → d < k → f ≤ i → acc.length ≤ i →
    feluccaref02_Lines.l0 k s acc (f : Int) (i : Int) = some (acc ++ (lgo (s.data.toList.drop i) (sub s f i)).map ofL) := by
  induction d with
  | zero =>
    intro k i f acc hi hk hf ha
    obtain ⟨k, rfl⟩ : ∃ q, k = q + 1 := ⟨k - 1, by omega⟩
    obtain rfl : i = s.size := by omega
    simp only [feluccaref02_Lines.l0]
    rw [if_neg (by omega), List.drop_of_length_le (by simp)]
    unfold lgo
    by_cases hl : f < s.size
    · rw [if_pos (by omega), if_pos (by omega), if_pos (by omega), if_pos (by omega), if_neg (sub_ne s f s.size hl (Nat.le_refl _))]
      simp only [List.map_cons, List.map_nil, Int.toNat_natCast]
      rw [← sub_extract, ofL_data]
    · obtain rfl : f = s.size := by omega
      rw [if_neg (by omega), if_pos (by unfold sub; simp)]
      simp
  | succ d ih =>
    intro k i f acc hi hk hf ha
    obtain ⟨k, rfl⟩ : ∃ q, k = q + 1 := ⟨k - 1, by omega⟩
    have hlt : i < s.size := by omega
    simp only [feluccaref02_Lines.l0]
    rw [if_pos (by omega), if_pos (by omega), bt_get s i hlt, drop_at s i hlt, w64 (by omega) (by omega)]
    unfold lgo
    have h10 : (((s[i]'hlt).toNat : Int) = 10) ↔ (s[i]'hlt) = 10 := byte_is (n := 10) (by omega)
    by_cases hc : (s[i]'hlt) = 10
    · rw [if_pos (h10.2 hc), if_pos hc, if_pos (by omega), if_pos (by omega), if_pos (by omega), if_pos (by omega), show (i : Int) + 1 = ((i + 1 : Nat) : Int) by omega,
        ih k (i + 1) (i + 1) _ (by omega) (by omega) (by omega) (by simp; omega)]
      have e1 : sub s (i + 1) (i + 1) = [] := by unfold sub; simp
      have e2 : ofL (sub s f i) = s.extract f i := by rw [← sub_extract, ofL_data]
      simp only [Int.toNat_natCast, List.map_cons, List.append_assoc, List.cons_append, List.nil_append, e1, e2]
    · rw [if_neg (fun e => hc (h10.1 e)), if_neg hc, show (i : Int) + 1 = ((i + 1 : Nat) : Int) by omega, ih k (i + 1) f acc (by omega) (by omega) (by omega) (by omega)]
      have : sub s f i ++ [s[i]'hlt] = sub s f (i + 1) := by
        rw [← sub_app s f i (i + 1) hf (by omega)]
        congr 1
        unfold sub
        rw [drop_at s i hlt]
        simp
      rw [this]
theorem reflines_some (s : ByteArray) (hs : s.size ≤ 1000000) {k : Nat} (hk : s.size < k) : feluccaref02_Lines.f k s = some ((linesL s.data.toList).map ofL) := by
  unfold feluccaref02_Lines.f
  have := reflines_loop s hs s.size k 0 0 [] (by omega) hk (by omega) (by simp)
  rw [List.drop_zero] at this
  rw [← lgo_lines]
  have e : sub s 0 0 = [] := by unfold sub; simp
  rw [e, List.nil_append] at this
  exact this

/-! ### words -/
theorem refblank (c : UInt8) : feluccaref02_blank.f ((c.toNat : Int)) = some (blk c) := by
  unfold feluccaref02_blank.f blk
  have e1 : ((c.toNat : Int) = 32) ↔ c = 32 := byte_is (c := c) (n := 32) (by omega)
  have e2 : ((c.toNat : Int) = 9) ↔ c = 9 := byte_is (c := c) (n := 9) (by omega)
  have e3 : ((c.toNat : Int) = 13) ↔ c = 13 := byte_is (c := c) (n := 13) (by omega)
  by_cases h1 : c = 32
  · rw [if_pos (e1.2 h1)]; subst h1; rfl
  · rw [if_neg (fun e => h1 (e1.1 e))]
    by_cases h2 : c = 9
    · rw [if_pos (e2.2 h2)]; subst h2; rfl
    · rw [if_neg (fun e => h2 (e2.1 e))]
      by_cases h3 : c = 13
      · subst h3; rfl
      · have : ¬ ((c.toNat : Int) = 13) := fun e => h3 (e3.1 e)
        rw [beq_eq_false_iff_ne.2 this, beq_eq_false_iff_ne.2 h1, beq_eq_false_iff_ne.2 h2, beq_eq_false_iff_ne.2 h3]; rfl

theorem wgo_len : ∀ (l cur : List UInt8), (wgo l cur).length ≤ l.length + 1
  | [], cur => by unfold wgo; split <;> simp
  | c :: l, cur => by
    have h1 := wgo_len l []
    have h2 := wgo_len l (cur ++ [c])
    unfold wgo
    split
    · split
      · simp only [List.length_cons]; omega
      · simp only [List.length_cons]; omega
    · simp only [List.length_cons]; omega

theorem refwords_loop (s : ByteArray) (hs : s.size ≤ 1000000) (d : Nat) : ∀ (k i : Nat) (acc : List ByteArray) (cur : List UInt8), i + d = s.size → 2 * d + 2 ≤ k → cur.length ≤ i → acc.length ≤ i →
    feluccaref02_Words.l0 k s acc (ofL cur) (i : Int) = some (acc ++ (wgo (bare (s.data.toList.drop i)) cur).map ofL) := by
  have fin : ∀ (k : Nat) (i : Int) (acc : List ByteArray) (cur : List UInt8), 1 ≤ k → acc.length ≤ s.size → feluccaref02_Words.j1 k s acc (ofL cur) i false = some (acc ++ (wgo [] cur).map ofL) := by
    intro k i acc cur hk ha
    obtain ⟨k, rfl⟩ : ∃ q, k = q + 1 := ⟨k - 1, by omega⟩
    simp only [feluccaref02_Words.j1]
    rw [if_neg (by simp), ofL_toList]
    unfold wgo
    by_cases hc : cur = []
    · rw [if_pos hc, if_pos hc]; simp
    · rw [if_neg hc, if_neg hc, if_pos (by omega)]; rfl
  induction d with
  | zero =>
    intro k i acc cur hi hk hc ha
    obtain ⟨k, rfl⟩ : ∃ q, k = q + 1 := ⟨k - 1, by omega⟩
    simp only [feluccaref02_Words.l0]
    rw [if_neg (by omega), fin k i acc cur (by omega) (by omega), List.drop_of_length_le (by simp; omega)]
    rfl
  | succ d ih =>
    intro k i acc cur hi hk hc ha
    obtain ⟨k, rfl⟩ : ∃ q, k = q + 2 := ⟨k - 2, by omega⟩
    have hlt : i < s.size := by omega
    have h35 : (((s[i]'hlt).toNat : Int) = 35) ↔ (s[i]'hlt) = 35 := byte_is (n := 35) (by omega)
    simp only [feluccaref02_Words.l0]
    rw [if_pos (by omega), if_pos (by omega), bt_get s i hlt, drop_at s i hlt]
    by_cases h : (s[i]'hlt) = 35
    · have e : (((s[i]'hlt).toNat : Int) != 35) = false := by rw [h35.2 h]; rfl
      have eb : bare ((s[i]'hlt) :: s.data.toList.drop (i + 1)) = [] := by unfold bare; simp [h]
      rw [e, fin (k + 1) i acc cur (by omega) (by omega), eb]
    · have e : (((s[i]'hlt).toNat : Int) != 35) = true := by rw [bne_iff_ne]; exact fun e => h (h35.1 e)
      have eb : bare ((s[i]'hlt) :: s.data.toList.drop (i + 1)) = (s[i]'hlt) :: bare (s.data.toList.drop (i + 1)) := by unfold bare; simp [h]
      rw [e, eb]
      simp only [feluccaref02_Words.j1]
      rw [if_pos trivial, if_pos (by omega), if_pos (by omega), bt_get s i hlt, refblank]
      simp only [Option.bind_some]
      rw [w64 (by omega) (by omega), show (i : Int) + 1 = ((i + 1 : Nat) : Int) by omega]
      cases hb : blk (s[i]'hlt) with
      | true =>
        rw [if_pos rfl, ofL_toList]
        simp only [wgo, hb, if_true]
        by_cases hcur : cur = []
        · rw [if_pos hcur, if_pos hcur]
          exact ih k (i + 1) acc [] (by omega) (by omega) (by simp) (by omega)
        · rw [if_neg hcur, if_neg hcur, if_pos (by omega)]
          have := ih k (i + 1) (acc ++ [ofL cur]) [] (by omega) (by omega) (by simp) (by simp; omega)
          rw [show (⟨#[]⟩ : ByteArray) = ofL [] from rfl, this]
          simp
      | false =>
        have ex : s.extract (i : Int).toNat ((i + 1 : Nat) : Int).toNat = ofL [s[i]'hlt] := by
          rw [Int.toNat_natCast, Int.toNat_natCast, ← ofL_data (s.extract i (i + 1)), sub_extract]
          congr 1
          unfold sub
          rw [drop_at s i hlt]; simp
        rw [if_neg (by simp), if_pos (by omega), if_pos (by omega), ex, ofL_append, if_pos (by rw [ofL_size, ofL_size]; simp; omega)]
        simp only [wgo, hb, Bool.false_eq_true, if_false]
        exact ih k (i + 1) acc (cur ++ [s[i]'hlt]) (by omega) (by omega) (by simp; omega) (by omega)
theorem refwords_some (s : ByteArray) (hs : s.size ≤ 1000000) {k : Nat} (hk : 2 * s.size + 2 ≤ k) : feluccaref02_Words.f k s = some ((wordsL s.data.toList).map ofL) := by
  unfold feluccaref02_Words.f
  have := refwords_loop s hs s.size k 0 [] [] (by omega) hk (by simp) (by simp)
  rw [List.drop_zero] at this
  exact this

/-! ### words as a line -/
theorem join_snoc (l : List (List UInt8)) (x sep : List UInt8) (h : l ≠ []) : sep.intercalate (l ++ [x]) = sep.intercalate l ++ sep ++ x := by
  induction l with
  | nil => exact absurd rfl h
  | cons a l ih =>
    cases l with
    | nil => simp [List.intercalate, List.intersperse]
    | cons b l =>
      have h2 := ih (by simp)
      have e1 : List.intersperse sep (a :: b :: (l ++ [x])) = a :: sep :: List.intersperse sep (b :: (l ++ [x])) := rfl
      have e2 : List.intersperse sep (a :: b :: l) = a :: sep :: List.intersperse sep (b :: l) := rfl
      have h3 : (List.intersperse sep (b :: (l ++ [x]))).flatten = (List.intersperse sep (b :: l)).flatten ++ sep ++ x := h2
      show (List.intersperse sep (a :: b :: (l ++ [x]))).flatten = (List.intersperse sep (a :: b :: l)).flatten ++ sep ++ x
      rw [e1, e2, List.flatten_cons, List.flatten_cons, h3, List.flatten_cons, List.flatten_cons]
      simp
theorem joinB_snoc (l : List ByteArray) (x : ByteArray) (h : l ≠ []) : joinB (l ++ [x]) = joinB l ++ [32] ++ x.data.toList := by
  unfold joinB Lib.join
  rw [List.map_append, List.map_cons, List.map_nil]
  exact join_snoc _ _ _ (by simpa using h)
theorem joinB_one (x : ByteArray) : joinB [x] = x.data.toList := by simp [joinB, Lib.join, List.intercalate]

theorem refline_loop (l : List ByteArray) (hl : l.length ≤ 1000000) (N : Nat) (hx : ∀ x ∈ l, x.size ≤ N) (hN : N ≤ 1000000) (d : Nat) : ∀ (k i : Nat), i + d = l.length → d < k → (joinB (l.take i)).length ≤ i * (N + 1) →
    feluccaref02_Line.l0 k l (ofL (joinB (l.take i))) (i : Int) = some (ofL (joinB l ++ [10])) := by
  induction d with
  | zero =>
    intro k i hi hk hj
    obtain ⟨k, rfl⟩ : ∃ q, k = q + 1 := ⟨k - 1, by omega⟩
    obtain rfl : i = l.length := by omega
    rw [List.take_length] at hj ⊢
    simp only [feluccaref02_Line.l0]
    have hm : l.length * (N + 1) ≤ 1000000 * 1000001 := Nat.mul_le_mul hl (by omega)
    rw [if_neg (by omega), if_pos (by rw [ofL_size]; omega), show (⟨#[10]⟩ : ByteArray) = ofL [10] from rfl, ofL_append]
  | succ d ih =>
    intro k i hi hk hj
    obtain ⟨k, rfl⟩ : ∃ q, k = q + 1 := ⟨k - 1, by omega⟩
    have hlt : i < l.length := by omega
    have hm : i * (N + 1) ≤ 1000000 * 1000001 := Nat.mul_le_mul (by omega) (by omega)
    have hxi := hx l[i] (List.getElem_mem hlt)
    have et : l.take (i + 1) = l.take i ++ [l[i]] := List.take_succ_eq_append_getElem hlt
    have hsz : (l[i]).data.toList.length = (l[i]).size := by simp
    simp only [feluccaref02_Line.l0]
    rw [if_pos (by omega), rd_at l i hlt, w64 (by omega) (by omega), show (i : Int) + 1 = ((i + 1 : Nat) : Int) by omega]
    have hmul : (i + 1) * (N + 1) = i * (N + 1) + N + 1 := by rw [Nat.add_mul]; omega
    by_cases h0 : i = 0
    · subst h0
      have e : ofL (joinB (l.take 0)) ++ l[0] = ofL (joinB (l.take 1)) := by
        rw [et]
        simp only [List.take_zero, List.nil_append]
        rw [joinB_one, ofL_data]
        show ofL [] ++ _ = _
        rw [← ofL_data l[0], ofL_append]; rfl
      rw [if_neg (by omega), if_pos (by omega), if_pos (by rw [ofL_size]; omega), e]
      exact ih k 1 (by omega) (by omega) (by rw [et]; simp only [List.take_zero, List.nil_append]; rw [joinB_one]; omega)
    · have hne : l.take i ≠ [] := by
        intro e
        have h1 : (l.take i).length = 0 := by rw [e]; rfl
        rw [List.length_take] at h1
        omega
      have e : (ofL (joinB (l.take i)) ++ (⟨#[32]⟩ : ByteArray)) ++ l[i] = ofL (joinB (l.take (i + 1))) := by
        rw [et, joinB_snoc _ _ hne, show (⟨#[32]⟩ : ByteArray) = ofL [32] from rfl, ofL_append, ← ofL_append, ← ofL_append, ofL_data, ofL_append]
      have ej : (joinB (l.take (i + 1))).length = (joinB (l.take i)).length + 1 + (l[i]).size := by
        rw [et, joinB_snoc _ _ hne]; simp; omega
      have es : (ofL (joinB (l.take i)) ++ (⟨#[32]⟩ : ByteArray)).size = (joinB (l.take i)).length + 1 := by
        rw [show (⟨#[32]⟩ : ByteArray) = ofL [32] from rfl, ofL_append, ofL_size]; simp
      have hb1 : (joinB (l.take i)).length + 1 ≤ 9223372036854775807 := by omega
      have hb2 : (joinB (l.take i)).length + 1 + (l[i]).size ≤ 9223372036854775807 := by omega
      have hb3 : (joinB (l.take (i + 1))).length ≤ (i + 1) * (N + 1) := by rw [ej, hmul]; omega
      rw [if_pos (by omega), if_pos (by rw [ofL_size]; exact hb1), if_pos (by omega), if_pos (by rw [es]; exact hb2), e]
      exact ih k (i + 1) (by omega) (by omega) hb3
theorem joinB_len (l : List ByteArray) (N : Nat) (hx : ∀ x ∈ l, x.size ≤ N) : (joinB l).length ≤ l.length * (N + 1) := by
  have : ∀ i, i ≤ l.length → (joinB (l.take i)).length ≤ i * (N + 1) := by
    intro i
    induction i with
    | zero => intro _; simp [joinB, Lib.join, List.intercalate]
    | succ i ih =>
      intro hi
      have h1 := ih (by omega)
      have et : l.take (i + 1) = l.take i ++ [l[i]] := List.take_succ_eq_append_getElem (by omega)
      have hxi := hx l[i] (List.getElem_mem (by omega))
      have hsz : (l[i]).data.toList.length = (l[i]).size := by simp
      have hmul : (i + 1) * (N + 1) = i * (N + 1) + N + 1 := by rw [Nat.add_mul]; omega
      by_cases h0 : l.take i = []
      · rw [et, h0, List.nil_append, joinB_one]; omega
      · rw [et, joinB_snoc _ _ h0]; simp only [List.length_append, List.length_singleton]; omega
  have h := this l.length (Nat.le_refl _)
  rwa [List.take_length] at h
theorem refline_some (l : List ByteArray) (hl : l.length ≤ 1000000) (N : Nat) (hx : ∀ x ∈ l, x.size ≤ N) (hN : N ≤ 1000000) {k : Nat} (hk : l.length < k) : feluccaref02_Line.f k l = some (ofL (joinB l ++ [10])) := by
  unfold feluccaref02_Line.f
  have := refline_loop l hl N hx hN l.length k 0 (by omega) hk (by simp [joinB, Lib.join, List.intercalate])
  exact this
theorem line_some (l : List ByteArray) (hl : l.length ≤ 1000000) (N : Nat) (hx : ∀ x ∈ l, x.size ≤ N) (hN : N ≤ 1000000) : words_Line.f l = some (ofL (joinB l ++ [10])) := by
  have h := joinB_len l N hx
  have hm : l.length * (N + 1) ≤ 1000000 * 1000001 := Nat.mul_le_mul hl (by omega)
  unfold words_Line.f
  rw [if_pos (by omega), if_pos (by omega)]
theorem lines_some (s : ByteArray) (h : s.size ≤ 1000000) : words_Lines.f s = some ((linesL s.data.toList).map ofL) := by unfold words_Lines.f; rw [if_pos (by omega)]
theorem words_some (s : ByteArray) (h : s.size ≤ 1000000) : words_Words.f s = some ((wordsL s.data.toList).map ofL) := by unfold words_Words.f; rw [if_pos (by omega)]
theorem words_len (l : List UInt8) : (wordsL l).length ≤ l.length + 1 := by
  have h := wgo_len (bare l) []
  have h2 : (bare l).length ≤ l.length := (List.takeWhile_sublist _).length_le
  unfold wordsL; omega
end Go.Proofs.YtacdldlnnnahkaaDoor.PureWords
