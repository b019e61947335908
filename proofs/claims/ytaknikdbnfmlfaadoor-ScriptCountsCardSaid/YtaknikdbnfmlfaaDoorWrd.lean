/- Words of a line, over lists of bytes: what the program's loop over signs comes to. No program in this text. -/
import Derived.Lib.SpaceUEq
import Derived.Lib.FieldsU
import Derived.Laws.RangeAny
import Derived.Lib.SplitLaws
import Derived.Lib.IndexBytes
import Derived.Lib.Strings
namespace Go.Proofs.YtaknikdbnfmlfaaDoor.Wrd
open Go.Lib

def blk (c : UInt8) : Bool := c == 32 || c == 9 || c == 13

/-- Words, from where one stands on: what is left, and the word that was begun. -/
def wgo : List UInt8 → List UInt8 → List (List UInt8)
  | [], cur => if cur = [] then [] else [cur]
  | c :: l, cur => if blk c = true then (if cur = [] then wgo l [] else cur :: wgo l []) else wgo l (cur ++ [c])

def bare (l : List UInt8) : List UInt8 := l.takeWhile fun c => c != 35
def wordsL (l : List UInt8) : List (List UInt8) := wgo (bare l) []

theorem wgo_run : ∀ (m l cur : List UInt8), (∀ c ∈ m, blk c = false) → wgo (m ++ l) cur = wgo l (cur ++ m)
  | [], l, cur, _ => by simp
  | c :: m, l, cur, h => by
    rw [List.cons_append]
    simp only [wgo]
    rw [if_neg (by rw [h c List.mem_cons_self]; simp), wgo_run m l (cur ++ [c]) (fun d hd => h d (List.mem_cons_of_mem _ hd))]
    simp

theorem blk_high {c : UInt8} (h : 128 ≤ c.toNat) : blk c = false := by
  unfold blk
  have h1 : c ≠ 32 := fun e => by subst e; exact absurd h (by decide)
  have h2 : c ≠ 9 := fun e => by subst e; exact absurd h (by decide)
  have h3 : c ≠ 13 := fun e => by subst e; exact absurd h (by decide)
  simp [h1, h2, h3]

theorem get_of (s : ByteArray) (i : Nat) (h : i < s.size) : s.get! i = s[i]'h := by
  simp [ByteArray.get!, getElem!_pos, h]
  rfl

/-- The bytes of a sign that is no byte: none of them is a blank. -/
theorem wide (s : ByteArray) (pos : Nat) (h : pos < s.size) (ha : 128 ≤ (s[pos]'h).toNat) :
    pos + (Utf8.decode s pos).2 ≤ s.size ∧ ∀ j, (hj : j < s.size) → pos ≤ j → j < pos + (Utf8.decode s pos).2 → 128 ≤ (s[j]'hj).toNat := by
  have e := decode_at s pos
  obtain ⟨c1, c2, c3, c4⟩ := decodeN_conts (s.size - pos) (s.get! pos).toNat (s.get! (pos + 1)).toNat (s.get! (pos + 2)).toNat (s.get! (pos + 3)).toNat
  have hw := decodeN_le_n' (s.size - pos) (s.get! pos).toNat (s.get! (pos + 1)).toNat (s.get! (pos + 2)).toNat (s.get! (pos + 3)).toNat (by omega)
  rw [← e] at c1 c2 c3 c4 hw
  refine ⟨by omega, fun j hj h1 h2 => ?_⟩
  obtain ⟨d, rfl⟩ : ∃ d, j = pos + d := ⟨j - pos, by omega⟩
  have hd : d = 0 ∨ d = 1 ∨ d = 2 ∨ d = 3 := by omega
  rcases hd with rfl | rfl | rfl | rfl
  · exact ha
  · have := (c1 (by omega)).1; rw [get_of s (pos + 1) hj] at this; omega
  · have := (c2 (by omega)).1; rw [get_of s (pos + 2) hj] at this; omega
  · have := (c3 (by omega)).1; rw [get_of s (pos + 3) hj] at this; omega

/-- A stretch of a text. -/
def sub (s : ByteArray) (i j : Nat) : List UInt8 := (s.data.toList.drop i).take (j - i)

theorem drop_split (s : ByteArray) (i j : Nat) (h : i ≤ j) : s.data.toList.drop i = sub s i j ++ s.data.toList.drop j := by
  unfold sub
  have h1 := (List.take_append_drop (j - i) (s.data.toList.drop i)).symm
  rw [List.drop_drop, show i + (j - i) = j by omega] at h1
  exact h1

theorem sub_app (s : ByteArray) (i j k : Nat) (h : i ≤ j) (h2 : j ≤ k) : sub s i j ++ sub s j k = sub s i k := by
  have h1 := drop_split s i k (by omega)
  have h3 := drop_split s i j h
  have h4 := drop_split s j k h2
  rw [h4, ← List.append_assoc] at h3
  rw [h1] at h3
  exact (List.append_cancel_right h3).symm

theorem sub_extract (s : ByteArray) (i j : Nat) : (s.extract i j).data.toList = sub s i j := by
  unfold sub
  simp [ByteArray.data_extract]

theorem sub_ne (s : ByteArray) (i j : Nat) (h : i < j) (hj : j ≤ s.size) : sub s i j ≠ [] := by
  intro e
  have := congrArg List.length e
  unfold sub at this
  rw [List.length_take, List.length_drop] at this
  have h2 : s.data.toList.length = s.size := by simp
  simp only [List.length_nil] at this
  omega

theorem sub_mem (s : ByteArray) (i j : Nat) (hj : j ≤ s.size) : ∀ c ∈ sub s i j, ∃ k, ∃ hk : k < s.size, i ≤ k ∧ k < j ∧ c = s[k]'hk := by
  intro c hc
  unfold sub at hc
  obtain ⟨n, hn, rfl⟩ := List.mem_iff_getElem.1 hc
  rw [List.length_take, List.length_drop] at hn
  have h2 : s.data.toList.length = s.size := by simp
  refine ⟨i + n, by omega, by omega, by omega, ?_⟩
  rw [List.getElem_take, List.getElem_drop]
  rfl

/-- The word that was begun, if one was. -/
def curOf (s : ByteArray) (st : Option Nat) (pos : Nat) : List UInt8 := match st with
  | none => []
  | some a => sub s a pos

/-- What the loop has found at a place, and what it still finds. -/
def Fnd (s : ByteArray) (outs : List ByteArray) (st : Option Nat) (pos : Nat) : Prop :=
  (outs.map fun x => x.data.toList) ++ wgo (s.data.toList.drop pos) (curOf s st pos) = wgo s.data.toList []

theorem fnd_start (s : ByteArray) : Fnd s [] none 0 := by simp [Fnd, curOf]

theorem fnd_end {s : ByteArray} {outs : List ByteArray} {st : Option Nat} (h : Fnd s outs st s.size) : (outs.map fun x => x.data.toList) ++ (if curOf s st s.size = [] then [] else [curOf s st s.size]) = wgo s.data.toList [] := by
  unfold Fnd at h
  rw [List.drop_of_length_le (by simp)] at h
  exact h

/-- Over a sign that is no blank. -/
theorem fnd_word {s : ByteArray} {outs : List ByteArray} {st : Option Nat} {pos K : Nat} (h : Fnd s outs st pos) (hn : ∀ c ∈ sub s pos (pos + K), blk c = false) (hst : ∀ a, st = some a → a ≤ pos) :
    Fnd s outs (some (st.getD pos)) (pos + K) := by
  unfold Fnd at h ⊢
  rw [drop_split s pos (pos + K) (by omega), wgo_run _ _ _ hn] at h
  rw [← h]
  congr 2
  unfold curOf
  cases st with
  | none => simp
  | some a => simp only [Option.getD_some]; exact (sub_app s a pos (pos + K) (hst a rfl) (by omega)).symm

/-- Over a blank behind a word. -/
theorem fnd_cut {s : ByteArray} {outs : List ByteArray} {a pos : Nat} (h : Fnd s outs (some a) pos) (hp : pos < s.size) (ha : a < pos) (hb : blk (s[pos]'hp) = true) :
    Fnd s (outs ++ [s.extract a pos]) none (pos + 1) := by
  unfold Fnd at h ⊢
  rw [List.drop_eq_getElem_cons (by simpa using hp)] at h
  simp only [wgo] at h
  have hb' : blk (s.data.toList[pos]'(by simpa using hp)) = true := hb
  rw [if_pos hb', if_neg (show ¬ curOf s (some a) pos = [] from sub_ne s a pos ha (by omega))] at h
  rw [← h, List.map_append, List.map_cons, List.map_nil, sub_extract]
  simp [curOf]

/-- Over a blank behind none. -/
theorem fnd_skip {s : ByteArray} {outs : List ByteArray} {pos : Nat} (h : Fnd s outs none pos) (hp : pos < s.size) (hb : blk (s[pos]'hp) = true) :
    Fnd s outs none (pos + 1) := by
  unfold Fnd at h ⊢
  rw [List.drop_eq_getElem_cons (by simpa using hp)] at h
  simp only [wgo] at h
  have hb' : blk (s.data.toList[pos]'(by simpa using hp)) = true := hb
  rw [if_pos hb', if_pos (show curOf s none pos = [] from rfl)] at h
  exact h

/-! ### lines -/
/-- Cut at line feeds: one more than there are. -/
def splitF : List UInt8 → List (List UInt8)
  | [] => [[]]
  | c :: l => if c = 10 then [] :: splitF l else match splitF l with
    | [] => [[c]]
    | x :: r => (c :: x) :: r
def trimF (l : List UInt8) : List UInt8 := if l.getLast? = some 10 then l.dropLast else l
def linesL (l : List UInt8) : List (List UInt8) := if l = [] then [] else splitF (trimF l)

theorem splitF_ne (l : List UInt8) : splitF l ≠ [] := by
  cases l with
  | nil => simp [splitF]
  | cons c l => unfold splitF; split <;> (try split) <;> simp

theorem splitF_cases : ∀ (l : List UInt8), (indexByte l 10 = -1 ∧ splitF l = [l]) ∨ ∃ n : Nat, indexByte l 10 = n ∧ splitF l = l.take n :: splitF (l.drop (n + 1))
  | [] => .inl ⟨rfl, rfl⟩
  | c :: l => by
    by_cases hc : c = 10
    · subst hc
      exact .inr ⟨0, by simp [indexByte], by simp [splitF]⟩
    · rcases splitF_cases l with ⟨h1, h2⟩ | ⟨n, h1, h2⟩
      · exact .inl ⟨by simp [indexByte, hc, h1], by simp [splitF, hc, h2]⟩
      · refine .inr ⟨n + 1, ?_, by simp [splitF, hc, h2]⟩
        have h3 : ¬ ((n : Int) = -1) := by omega
        simp [indexByte, hc, h1, h3]

theorem splitK_F : ∀ (k : Nat) (l : List UInt8), count l [10] = k → splitK [10] 0 k l = splitF l
  | 0, l, hk => by
    rcases splitF_cases l with ⟨_, h2⟩ | ⟨n, h1, _⟩
    · rw [h2]; rfl
    · have := count_hit (s := l) (sub := [10]) (i := n) (by simp) (by rw [index_one]; exact h1)
      omega
  | k + 1, l, hk => by
    rcases splitF_cases l with ⟨h1, h2⟩ | ⟨n, h1, h2⟩
    · have := count_miss (s := l) (sub := [10]) (by rw [index_one]; exact h1)
      omega
    · have hc := count_hit (s := l) (sub := [10]) (i := n) (by simp) (by rw [index_one]; exact h1)
      have ih := splitK_F k (l.drop (n + 1)) (by simp only [List.length_singleton] at hc; omega)
      unfold splitK
      rw [index_one, h1, if_neg (by simp), h2]
      simp only [List.length_singleton, Nat.add_zero, Int.toNat_natCast]
      rw [ih]

theorem splitB_F (T : ByteArray) : (splitB ⟨#[10]⟩ 0 (countB T ⟨#[10]⟩) T).map (fun x => x.data.toList) = splitF T.data.toList := by
  rw [splitB_data]
  exact splitK_F _ _ rfl

theorem suffix_ten (m : List UInt8) (c : UInt8) : ([10] : List UInt8).isSuffixOf (m ++ [c]) = true ↔ c = 10 := by
  rw [List.isSuffixOf_iff_suffix]
  constructor
  · rintro ⟨k, hk⟩
    have := congrArg List.getLast? hk
    simp at this
    exact this.symm
  · rintro rfl
    exact ⟨m, rfl⟩

theorem trimF_eq (l : List UInt8) : trimSuffix l [10] = trimF l := by
  unfold trimSuffix trimF hasSuffix
  rcases List.eq_nil_or_concat l with rfl | ⟨m, c, rfl⟩
  · rfl
  · rw [List.concat_eq_append]
    by_cases hc : c = 10
    · rw [if_pos ((suffix_ten m c).2 hc)]; simp [hc]
    · rw [if_neg (fun h => hc ((suffix_ten m c).1 h))]; simp [hc]
end Go.Proofs.YtaknikdbnfmlfaaDoor.Wrd
