/- words.Words, words.Lines, num.Text, num.Parse as entries: what they answer, in plain words (wordsL, linesL, itoa, parseI). -/
import Derived.Test.YtaknikdbnfmlfaaDoorWordsA
import Derived.Test.YtaknikdbnfmlfaaDoorNumA
import Derived.Test.YtaknikdbnfmlfaaDoorExOp
import Derived.Test.YtaknikdbnfmlfaaDoorExP
namespace Go.Proofs.YtaknikdbnfmlfaaDoor.Ex
open Go Go.RowKit Go.Proofs.YtaknikdbnfmlfaaDoor.Wrd Go.Proofs.YtaknikdbnfmlfaaDoor.Dig Go.Lib
set_option linter.unusedVariables false
theorem cond_none {α : Type} {b : Bool} {x : Option α} {r : α} (h : (bif b then x else none) = some r) : b = true ∧ x = some r := by cases b <;> simp_all
def ofL (l : List UInt8) : ByteArray := ⟨l.toArray⟩
theorem ofL_data (x : ByteArray) : ofL x.data.toList = x := by cases x; simp [ofL]
theorem data_ofL (l : List UInt8) : (ofL l).data.toList = l := by simp [ofL]
/-- A number's text, so that the kernel reckons it. -/
def decK : Nat → Nat → List UInt8
  | 0, _ => []
  | k + 1, u => bif Nat.blt u 10 then [UInt8.ofNat (48 + u)] else decK k (u / 10) ++ [UInt8.ofNat (48 + u % 10)]
theorem decK_eq : ∀ (k u : Nat), u < 10 ^ (k + 1) → decK (k + 1) u = decDigits u
  | k, u, h => by
    rw [decDigits]
    unfold decK
    by_cases hu : u < 10
    · rw [dif_pos hu, show Nat.blt u 10 = true from Nat.ble_eq_true_of_le hu]; rfl
    · have hb : Nat.blt u 10 = false := by
        cases hq : Nat.blt u 10 with
        | false => rfl
        | true => exact absurd (Nat.le_of_ble_eq_true hq) hu
      rw [dif_neg hu, hb]
      simp only [cond_false]
      cases k with
      | zero => exact absurd h (by simpa using hu)
      | succ k =>
        rw [decK_eq k (u / 10) (by rw [Nat.pow_succ] at h; omega)]
def itoaK (n : Int) : List UInt8 := bif decide (n < 0) then 45 :: decK 20 n.natAbs else decK 20 n.toNat
theorem itoaK_eq {n : Int} (h0 : -9223372036854775808 ≤ n) (h1 : n ≤ 9223372036854775807) : itoaK n = itoa n := by
  unfold itoaK itoa
  by_cases h : n < 0
  · rw [decide_eq_true h, if_pos h, ← decK_eq 19 _ (by omega)]; rfl
  · rw [decide_eq_false h, if_neg h, ← decK_eq 19 _ (by omega)]; rfl
def words_Words (_k : Nat) (s : ByteArray) : Option (List ByteArray) := bif decide (s.size < 4294967281) then some ((wordsL s.data.toList).map ofL) else none
def words_Lines (_k : Nat) (s : ByteArray) : Option (List ByteArray) := bif decide (s.size < 4294967281) then some ((linesL s.data.toList).map ofL) else none
def num_Text (_k : Nat) (n : Int) : Option ByteArray := bif decide (-9223372036854775808 ≤ n) && decide (n ≤ 9223372036854775807) then some (ofL (itoaK n)) else none
def num_Parse (_k : Nat) (x : ByteArray × Int) : Option (Int × Bool) := bif decide (x.1.size ≤ 9223372036854775807) then some (parseI x.1.data.toList x.2) else none
theorem words_Words_ok (k : Nat) : CallsOk Tryd.prog 40 [.one (.sc .str)] [.one (.row 9 [.str])] (words_Words k) := ok_str_strs fun a r w hg h => by
  unfold words_Words at h
  rcases cond_some h with ⟨h1, h2⟩ | ⟨_, h2⟩
  · obtain rfl := Option.some.inj h2
    refine (WordsA.Words_calls a w (of_decide_eq_true h1) hg.2).mono ?_
    rintro e w' ⟨v, outs, rfl, ho, hown, hb⟩
    have e : (wordsL a.data.toList).map ofL = outs := by
      rw [← ho, List.map_map]
      have : (ofL ∘ fun x : ByteArray => x.data.toList) = id := funext fun x => ofL_data x
      rw [this, List.map_id]
    rw [e]
    exact ⟨v, rfl, hown, hb⟩
  · cases h2
theorem split_ofL (T : ByteArray) : Lib.splitB ⟨#[10]⟩ 0 (Lib.countB T ⟨#[10]⟩) T = (splitF T.data.toList).map ofL := by
  rw [← splitB_F, List.map_map]
  have : (ofL ∘ fun x : ByteArray => x.data.toList) = id := funext fun x => ofL_data x
  rw [this, List.map_id]
theorem own_made {w : World} {L : List Value} {n : Nat} (h : L.length = n) (hn : n ≤ maxLen) (T : TypeId) : (w.alloc (.cells L.toArray T)).ownsRow w.heap.size T 1 (.slice (some ⟨w.heap.size, 0, none⟩) n n) n L := by
  refine ⟨by omega, .inr ⟨w.heap.size, n, L.toArray, rfl, Nat.le_refl _, ?_, Nat.le_refl _, hn, by simp [h], by simp [← h]⟩⟩
  show (w.heap.push _)[w.heap.size]? = _
  exact Array.getElem?_push_size
theorem trim_le (l m : List UInt8) : (Lib.trimSuffix l m).length ≤ l.length := by
  unfold Lib.trimSuffix
  split
  · rw [List.length_take]; omega
  · exact Nat.le_refl _
set_option maxHeartbeats 2000000 in
theorem words_Lines_ok (k : Nat) : CallsOk Tryd.prog 39 [.one (.sc .str)] [.one (.row 9 [.str])] (words_Lines k) := ok_str_strs fun a0 r w hg h => by
  unfold words_Lines at h
  obtain ⟨hs', h2⟩ := cond_none h
  have hs := of_decide_eq_true hs'
  obtain rfl := Option.some.inj h2
  obtain ⟨m, hm⟩ := hg.2
  clear h h2 hs' hg
  by_cases he : a0.data.toList = []
  · have HP : Hid ((linesL a0.data.toList).map ofL = []) := Lib.hid (by unfold linesL; rw [if_pos he]; rfl)
    have h1 : a0.toList = [] := (ByteArray.toList_eq a0).trans he
    clear he
    go_enter Tryd.func39, Tryd.ntmps39
    go_wp2
    go_ret
    exact ⟨_, rfl, by rw [HP.out]; exact World.ownsRow_nil _ _ _ _, Below.refl _ _⟩
  · have h1 : a0.toList.isEmpty = false := by rw [ByteArray.toList_eq]; simpa using he
    have h2 : ¬ a0.toList = [] := by rw [ByteArray.toList_eq]; exact he
    have ht : (ofL (Lib.trimSuffix a0.data.toList [10])).size < 4294967281 := by
      have := trim_le a0.data.toList [10]
      have e : (ofL (Lib.trimSuffix a0.data.toList [10])).size = (Lib.trimSuffix a0.data.toList [10]).length := by simp [ofL, ByteArray.size]
      have e2 : a0.data.toList.length = a0.size := by simp
      omega
    have HP : Hid ((linesL a0.data.toList).map ofL = Lib.splitB ⟨#[10]⟩ 0 (Lib.countB (ofL (Lib.trimSuffix a0.data.toList [10])) ⟨#[10]⟩) (ofL (Lib.trimSuffix a0.data.toList [10]))) := Lib.hid (by
      unfold linesL; rw [if_neg he, split_ofL, data_ofL, trimF_eq])
    clear he
    have cT := Tryd.strings_TrimSuffix a0 ⟨#[10]⟩ w (by omega)
    obtain ⟨T, hT⟩ : ∃ T : ByteArray, ofL (Lib.trimSuffix a0.data.toList [10]) = T := ⟨_, rfl⟩
    have cT' : Calls Tryd.prog 70 #[.string a0, .string ⟨#[10]⟩] w fun e w' => e = .returned (.string T) ∧ w' = w := by rw [← hT]; exact cT
    clear cT
    rw [hT] at ht HP
    clear hT
    obtain ⟨n, hn⟩ : ∃ n, Lib.countB T ⟨#[10]⟩ + 1 = n := ⟨_, rfl⟩
    obtain ⟨L, hL⟩ : ∃ L, Lib.splitB ⟨#[10]⟩ 0 (Lib.countB T ⟨#[10]⟩) T = L := ⟨_, rfl⟩
    rw [hL] at HP
    have cS := Tryd.strings_Split T ⟨#[10]⟩ m w ht hm (by decide)
    rw [hn, hL] at cS
    have hlen : L.length = n := by rw [← hL, ← hn]; exact Lib.splitB_all ⟨#[10]⟩ (by decide) 0 _ T rfl
    have hnb : n ≤ 4294967282 := by have := Lib.countB_le ⟨#[10]⟩ (by decide) _ T (Nat.le_refl _); omega
    have Hlen := Lib.hid hlen
    clear hlen hL hn hm
    go_enter Tryd.func39, Tryd.ntmps39
    go_wp2_with (first
      | (go_at_call 70; refine cT'.mono ?_; rintro e w' ⟨rfl, hw⟩; subst hw)
      | (go_at_call 69; refine cS.mono ?_; rintro e w' ⟨rfl, rfl⟩))
    go_ret
    refine ⟨_, rfl, ?_, (Below.refl _ _).alloc (Nat.le_refl _) _⟩
    rw [HP.out]
    have hl := Hlen.out
    rw [hl]
    exact own_made (by simp [hl]) (by unfold maxLen; omega) 9
theorem grown_below (w : World) (q : Nat) (os : Array Obj) : Below w.heap.size w (Sort.grow (w.drewN q) os) :=
  ⟨rfl, rfl, rfl, by simp [Sort.grow], fun i hi => by
    show ((w.drewN q).heap ++ os)[i]? = _
    rw [Array.getElem?_append_left (by show i < w.heap.size; omega)]
    rfl⟩
theorem num_Text_ok (k : Nat) : CallsOk Tryd.prog 42 [.one (.sc (.int .i64))] [.one (.sc .str)] (num_Text k) := ok_int_str fun a0 r w hg h => by
  unfold num_Text at h
  obtain ⟨h1, h2⟩ := cond_none h
  simp only [Bool.and_eq_true, decide_eq_true_eq] at h1
  obtain ⟨h0, h1⟩ := h1
  have ht := hg.1
  rw [itoaK_eq h0 h1] at h2
  obtain rfl := Option.some.inj h2
  clear h h2 hg
  go_enter Tryd.func42, Tryd.ntmps42
  go_wp2_with (go_at_call 79; refine (Tryd.strconv_Itoa a0 h0 h1 _ ht).mono ?_; rintro e w' ⟨rfl, k, os, rfl⟩)
  go_ret
  exact ⟨rfl, grown_below _ _ _⟩
theorem num_Parse_ok (k : Nat) : CallsOk Tryd.prog 47 [.one (.sc .str), .one (.sc (.int .i64))] [.one (.sc (.int .i64)), .one (.sc .bool)] (num_Parse k) := ok_str_int fun a n q b w hg h => by
  unfold num_Parse at h
  rcases cond_some h with ⟨h1, h2⟩ | ⟨_, h2⟩
  · have hc := Num.Parse_calls a n w (of_decide_eq_true h1)
    rw [Option.some.inj h2] at hc
    exact hc
  · cases h2
noncomputable def words_Words_e (k : Nat) : Ent Tryd.prog := ⟨40, [.one (.sc .str)], [.one (.row 9 [.str])], words_Words k, words_Words_ok k, fun _ _ => by kernel_rfl⟩
noncomputable def words_Lines_e (k : Nat) : Ent Tryd.prog := ⟨39, [.one (.sc .str)], [.one (.row 9 [.str])], words_Lines k, words_Lines_ok k, fun _ _ => by kernel_rfl⟩
noncomputable def num_Text_e (k : Nat) : Ent Tryd.prog := ⟨42, [.one (.sc (.int .i64))], [.one (.sc .str)], num_Text k, num_Text_ok k, fun _ _ => by kernel_rfl⟩
noncomputable def num_Parse_e (k : Nat) : Ent Tryd.prog := ⟨47, [.one (.sc .str), .one (.sc (.int .i64))], [.one (.sc (.int .i64)), .one (.sc .bool)], num_Parse k, num_Parse_ok k, fun _ _ => by kernel_rfl⟩
end Go.Proofs.YtaknikdbnfmlfaaDoor.Ex
