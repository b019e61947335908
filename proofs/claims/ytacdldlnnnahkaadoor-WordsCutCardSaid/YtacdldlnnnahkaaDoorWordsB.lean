/- words.Lines, words.Words and words.Line in the printer's form: what they answer, and that the calls do so. -/
import Derived.Test.YtacdldlnnnahkaaDoorWordsA
import Derived.Test.YtacdldlnnnahkaaDoorWWords
namespace Go.Proofs.YtacdldlnnnahkaaDoor.Pr
open Go.RowKit Go.Proofs.YtacdldlnnnahkaaDoor.Wrd Go.Proofs.YtacdldlnnnahkaaDoorW.PrintWords

def ofL (l : List UInt8) : ByteArray := ⟨l.toArray⟩
theorem ofL_data (x : ByteArray) : ofL x.data.toList = x := by cases x; simp [ofL]
theorem data_ofL (l : List UInt8) : (ofL l).data.toList = l := by simp [ofL]

/-- A row of texts of the call's own, in the printer's words. -/
theorem R_strings {w : World} {base : Nat} {v : Value} {xs : List ByteArray} (h : w.ownsRow base 9 1 v xs.length (xs.map Value.string)) : Kd.R Kd.string 9 w base (fun _ => True) v xs :=
  ⟨fun _ _ => trivial, xs.map Value.string, h, by
    refine ⟨by rw [List.length_map]; show xs.length = xs.length * 1; omega, fun j p hj => ?_⟩
    have hl : j < xs.length := (List.getElem?_eq_some_iff.1 hj).1
    show ((xs.map Value.string).drop (j * 1)).take 1 = [Value.string p]
    rw [Nat.mul_one, List.drop_eq_getElem_cons (by simpa using hl)]
    have e : xs[j] = p := (List.getElem?_eq_some_iff.1 hj).2
    simp [e]⟩

def words_Words.f (a0 : ByteArray) : Option (List ByteArray) := if a0.size < 4294967281 then some ((wordsL a0.data.toList).map ofL) else none

theorem words_Words.calls (a0 : ByteArray) (r : List ByteArray) (w : World) (hMaxP : MaxP w) (h : words_Words.f a0 = some r) :
    Calls Tryd.prog 17 #[.string a0] w fun e w' => ∃ v0_ : Value, e = .returned (v0_) ∧ Kd.R Kd.string 9 w' w.heap.size (fun _ => True) v0_ r ∧ Below w.heap.size w w' := by
  unfold words_Words.f at h
  split at h <;> try contradiction
  rename_i hs
  obtain rfl := Option.some.inj h
  refine (WordsA.Words_calls a0 w hs hMaxP).mono ?_
  rintro e w' ⟨v, outs, rfl, ho, hown, hb⟩
  refine ⟨v, rfl, ?_, hb⟩
  have e : (wordsL a0.data.toList).map ofL = outs := by
    rw [← ho, List.map_map]
    have : (ofL ∘ fun x : ByteArray => x.data.toList) = id := funext fun x => ofL_data x
    rw [this, List.map_id]
  rw [e]
  exact R_strings hown

def words_Lines.f (a0 : ByteArray) : Option (List ByteArray) := if a0.size < 4294967281 then some ((linesL a0.data.toList).map ofL) else none

theorem split_ofL (T : ByteArray) : Lib.splitB ⟨#[10]⟩ 0 (Lib.countB T ⟨#[10]⟩) T = (splitF T.data.toList).map ofL := by
  rw [← splitB_F, List.map_map]
  have : (ofL ∘ fun x : ByteArray => x.data.toList) = id := funext fun x => ofL_data x
  rw [this, List.map_id]

theorem own_made {w : World} {L : List Value} {n : Nat} (h : L.length = n) (hn : n ≤ maxLen) (T : TypeId) : (w.alloc (.cells L.toArray T)).ownsRow w.heap.size T 1 (.slice (some ⟨w.heap.size, 0, none⟩) n n) n L := by
  refine ⟨by omega, .inr ⟨w.heap.size, n, L.toArray, rfl, Nat.le_refl _, ?_, Nat.le_refl _, hn, by simp [h], by simp [← h]⟩⟩
  show (w.heap.push _)[w.heap.size]? = _
  exact Array.getElem?_push_size

theorem trim_le (l m : List UInt8) : (Lib.trimSuffix l m).length ≤ l.length := by
  unfold Lib.trimSuffix
  split
  · rw [List.length_take]; omega
  · exact Nat.le_refl _

set_option maxHeartbeats 2000000 in
theorem words_Lines.calls (a0 : ByteArray) (r : List ByteArray) (w : World) (hMaxP : MaxP w) (h : words_Lines.f a0 = some r) :
    Calls Tryd.prog 15 #[.string a0] w fun e w' => ∃ v0_ : Value, e = .returned (v0_) ∧ Kd.R Kd.string 9 w' w.heap.size (fun _ => True) v0_ r ∧ Below w.heap.size w w' := by
  unfold words_Lines.f at h
  split at h <;> try contradiction
  rename_i hs
  obtain rfl := Option.some.inj h
  obtain ⟨m, hm⟩ := hMaxP
  by_cases he : a0.data.toList = []
  · have HP : Hid ((linesL a0.data.toList).map ofL = []) := Lib.hid (by unfold linesL; rw [if_pos he]; rfl)
    have h1 : a0.toList = [] := (ByteArray.toList_eq a0).trans he
    clear he
    go_enter Tryd.func15, Tryd.ntmps15
    go_wp2
    go_ret
    exact ⟨_, rfl, by rw [HP.out]; exact Kd.R_nil _ _ _ _ _, Below.refl _ _⟩
  · have h1 : a0.toList.isEmpty = false := by rw [ByteArray.toList_eq]; simpa using he
    have h2 : ¬ a0.toList = [] := by rw [ByteArray.toList_eq]; exact he
    have ht : (ofL (Lib.trimSuffix a0.data.toList [10])).size < 4294967281 := by
      have := trim_le a0.data.toList [10]
      have e : (ofL (Lib.trimSuffix a0.data.toList [10])).size = (Lib.trimSuffix a0.data.toList [10]).length := by simp [ofL, ByteArray.size]
      have e2 : a0.data.toList.length = a0.size := by simp
      omega
    have HP : Hid ((linesL a0.data.toList).map ofL = Lib.splitB ⟨#[10]⟩ 0 (Lib.countB (ofL (Lib.trimSuffix a0.data.toList [10])) ⟨#[10]⟩) (ofL (Lib.trimSuffix a0.data.toList [10]))) := Lib.hid (by
      unfold linesL; rw [if_neg he, split_ofL, data_ofL, trimF_eq])
    clear he
    have cT := Tryd.strings_TrimSuffix a0 ⟨#[10]⟩ w (by omega)
    obtain ⟨T, hT⟩ : ∃ T : ByteArray, ofL (Lib.trimSuffix a0.data.toList [10]) = T := ⟨_, rfl⟩
    have cT' : Calls Tryd.prog 34 #[.string a0, .string ⟨#[10]⟩] w fun e w' => e = .returned (.string T) ∧ w' = w := by rw [← hT]; exact cT
    clear cT
    rw [hT] at ht HP
    clear hT
    obtain ⟨n, hn⟩ : ∃ n, Lib.countB T ⟨#[10]⟩ + 1 = n := ⟨_, rfl⟩
    obtain ⟨L, hL⟩ : ∃ L, Lib.splitB ⟨#[10]⟩ 0 (Lib.countB T ⟨#[10]⟩) T = L := ⟨_, rfl⟩
    rw [hL] at HP
    have cS := Tryd.strings_Split T ⟨#[10]⟩ m w ht hm (by decide)
    rw [hn, hL] at cS
    have hlen : L.length = n := by rw [← hL, ← hn]; exact Lib.splitB_all ⟨#[10]⟩ (by decide) 0 _ T rfl
    have hnb : n ≤ 4294967282 := by have := Lib.countB_le ⟨#[10]⟩ (by decide) _ T (Nat.le_refl _); omega
    have Hlen := Lib.hid hlen
    clear hlen hL hn hm
    go_enter Tryd.func15, Tryd.ntmps15
    go_wp2_with (first
      | (go_at_call 34; refine cT'.mono ?_; rintro e w' ⟨rfl, hw⟩; subst hw)
      | (go_at_call 33; refine cS.mono ?_; rintro e w' ⟨rfl, rfl⟩))
    go_ret
    refine ⟨_, rfl, ?_, (Below.refl _ _).alloc (Nat.le_refl _) _⟩
    rw [HP.out]
    refine R_strings ?_
    have hl := Hlen.out
    rw [hl]
    exact own_made (by simp [hl]) (by unfold maxLen; omega) 9

def joinB (l : List ByteArray) : List UInt8 := Lib.join (l.map (·.data.toList)) [32]

def words_Line.f (l0 : List ByteArray) : Option ByteArray := if l0.length ≤ 140737488355328 then (if (joinB l0).length ≤ 140737488355328 then some (ofL (joinB l0 ++ [10])) else none) else none

theorem ba_app (l m : List UInt8) : (⟨l.toArray⟩ : ByteArray) ++ (⟨m.toArray⟩ : ByteArray) = ⟨(l ++ m).toArray⟩ := by
  apply ByteArray.ext
  simp [ByteArray.data_append]

/-- A row of texts that is read: where its cells lie. -/
theorem C_strings {w : World} {A : Option Addr} {n : Nat} {l : List ByteArray} (h : Kd.C Kd.string w A n l) (hn : 0 < n) : ∃ b o, A = some ⟨b, o, none⟩ ∧ b < w.heap.size ∧ ∀ (j : Nat) x, l[j]? = some x → w.cell? ⟨b, o + j, none⟩ = some (.string x) := by
  obtain ⟨h1, h2, h3⟩ := h
  obtain ⟨ad, rfl, hc⟩ := h3 hn
  have h0 : l[0]? = some (l[0]'(by omega)) := List.getElem?_eq_getElem (by omega)
  obtain ⟨c, hl, hK, hu⟩ := hc 0 _ h0
  have hK' : c = [.string (l[0]'(by omega))] := hK
  have hcell := hu 0 _ (by rw [hK']; rfl)
  obtain ⟨b, o, sp⟩ := ad
  have hsp : sp = none := by
    cases sp with
    | none => rfl
    | some z => simp [Addr.add, World.cell?] at hcell; split at hcell <;> simp at hcell
  subst hsp
  refine ⟨b, o, rfl, ?_, fun j x hj => ?_⟩
  · have := World.block_lt_of_cell? w _ hcell
    simpa [Addr.add] using this
  · obtain ⟨c, hl, hK, hu⟩ := hc j x hj
    have hK' : c = [.string x] := hK
    have := hu 0 _ (by rw [hK']; rfl)
    have e : (⟨b, o, none⟩ : Addr).add (j * Kd.string.sz + 0) = ⟨b, o + j, none⟩ := by
      show (⟨b, o, none⟩ : Addr).add (j * 1 + 0) = _
      unfold Addr.add
      split
      · rename_i hz; have : j = 0 := by omega
        subst this; rfl
      · simp
    rw [e] at this
    exact this

set_option maxHeartbeats 2000000 in
theorem words_Line.calls (A0 : Option Addr) (c0 : Nat) (l0 : List ByteArray) (r : ByteArray) (w : World) (hr0 : Kd.C Kd.string w A0 l0.length l0) (hc0 : l0.length ≤ c0) (h : words_Line.f l0 = some r) :
    Calls Tryd.prog 19 #[.slice A0 l0.length c0] w fun e w' => e = .returned (.string r) ∧ Below w.heap.size w w' := by
  unfold words_Line.f at h
  split at h <;> try contradiction
  rename_i h1
  split at h <;> try contradiction
  rename_i h2
  obtain rfl := Option.some.inj h
  clear h
  have cJ : Calls Tryd.prog 38 #[.slice A0 l0.length c0, .string (⟨#[32]⟩ : ByteArray)] w fun e w' => ∃ J : ByteArray, e = .returned (.string J) ∧ J = ⟨(joinB l0).toArray⟩ ∧ Below w.heap.size w w' := by
    by_cases hz : l0.length = 0
    · have hl : l0 = [] := List.length_eq_zero_iff.1 hz
      subst hl
      refine (Tryd.strings_Join_none A0 c0 ⟨#[32]⟩ w).mono ?_
      rintro e w' ⟨rfl, rfl⟩
      exact ⟨_, rfl, rfl, Below.refl _ _⟩
    · obtain ⟨b, o, rfl, hb, hcells⟩ := C_strings hr0 (by omega)
      refine (Tryd.strings_Join b o c0 l0 ⟨#[32]⟩ w hcells hb h1 hc0 h2).mono ?_
      rintro e w' ⟨rfl, hb⟩
      exact ⟨_, rfl, rfl, hb⟩
  have hJs : (⟨(joinB l0).toArray⟩ : ByteArray).size ≤ 140737488355328 := by simpa [ByteArray.size] using h2
  have HP : Hid ((⟨(joinB l0).toArray⟩ : ByteArray) ++ (⟨#[10]⟩ : ByteArray) = ofL (joinB l0 ++ [10])) := Lib.hid (by rw [show (⟨#[10]⟩ : ByteArray) = ⟨([10] : List UInt8).toArray⟩ from rfl, ba_app]; rfl)
  clear hr0 hc0 h1 h2
  go_enter Tryd.func19, Tryd.ntmps19
  go_wp2_with (go_at_call 38; refine cJ.mono ?_; rintro e w' ⟨J, rfl, hJ, hb⟩; have HJ := Lib.hid hJ; rw [← hJ] at hJs; clear hJ)
  go_ret
  exact ⟨by rw [← HP.out, ← HJ.out]; rfl, hb⟩
end Go.Proofs.YtacdldlnnnahkaaDoor.Pr
