/- num.Parse: what its loop over the signs of a text comes to, and the walk that shows it. -/
import Derived.Test.YtaknikdbnfmlfaaDoorProg
import Derived.Below
import Derived.Deep.Draws
import Derived.OwnWalk
import Derived.WalkKit
import Derived.KernelRfl
import Derived.RowKit3
import Derived.Deep.LoopGhost
import Derived.Deep.QuietTactic
import Derived.BigQuiet
import Derived.WideLaws
import Derived.Lib.OthersKept
import Derived.Laws.RangeAny
import Derived.Lib.Hide
import Derived.Test.YtaknikdbnfmlfaaDoorDig
namespace Go.Proofs.YtaknikdbnfmlfaaDoor.Num
open Go.RowKit Go.Proofs.YtaknikdbnfmlfaaDoor.Dig

theorem drop_cons (s : ByteArray) (pos : Nat) (h : pos < s.size) : s.data.toList.drop pos = (s[pos]'h) :: s.data.toList.drop (pos + 1) := by
  rw [List.drop_eq_getElem_cons (by simpa using h)]; rfl

theorem ret2 {k : IntKind} {a b : Int} {p q : Bool} (h : a = b) (g : p = q) : Ending.returned (.tuple #[.int k a, .bool p]) = .returned (.tuple #[.int k b, .bool q]) := by rw [h, g]

set_option maxHeartbeats 2000000 in
set_option maxRecDepth 100000 in
theorem Parse_calls (s : ByteArray) (high : Int) (w : World) (hs : s.size ≤ 9223372036854775807) :
    Calls Tryd.prog 47 #[.string s, .int .i64 high] w fun e w' => e = .returned (.tuple #[.int .i64 (parseI s.data.toList high).1, .bool (parseI s.data.toList high).2]) ∧ Below w.heap.size w w' := by
  go_enter Tryd.func47, Tryd.ntmps47
  go_wp2
  go_loopg [4] s.size (fun gf v4 wx => ∃ (pos : Nat) (n : Int), v4 = .int .i64 n ∧ wx.heap[w.heap.size]? = some (.stringIter s pos) ∧ Below w.heap.size w wx ∧ 0 ≤ n ∧ n ≤ 9223372036854775807 ∧ pgo (s.data.toList.drop pos) (decide (pos = 0)) n = pgo s.data.toList true 0 ∧ pos ≤ s.size ∧ s.size = pos + gf)
  case atStart => exact ⟨0, 0, rfl, World.iter_heap w s 0, (Below.refl _ w).alloc (Nat.le_refl _) _, by omega, by omega, rfl, by omega, by omega⟩
  case round =>
    obtain ⟨pos, n, rfl, hit, hbw, hn0, hn1, hleft, hle, hfu⟩ := hrel
    by_cases hps : pos < s.size
    · obtain ⟨g', rfl⟩ : ∃ g', gk = g' + 1 := ⟨gk - 1, by omega⟩
      have hnx : ∀ ty, (Instr.next (.pointer (some ⟨w.heap.size, 0, none⟩)) true ty).run Tryd.prog wr = _ := fun ty => Lib.run_next_any_at wr w.heap.size s pos ty hit hps
      obtain ⟨R, hR⟩ : ∃ R, (Utf8.decode s pos).1 = R := ⟨_, rfl⟩
      obtain ⟨K, hK⟩ : ∃ K, (Utf8.decode s pos).2 = K := ⟨_, rfl⟩
      have hRle : R ≤ 2147483647 := hR ▸ decode_le s pos
      rw [drop_cons s pos hps] at hleft
      simp only [pgo] at hleft
      have hit2 := Lib.iterAt_heap wr w.heap.size s pos (pos + K) hit
      have hbw2 := Lib.below_iterAt hbw (k := w.heap.size) (Nat.le_refl _) s (pos + K)
      rw [hR, hK] at hnx
      obtain ⟨W, hWd⟩ : ∃ W, wr.iterAt w.heap.size s (pos + K) = W := ⟨_, rfl⟩
      rw [hWd] at hnx hit2 hbw2
      have hcR : ((s[pos]'hps).toNat : Int) = R ∧ K = 1 ∨ 128 ≤ ((s[pos]'hps).toNat : Int) ∧ 128 ≤ R := by
        by_cases ha : (s[pos]'hps).toNat < 128
        · rw [decode_ascii s pos hps ha] at hR hK; exact .inl ⟨by rw [← hR], hK.symm⟩
        · exact .inr ⟨by omega, by rw [← hR]; exact (decode_high s pos hps (by omega)).1⟩
      obtain ⟨C, hC⟩ : ∃ C : Int, ((s[pos]'hps).toNat : Int) = C := ⟨_, rfl⟩
      rw [hC] at hcR hleft
      clear hC hR hK hWd hit
      by_cases c1 : (R : Int) < 48
      · have HP : Hid (parseI s.data.toList high = (0, false)) := Lib.hid (by unfold parseI; rw [← hleft, if_pos (by omega)])
        have b1 : decide ((R : Int) < 48) = true := decide_eq_true c1
        clear hleft hcR
        go_wp2
        go_ret2
        exact ⟨ret2 (by rw [HP.out]) (by rw [HP.out]), hbw2⟩
      · have b1 : decide ((R : Int) < 48) = false := decide_eq_false c1
        by_cases c2 : 57 < (R : Int)
        · have HP : Hid (parseI s.data.toList high = (0, false)) := Lib.hid (by unfold parseI; rw [← hleft, if_neg (by omega), if_pos (by omega)])
          have b2 : decide (57 < (R : Int)) = true := decide_eq_true c2
          clear hleft hcR
          go_wp2
          go_ret2
          exact ⟨ret2 (by rw [HP.out]) (by rw [HP.out]), hbw2⟩
        · have b2 : decide (57 < (R : Int)) = false := decide_eq_false c2
          obtain ⟨rfl, rfl⟩ : (C = R ∧ K = 1) := by omega
          rw [if_neg c1, if_neg c2] at hleft
          by_cases c3 : pos = 0
          · simp only [c3, decide_true, Bool.true_eq_false, false_and, if_false] at hleft
            rw [show s.data.toList.drop (0 + 1) = s.data.toList.drop (pos + 1) by rw [c3]] at hleft
            have c3' : decide (0 < pos) = false := by simp [c3]
            have c3i : decide ((0 : Int) < (pos : Int)) = false := by simp [c3]
            have H3 := Lib.hid c3
            clear c3
            by_cases c4 : (9223372036854775807 - ((R : Int) - 48)) / 10 < n
            · have HP : Hid (parseI s.data.toList high = (0, false)) := Lib.hid (by unfold parseI; rw [← hleft, if_pos c4])
              have b4 : decide ((9223372036854775807 - ((R : Int) - 48)) / 10 < n) = true := decide_eq_true c4
              clear hleft
              go_wp2
              go_ret2
              exact ⟨ret2 (by rw [HP.out]) (by rw [HP.out]), hbw2⟩
            · have b4 : decide ((9223372036854775807 - ((R : Int) - 48)) / 10 < n) = false := decide_eq_false c4
              rw [if_neg c4] at hleft
              have HL := Lib.hid hleft
              clear hleft
              go_wp2
              go_roundg g'
              case measure => omega
              case rel => exact ⟨pos + 1, _, rfl, hit2, hbw2, by omega, by omega, by rw [← HL.out]; simp, by omega, by omega⟩
          · have c3' : decide (0 < pos) = true := by simp; omega
            have c3i : decide ((0 : Int) < (pos : Int)) = true := by simp; omega
            have e3 : decide (pos = 0) = false := by simp [c3]
            rw [e3] at hleft
            clear e3
            by_cases c5 : n = 0
            · have HP : Hid (parseI s.data.toList high = (0, false)) := Lib.hid (by unfold parseI; rw [← hleft, if_pos ⟨rfl, c5⟩])
              have b5 : (n == 0) = true := beq_iff_eq.2 c5
              clear hleft c5 
              go_wp2
              go_ret2
              exact ⟨ret2 (by rw [HP.out]) (by rw [HP.out]), hbw2⟩
            · rw [if_neg (by rintro ⟨_, h⟩; exact c5 h)] at hleft
              have b5 : (n == 0) = false := beq_eq_false_iff_ne.2 c5
              by_cases c4 : (9223372036854775807 - ((R : Int) - 48)) / 10 < n
              · have HP : Hid (parseI s.data.toList high = (0, false)) := Lib.hid (by unfold parseI; rw [← hleft, if_pos c4])
                have b4 : decide ((9223372036854775807 - ((R : Int) - 48)) / 10 < n) = true := decide_eq_true c4
                clear hleft
                go_wp2
                go_ret2
                exact ⟨ret2 (by rw [HP.out]) (by rw [HP.out]), hbw2⟩
              · have b4 : decide ((9223372036854775807 - ((R : Int) - 48)) / 10 < n) = false := decide_eq_false c4
                rw [if_neg c4] at hleft
                have HL := Lib.hid hleft
                clear hleft
                go_wp2
                go_roundg g'
                case measure => omega
                case rel => exact ⟨pos + 1, _, rfl, hit2, hbw2, by omega, by omega, by rw [← HL.out]; simp, by omega, by omega⟩
    · have hnx : ∀ ty, (Instr.next (.pointer (some ⟨w.heap.size, 0, none⟩)) true ty).run Tryd.prog wr = _ := fun ty => Lib.run_next_end_at wr w.heap.size s pos ty hit hps
      obtain rfl : pos = s.size := by omega
      rw [List.drop_of_length_le (by simp)] at hleft
      simp only [pgo] at hleft
      by_cases ce : s.size = 0
      · have ce1 : s.data.toList = [] := by rw [← List.length_eq_zero_iff]; simpa using ce
        have HP : Hid (parseI s.data.toList high = (0, false)) := Lib.hid (by unfold parseI; rw [← hleft]; simp [ce1])
        have he : s.toList = [] := (ByteArray.toList_eq s).trans ce1
        clear hleft ce ce1
        go_wp2
        go_ret2
        exact ⟨ret2 (by rw [HP.out]) (by rw [HP.out]), hbw⟩
      · have ce1 : s.data.toList ≠ [] := by rw [ne_eq, ← List.length_eq_zero_iff]; simpa using ce
        have he : s.toList.isEmpty = false := by rw [ByteArray.toList_eq]; simpa using ce1
        have he' : ¬ s.toList = [] := by rw [ByteArray.toList_eq]; exact ce1
        by_cases ch : high < n
        · have HP : Hid (parseI s.data.toList high = (0, false)) := Lib.hid (by unfold parseI; rw [← hleft]; simp [ce1, ch])
          have b6 : decide (high < n) = true := decide_eq_true ch
          clear hleft ce ce1
          go_wp2
          go_ret2
          exact ⟨ret2 (by rw [HP.out]) (by rw [HP.out]), hbw⟩
        · have HP : Hid (parseI s.data.toList high = (n, true)) := Lib.hid (by unfold parseI; rw [← hleft]; simp [ce1, ch])
          have b6 : decide (high < n) = false := decide_eq_false ch
          clear hleft ce ce1
          go_wp2
          go_ret2
          exact ⟨ret2 (by rw [HP.out]) (by rw [HP.out]), hbw⟩
end Go.Proofs.YtaknikdbnfmlfaaDoor.Num
