/- A function's plain form and the walk that shows it: written by a program of this session (wip/mkprint.py) out of the translation; Lean checks it. -/
import Derived.Test.YtacdldlnnnahkaaDoorP0
import Derived.Test.YtacdldlnnnahkaaDoorPfeluccalaw02small
import Derived.Test.YtacdldlnnnahkaaDoorWordsB
namespace Go.Proofs.YtacdldlnnnahkaaDoor.Pr
open Go.RowKit Go.Proofs.YtacdldlnnnahkaaDoorW.PrintWords Go.Proofs.YtacdldlnnnahkaaDoorW.PrintLast Go.Proofs.YtacdldlnnnahkaaDoorW.PrintMore
attribute [local go_sem] max2_int min2_int max_two min_two max_three min_three max_four min_four   -- for this text's walks alone
set_option linter.unusedVariables false
set_option linter.unusedSimpArgs false

/-! ### feluccalaw02_WordsLines: function 6 -/
mutual
def feluccalaw02_WordsLines.l0 : Nat → ByteArray → Bool → List ByteArray → ByteArray → Int → Option (Bool)
  | 0, _, _, _, _, _ => none
  | k + 1, x0, x3, x4, x5, x6 => if x6 < (x4.length : Int) then (feluccalaw02_WordsLines.l1 k x0 x3 x4 x5 x6 0) else (if x3 = true then (if x5.toList = x0.toList then (some true) else (if x0.size + 1 ≤ 9223372036854775807 then (some (x5.toList == (x0 ++ (⟨#[10]⟩ : ByteArray)).toList)) else (none))) else (some false))
def feluccalaw02_WordsLines.l1 : Nat → ByteArray → Bool → List ByteArray → ByteArray → Int → Int → Option (Bool)
  | 0, _, _, _, _, _, _ => none
  | k + 1, x0, x3, x4, x5, x6, x7 => if 0 ≤ x6 then (if x6 < (x4.length : Int) then (if x7 < ((rdOf ByteArray.empty x4 x6).size : Int) then (if 0 ≤ x7 then (if (bt (rdOf ByteArray.empty x4 x6) x7) = 10 then (some false) else (feluccalaw02_WordsLines.l1 k x0 x3 x4 x5 x6 (wrap64 (x7 + 1)))) else (none)) else (if x5.size + (rdOf ByteArray.empty x4 x6).size ≤ 9223372036854775807 then (if (x5 ++ (rdOf ByteArray.empty x4 x6)).size + 1 ≤ 9223372036854775807 then (feluccalaw02_WordsLines.l0 k x0 x3 x4 ((x5 ++ (rdOf ByteArray.empty x4 x6)) ++ (⟨#[10]⟩ : ByteArray)) (wrap64 (x6 + 1))) else (none)) else (none))) else (none)) else (none)
end
def feluccalaw02_WordsLines.f (k : Nat) (a0 : ByteArray) : Option (Bool) := (feluccalaw02_small.f k).bind fun t202 => (if (a0.size : Int) > 500 then (some t202) else ((words_Lines.f a0).bind fun t203 => (feluccalaw02_WordsLines.l0 k a0 t202 t203 (⟨#[]⟩ : ByteArray) 0)))
theorem feluccalaw02_WordsLines.mono_l : ∀ k, (∀ y0 y1 y2 y3 y4, LeO (feluccalaw02_WordsLines.l0 k y0 y1 y2 y3 y4) (feluccalaw02_WordsLines.l0 (k + 1) y0 y1 y2 y3 y4)) ∧ (∀ y0 y1 y2 y3 y4 y5, LeO (feluccalaw02_WordsLines.l1 k y0 y1 y2 y3 y4 y5) (feluccalaw02_WordsLines.l1 (k + 1) y0 y1 y2 y3 y4 y5))
  | 0 => ⟨fun _ _ _ _ _ r h => by simp [feluccalaw02_WordsLines.l0] at h, fun _ _ _ _ _ _ r h => by simp [feluccalaw02_WordsLines.l1] at h⟩
  | k + 1 => by
    obtain ⟨ih0, ih1⟩ := feluccalaw02_WordsLines.mono_l k
    refine ⟨?_, ?_⟩
    · intro y0 y1 y2 y3 y4
      unfold feluccalaw02_WordsLines.l0
      repeat' first
      | (with_reducible exact ih0 _ _ _ _ _)
      | (with_reducible exact ih1 _ _ _ _ _ _)
      | (with_reducible exact feluccalaw02_small.mono _)
      | (with_reducible exact LeO.refl _)
      | (with_reducible exact LeO.none _)
      | (with_reducible refine LeO.ite ?_ ?_)
      | (with_reducible refine LeO.bind ?_ (fun _ => ?_))
      | exact ih0 _ _ _ _ _
      | exact ih1 _ _ _ _ _ _
      | exact feluccalaw02_small.mono _
      | exact LeO.none _
      | refine LeO.ite ?_ ?_
      | refine LeO.bind ?_ (fun _ => ?_)
    · intro y0 y1 y2 y3 y4 y5
      unfold feluccalaw02_WordsLines.l1
      repeat' first
      | (with_reducible exact ih0 _ _ _ _ _)
      | (with_reducible exact ih1 _ _ _ _ _ _)
      | (with_reducible exact feluccalaw02_small.mono _)
      | (with_reducible exact LeO.refl _)
      | (with_reducible exact LeO.none _)
      | (with_reducible refine LeO.ite ?_ ?_)
      | (with_reducible refine LeO.bind ?_ (fun _ => ?_))
      | exact ih0 _ _ _ _ _
      | exact ih1 _ _ _ _ _ _
      | exact feluccalaw02_small.mono _
      | exact LeO.none _
      | refine LeO.ite ?_ ?_
      | refine LeO.bind ?_ (fun _ => ?_)
theorem feluccalaw02_WordsLines.mono : ∀ a0 k, LeO (feluccalaw02_WordsLines.f k a0) (feluccalaw02_WordsLines.f (k + 1) a0) := by
  intro a0 k
  obtain ⟨ih0, ih1⟩ := feluccalaw02_WordsLines.mono_l k
  unfold feluccalaw02_WordsLines.f
  repeat' first
      | (with_reducible exact ih0 _ _ _ _ _)
      | (with_reducible exact ih1 _ _ _ _ _ _)
      | (with_reducible exact feluccalaw02_small.mono _)
      | (with_reducible exact LeO.refl _)
      | (with_reducible exact LeO.none _)
      | (with_reducible refine LeO.ite ?_ ?_)
      | (with_reducible refine LeO.bind ?_ (fun _ => ?_))
      | exact ih0 _ _ _ _ _
      | exact ih1 _ _ _ _ _ _
      | exact feluccalaw02_small.mono _
      | exact LeO.none _
      | refine LeO.ite ?_ ?_
      | refine LeO.bind ?_ (fun _ => ?_)
set_option maxHeartbeats 8000000 in
set_option maxRecDepth 100000 in
theorem feluccalaw02_WordsLines.calls (k : Nat) (a0 : ByteArray) (r : Bool) (w : World) (hMaxP : MaxP w) (h : feluccalaw02_WordsLines.f k a0 = some r) :
    Calls Tryd.prog 6 #[.string a0] w fun e w' => e = .returned (.bool r) ∧ Below w.heap.size w w' := by
  have XMaxP := Aside0.mk hMaxP
  clear hMaxP
  have HB := Aside0.mk (Below.refl w.heap.size w)
  have H : ((feluccalaw02_small.f k).bind fun t202 => (if (a0.size : Int) > 500 then (some t202) else ((words_Lines.f a0).bind fun t203 => (feluccalaw02_WordsLines.l0 k a0 t202 t203 (⟨#[]⟩ : ByteArray) 0)))) = some r := h
  clear h
  replace H := Option.bind_eq_some_iff.mp H
  obtain ⟨t202, A20, H⟩ := H
  replace H : (if (a0.size : Int) > 500 then (some t202) else ((words_Lines.f a0).bind fun t203 => (feluccalaw02_WordsLines.l0 k a0 t202 t203 (⟨#[]⟩ : ByteArray) 0))) = some r := H
  have A2 := Aside0.mk A20
  clear A20
  by_cases c3 : (a0.size : Int) > 500
  · rw [if_pos c3] at H
    have c3b0 : decide (500 < (a0.size : Int)) = true := decide_eq_true c3
    have c3b1 : decide (500 < a0.size) = true := decide_eq_true (by omega)
    clear c3
    obtain rfl := Option.some.inj H
    go_enter Tryd.func6, Tryd.ntmps6
    go_wp2_with (first | ((with_reducible refine gate_callee (f := 13) rfl ?_); refine goesL_ (some 8) rfl rfl Tryd.func13 (by kernel_rfl) rfl #[] rfl (by (try simp only [List.map_toArray, List.map_cons, List.map_nil]); first | done | rfl | (simp only [List.length_drop, List.length_take]; rfl)) ?_; (with_reducible refine (feluccalaw02_small.calls k  t202 _ ?side1 A2.out).mono ?_); (case side1 => exact MaxP.below XMaxP.out (by repeat (first | (with_reducible first | exact HB.out | apply below_alloc | apply pw_below_drewN | apply below_drew1) | exact HB.out))); rintro e w4 ⟨rfl, hb⟩; refine ⟨_, rfl, ?_⟩; have n0_ := Aside0.mk (below_step (by repeat (first | (with_reducible first | exact HB.out | apply below_alloc | apply pw_below_drewN | apply below_drew1) | exact HB.out)) hb); clear HB; have HB := n0_; clear n0_; (try clear hb); (try clear hb2); (try clear hk); (try clear hi)))
    go_ret
    exact ⟨by first | rfl | (simp [errW_none, errW_some] <;> rfl) | (simp [*, errW_none, errW_some] <;> rfl), by repeat (first | (with_reducible first | exact HB.out | apply below_alloc | apply pw_below_drewN | apply below_drew1) | exact HB.out)⟩
  · rw [if_neg c3] at H
    have c3b0 : decide (500 < (a0.size : Int)) = false := decide_eq_false c3
    have c3b1 : decide (500 < a0.size) = false := decide_eq_false (by omega)
    clear c3
    replace H := Option.bind_eq_some_iff.mp H
    obtain ⟨t203, A50, H⟩ := H
    replace H : (feluccalaw02_WordsLines.l0 k a0 t202 t203 (⟨#[]⟩ : ByteArray) 0) = some r := H
    have A5 := Aside0.mk A50
    clear A50
    have H' := Aside0.mk H
    clear H
    go_enter Tryd.func6, Tryd.ntmps6
    go_wp2_with (first | ((with_reducible refine gate_callee (f := 13) rfl ?_); refine goesL_ (some 8) rfl rfl Tryd.func13 (by kernel_rfl) rfl #[] rfl (by (try simp only [List.map_toArray, List.map_cons, List.map_nil]); first | done | rfl | (simp only [List.length_drop, List.length_take]; rfl)) ?_; (with_reducible refine (feluccalaw02_small.calls k  t202 _ ?side1 A2.out).mono ?_); (case side1 => exact MaxP.below XMaxP.out (by repeat (first | (with_reducible first | exact HB.out | apply below_alloc | apply pw_below_drewN | apply below_drew1) | exact HB.out))); rintro e w6 ⟨rfl, hb⟩; refine ⟨_, rfl, ?_⟩; have n0_ := Aside0.mk (below_step (by repeat (first | (with_reducible first | exact HB.out | apply below_alloc | apply pw_below_drewN | apply below_drew1) | exact HB.out)) hb); clear HB; have HB := n0_; clear n0_; (try clear hb); (try clear hb2); (try clear hk); (try clear hi)) | ((with_reducible refine gate_callee (f := 15) rfl ?_); refine goesL_ (some 14) rfl rfl Tryd.func15 (by kernel_rfl) rfl #[.string a0] rfl (by (try simp only [List.map_toArray, List.map_cons, List.map_nil]); first | done | rfl | (simp only [List.length_drop, List.length_take]; rfl)) ?_; (with_reducible refine (words_Lines.calls a0 t203 _ ?side1 A5.out).mono ?_); (case side1 => exact MaxP.below XMaxP.out (by repeat (first | (with_reducible first | exact HB.out | apply below_alloc | apply pw_below_drewN | apply below_drew1) | exact HB.out))); rintro e w7 ⟨v204, rfl, ho0, hb⟩; refine ⟨_, rfl, ?_⟩; have n0_ := Aside0.mk (Kd.R_lower ho0 (below_size (by repeat (first | (with_reducible first | exact HB.out | apply below_alloc | apply pw_below_drewN | apply below_drew1) | exact HB.out)))); have n1_ := Aside0.mk (below_step (by repeat (first | (with_reducible first | exact HB.out | apply below_alloc | apply pw_below_drewN | apply below_drew1) | exact HB.out)) hb); clear HB; have HO205 := n0_; have HB := n1_; clear n0_ n1_; (try clear hb); (try clear hb2); (try clear hk); (try clear hi); (try clear ho0)))
    go_loopg [5, 6] k (fun kq v5 v6 w' => ∃ (x5_1 : ByteArray) (x6_1 : Int), v5 = .string x5_1 ∧ v6 = .int .i64 x6_1 ∧ Aside0 (feluccalaw02_WordsLines.l0 kq a0 t202 t203 x5_1 x6_1 = some r) ∧ Aside0 (kq ≤ k) ∧ Aside0 (Kd.R Kd.string 9 w' w.heap.size (fun _ => True) v204 t203) ∧ Aside0 (Below w.heap.size w w'))
    case atStart => exact ⟨((⟨#[]⟩ : ByteArray)), (0), (by first | rfl | (simp; done) | (simp [*]; done)), (by first | rfl | (simp; done) | (simp [*]; done)), H', ⟨Nat.le_refl _⟩, ⟨by (with_reducible repeat (first | apply Kd.R_alloc | apply Kd.R_drewN | apply Kd.R_drew)); exact HO205.out⟩, ⟨by repeat (first | (with_reducible first | exact HB.out | apply below_alloc | apply pw_below_drewN | apply below_drew1) | exact HB.out)⟩⟩
    case round =>
      clear H'
      try clear c1
      try clear p2
      try clear c3
      try clear c3b0
      try clear c3b1
      try clear c6
      obtain ⟨x5_1, x6_1, rfl, rfl, HA, HK1, HO_4, HB⟩ := hrel
      cases gk with
      | zero => exact absurd HA.out (by simp [feluccalaw02_WordsLines.l0])
      | succ k1 =>
        have H := HA.out
        clear HA
        simp only [feluccalaw02_WordsLines.l0] at H
        by_cases c8 : x6_1 < (t203.length : Int)
        · rw [if_pos c8] at H
          have c8b0 : decide (x6_1 < (t203.length : Int)) = true := decide_eq_true c8
          clear c8
          have H' := Aside0.mk H
          clear H
          obtain ⟨Ao9, co9, eo9⟩ := Kd.R_slice HO_4.out
          subst eo9
          go_wp2
          go_loopg [7] k1 (fun kq v7 w' => ∃ (x7_2 : Int), v7 = .int .i64 x7_2 ∧ Aside0 (feluccalaw02_WordsLines.l1 kq a0 t202 t203 x5_1 x6_1 x7_2 = some r) ∧ Aside0 (kq ≤ k1) ∧ Aside0 (Kd.R Kd.string 9 w' w.heap.size (fun _ => True) (.slice Ao9 t203.length co9) t203) ∧ Aside0 (Below w.heap.size w w'))
          case atStart => exact ⟨(0), (by first | rfl | (simp; done) | (simp [*]; done)), H', ⟨Nat.le_refl _⟩, ⟨by (with_reducible repeat (first | apply Kd.R_alloc | apply Kd.R_drewN | apply Kd.R_drew)); exact HO_4.out⟩, ⟨by repeat (first | (with_reducible first | exact HB.out | apply below_alloc | apply pw_below_drewN | apply below_drew1) | exact HB.out)⟩⟩
          case round =>
            clear H'
            try clear c1
            try clear p2
            try clear c3
            try clear c3b0
            try clear c3b1
            try clear c6
            try clear c8
            try clear c8b0
            try clear p2
            obtain ⟨x7_2, rfl, HA, HK2, HO_4, HB⟩ := hrel
            cases gk with
            | zero => exact absurd HA.out (by simp [feluccalaw02_WordsLines.l1])
            | succ k2 =>
              have H := HA.out
              clear HA
              simp only [feluccalaw02_WordsLines.l1] at H
              by_cases c10 : 0 ≤ x6_1
              · rw [if_pos c10] at H
                have c10b0 : decide (0 ≤ x6_1) = true := decide_eq_true c10
                clear c10
                by_cases c11 : x6_1 < (t203.length : Int)
                · rw [if_pos c11] at H
                  have c11b0 : decide (x6_1 < (t203.length : Int)) = true := decide_eq_true c11
                  clear c11
                  by_cases c12 : x7_2 < ((rdOf ByteArray.empty t203 x6_1).size : Int)
                  · rw [if_pos c12] at H
                    have c12b0 : decide (x7_2 < ((rdOf ByteArray.empty t203 x6_1).size : Int)) = true := decide_eq_true c12
                    clear c12
                    by_cases c13 : 0 ≤ x7_2
                    · rw [if_pos c13] at H
                      have c13b0 : decide (0 ≤ x7_2) = true := decide_eq_true c13
                      clear c13
                      by_cases c15 : (bt (rdOf ByteArray.empty t203 x6_1) x7_2) = 10
                      · rw [if_pos c15] at H
                        have c15b0 : ((bt (rdOf ByteArray.empty t203 x6_1) x7_2) == 10) = true := beq_iff_eq.mpr c15
                        have c15b1 : ((bt (rdOf ByteArray.empty t203 x6_1) x7_2) != 10) = false := bne_eq_false_iff_eq.mpr c15
                        clear c15
                        obtain rfl := Option.some.inj H
                        have p206 : 0 ≤ (x6_1 : Int) := of_decide_eq_true (by first | (with_reducible assumption) | assumption)
                        have q206 : x6_1 < (t203.length : Int) := of_decide_eq_true (by first | (with_reducible assumption) | assumption)
                        obtain ⟨ad206, e206, hx206_0⟩ := Kd.at_string (Kd.R_reads' HO_4.out).2.2 x6_1 p206 q206
                        cases e206
                        replace p206 := eq_true p206
                        replace q206 := eq_true q206
                        have p207 : 0 ≤ (x6_1 : Int) := of_decide_eq_true (by first | (with_reducible assumption) | assumption)
                        have q207 : x6_1 < (t203.length : Int) := of_decide_eq_true (by first | (with_reducible assumption) | assumption)
                        obtain ⟨ad207, e207, hx207_0⟩ := Kd.at_string (Kd.R_reads' HO_4.out).2.2 x6_1 p207 q207
                        obtain rfl : ad206 = ad207 := (by injection e207)
                        replace p207 := eq_true p207
                        replace q207 := eq_true q207
                        have p14 : 0 ≤ (x7_2 : Int) := of_decide_eq_true (by first | (with_reducible assumption) | assumption)
                        have q14 : x7_2 < ((rdOf ByteArray.empty t203 x6_1).size : Int) := of_decide_eq_true (by first | (with_reducible assumption) | assumption)
                        have hx14 := bt_at (rdOf ByteArray.empty t203 x6_1) x7_2
                        replace p14 := eq_true p14
                        replace q14 := eq_true q14
                        go_wp2
                        go_ret
                        exact ⟨by first | rfl | (simp [errW_none, errW_some] <;> rfl) | (simp [*, errW_none, errW_some] <;> rfl), by repeat (first | (with_reducible first | exact HB.out | apply below_alloc | apply pw_below_drewN | apply below_drew1) | exact HB.out)⟩
                      · rw [if_neg c15] at H
                        have c15b0 : ((bt (rdOf ByteArray.empty t203 x6_1) x7_2) == 10) = false := beq_eq_false_iff_ne.mpr c15
                        have c15b1 : ((bt (rdOf ByteArray.empty t203 x6_1) x7_2) != 10) = true := bne_iff_ne.mpr c15
                        have H' := Aside0.mk H
                        clear H
                        have p206 : 0 ≤ (x6_1 : Int) := of_decide_eq_true (by first | (with_reducible assumption) | assumption)
                        have q206 : x6_1 < (t203.length : Int) := of_decide_eq_true (by first | (with_reducible assumption) | assumption)
                        obtain ⟨ad206, e206, hx206_0⟩ := Kd.at_string (Kd.R_reads' HO_4.out).2.2 x6_1 p206 q206
                        cases e206
                        replace p206 := eq_true p206
                        replace q206 := eq_true q206
                        have p207 : 0 ≤ (x6_1 : Int) := of_decide_eq_true (by first | (with_reducible assumption) | assumption)
                        have q207 : x6_1 < (t203.length : Int) := of_decide_eq_true (by first | (with_reducible assumption) | assumption)
                        obtain ⟨ad207, e207, hx207_0⟩ := Kd.at_string (Kd.R_reads' HO_4.out).2.2 x6_1 p207 q207
                        obtain rfl : ad206 = ad207 := (by injection e207)
                        replace p207 := eq_true p207
                        replace q207 := eq_true q207
                        have p14 : 0 ≤ (x7_2 : Int) := of_decide_eq_true (by first | (with_reducible assumption) | assumption)
                        have q14 : x7_2 < ((rdOf ByteArray.empty t203 x6_1).size : Int) := of_decide_eq_true (by first | (with_reducible assumption) | assumption)
                        have hx14 := bt_at (rdOf ByteArray.empty t203 x6_1) x7_2
                        replace p14 := eq_true p14
                        replace q14 := eq_true q14
                        go_wp2
                        go_roundg k2
                        case measure => have := HK1.out; have := HK2.out; omega
                        case rel => exact ⟨(wrap64 (x7_2 + 1)), (by first | rfl | (simp; done) | (simp [*]; done)), H', ⟨by have := HK1.out; have := HK2.out; omega⟩, ⟨by (with_reducible repeat (first | apply Kd.R_alloc | apply Kd.R_drewN | apply Kd.R_drew)); exact HO_4.out⟩, ⟨by repeat (first | (with_reducible first | exact HB.out | apply below_alloc | apply pw_below_drewN | apply below_drew1) | exact HB.out)⟩⟩
                    · rw [if_neg c13] at H
                      exact absurd H (by simp)
                  · rw [if_neg c12] at H
                    have c12b0 : decide (x7_2 < ((rdOf ByteArray.empty t203 x6_1).size : Int)) = false := decide_eq_false c12
                    clear c12
                    by_cases c16 : x5_1.size + (rdOf ByteArray.empty t203 x6_1).size ≤ 9223372036854775807
                    · rw [if_pos c16] at H
                      have c16b0 := eq_true c16
                      have c16b1 : decide (x5_1.size + (rdOf ByteArray.empty t203 x6_1).size ≤ 9223372036854775807) = true := decide_eq_true c16
                      try have c16b2 : (9223372036854775807 < x5_1.size + (rdOf ByteArray.empty t203 x6_1).size) = False := eq_false (Nat.not_lt.2 c16)
                      by_cases c17 : (x5_1 ++ (rdOf ByteArray.empty t203 x6_1)).size + 1 ≤ 9223372036854775807
                      · rw [if_pos c17] at H
                        have c17b0 := eq_true c17
                        have c17b1 : decide ((x5_1 ++ (rdOf ByteArray.empty t203 x6_1)).size + 1 ≤ 9223372036854775807) = true := decide_eq_true c17
                        try have c17b2 : (9223372036854775807 < (x5_1 ++ (rdOf ByteArray.empty t203 x6_1)).size + 1) = False := eq_false (Nat.not_lt.2 c17)
                        have c17n := c17
                        simp only [ByteArray.size_append', sizeLit, List.size_toArray, List.length_cons, List.length_nil, Nat.reduceAdd, Nat.zero_add] at c17n
                        have c17n0 := eq_true c17n
                        have c17n1 := decide_eq_true c17n
                        try have c17n2 := eq_false (Nat.not_lt.2 c17n)
                        have H' := Aside0.mk H
                        clear H
                        have p206 : 0 ≤ (x6_1 : Int) := of_decide_eq_true (by first | (with_reducible assumption) | assumption)
                        have q206 : x6_1 < (t203.length : Int) := of_decide_eq_true (by first | (with_reducible assumption) | assumption)
                        obtain ⟨ad206, e206, hx206_0⟩ := Kd.at_string (Kd.R_reads' HO_4.out).2.2 x6_1 p206 q206
                        cases e206
                        replace p206 := eq_true p206
                        replace q206 := eq_true q206
                        have p208 : 0 ≤ (x6_1 : Int) := of_decide_eq_true (by first | (with_reducible assumption) | assumption)
                        have q208 : x6_1 < (t203.length : Int) := of_decide_eq_true (by first | (with_reducible assumption) | assumption)
                        obtain ⟨ad208, e208, hx208_0⟩ := Kd.at_string (Kd.R_reads' HO_4.out).2.2 x6_1 p208 q208
                        obtain rfl : ad206 = ad208 := (by injection e208)
                        replace p208 := eq_true p208
                        replace q208 := eq_true q208
                        go_wp2
                        go_roundg k2
                        case measure => have := HK1.out; have := HK2.out; omega
                        case rel => exact ⟨((x5_1 ++ (rdOf ByteArray.empty t203 x6_1)) ++ (⟨#[10]⟩ : ByteArray)), (wrap64 (x6_1 + 1)), (by first | rfl | (simp; done) | (simp [*]; done)), (by first | rfl | (simp; done) | (simp [*]; done)), H', ⟨by have := HK1.out; have := HK2.out; omega⟩, ⟨by (with_reducible repeat (first | apply Kd.R_alloc | apply Kd.R_drewN | apply Kd.R_drew)); exact HO_4.out⟩, ⟨by repeat (first | (with_reducible first | exact HB.out | apply below_alloc | apply pw_below_drewN | apply below_drew1) | exact HB.out)⟩⟩
                      · rw [if_neg c17] at H
                        exact absurd H (by simp)
                    · rw [if_neg c16] at H
                      exact absurd H (by simp)
                · rw [if_neg c11] at H
                  exact absurd H (by simp)
              · rw [if_neg c10] at H
                exact absurd H (by simp)
        · rw [if_neg c8] at H
          have c8b0 : decide (x6_1 < (t203.length : Int)) = false := decide_eq_false c8
          clear c8
          by_cases c18 : t202 = true
          · subst c18
            have H1 : (if x5_1.toList = a0.toList then (some true) else (if a0.size + 1 ≤ 9223372036854775807 then (some (x5_1.toList == (a0 ++ (⟨#[10]⟩ : ByteArray)).toList)) else (none))) = some r := by rw [if_pos rfl] at H; exact H
            clear H
            have H := H1
            clear H1
            by_cases c19 : x5_1.toList = a0.toList
            · rw [if_pos c19] at H
              have c19b0 : (x5_1.toList == a0.toList) = true := beq_iff_eq.mpr c19
              have c19b1 : (x5_1.toList != a0.toList) = false := bne_eq_false_iff_eq.mpr c19
              clear c19
              obtain rfl := Option.some.inj H
              obtain ⟨Ao20, co20, eo20⟩ := Kd.R_slice HO_4.out
              subst eo20
              go_wp2
              go_ret
              exact ⟨by first | rfl | (simp [errW_none, errW_some] <;> rfl) | (simp [*, errW_none, errW_some] <;> rfl), by repeat (first | (with_reducible first | exact HB.out | apply below_alloc | apply pw_below_drewN | apply below_drew1) | exact HB.out)⟩
            · rw [if_neg c19] at H
              have c19b0 : (x5_1.toList == a0.toList) = false := beq_eq_false_iff_ne.mpr c19
              have c19b1 : (x5_1.toList != a0.toList) = true := bne_iff_ne.mpr c19
              by_cases c21 : a0.size + 1 ≤ 9223372036854775807
              · rw [if_pos c21] at H
                have c21b0 := eq_true c21
                have c21b1 : decide (a0.size + 1 ≤ 9223372036854775807) = true := decide_eq_true c21
                try have c21b2 : (9223372036854775807 < a0.size + 1) = False := eq_false (Nat.not_lt.2 c21)
                obtain rfl := Option.some.inj H
                obtain ⟨Ao22, co22, eo22⟩ := Kd.R_slice HO_4.out
                subst eo22
                go_wp2
                go_ret
                exact ⟨by first | rfl | (simp [errW_none, errW_some] <;> rfl) | (simp [*, errW_none, errW_some] <;> rfl), by repeat (first | (with_reducible first | exact HB.out | apply below_alloc | apply pw_below_drewN | apply below_drew1) | exact HB.out)⟩
              · rw [if_neg c21] at H
                exact absurd H (by simp)
          · replace c18 := Bool.eq_false_iff.mpr c18
            subst c18
            have H1 : (some false) = some r := by rw [if_neg (show ¬ (false = true) by decide)] at H; exact H
            clear H
            have H := H1
            clear H1
            obtain rfl := Option.some.inj H
            obtain ⟨Ao23, co23, eo23⟩ := Kd.R_slice HO_4.out
            subst eo23
            go_wp2
            go_ret
            exact ⟨by first | rfl | (simp [errW_none, errW_some] <;> rfl) | (simp [*, errW_none, errW_some] <;> rfl), by repeat (first | (with_reducible first | exact HB.out | apply below_alloc | apply pw_below_drewN | apply below_drew1) | exact HB.out)⟩

end Go.Proofs.YtacdldlnnnahkaaDoor.Pr
