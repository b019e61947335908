/- A function's plain form and the walk that shows it: written by a program of this session (wip/mkprint.py) out of the translation; Lean checks it. -/
import Derived.Test.YtacdldlnnnahkaaDoorP0
import Derived.Test.YtacdldlnnnahkaaDoorPfeluccalaw02small
import Derived.Test.YtacdldlnnnahkaaDoorPfeluccaref02Same
import Derived.Test.YtacdldlnnnahkaaDoorWordsB
namespace Go.Proofs.YtacdldlnnnahkaaDoor.Pr
open Go.RowKit Go.Proofs.YtacdldlnnnahkaaDoorW.PrintWords Go.Proofs.YtacdldlnnnahkaaDoorW.PrintLast Go.Proofs.YtacdldlnnnahkaaDoorW.PrintMore
attribute [local go_sem] max2_int min2_int max_two min_two max_three min_three max_four min_four   -- for this text's walks alone
set_option linter.unusedVariables false
set_option linter.unusedSimpArgs false

/-! ### feluccalaw02_WordsPlain: function 5 -/
mutual
def feluccalaw02_WordsPlain.j0 : Nat → ByteArray → ByteArray → Bool → Bool → Option (Bool)
  | 0, _, _, _, _ => none
  | k + 1, x0, x1, x5, x18 => if x18 = true then (some x5) else ((words_Words.f x0).bind fun t188 => (feluccalaw02_WordsPlain.l0 k x0 x1 x5 t188 0))
def feluccalaw02_WordsPlain.l0 : Nat → ByteArray → ByteArray → Bool → List ByteArray → Int → Option (Bool)
  | 0, _, _, _, _, _ => none
  | k + 1, x0, x1, x5, x6, x7 => if x7 < (x6.length : Int) then (feluccalaw02_WordsPlain.l1 k x0 x1 x5 x6 x7 0) else (if x5 = true then (if x0.size + 1 ≤ 9223372036854775807 then (if (x0 ++ (⟨#[35]⟩ : ByteArray)).size + x1.size ≤ 9223372036854775807 then ((words_Words.f ((x0 ++ (⟨#[35]⟩ : ByteArray)) ++ x1)).bind fun t194 => ((feluccaref02_Same.f k t194 x6).bind fun t197 => (if t197 = true then (if 1 + x0.size ≤ 9223372036854775807 then (if ((⟨#[32]⟩ : ByteArray) ++ x0).size + 1 ≤ 9223372036854775807 then ((words_Words.f (((⟨#[32]⟩ : ByteArray) ++ x0) ++ (⟨#[9]⟩ : ByteArray))).bind fun t198 => ((feluccaref02_Same.f k t198 x6).bind fun t201 => (some t201))) else (none)) else (none)) else (some false)))) else (none)) else (none)) else (some false))
def feluccalaw02_WordsPlain.l1 : Nat → ByteArray → ByteArray → Bool → List ByteArray → Int → Int → Option (Bool)
  | 0, _, _, _, _, _, _ => none
  | k + 1, x0, x1, x5, x6, x7, x8 => if 0 ≤ x7 then (if x7 < (x6.length : Int) then (if x8 < ((rdOf ByteArray.empty x6 x7).size : Int) then (if 0 ≤ x8 then (if (bt (rdOf ByteArray.empty x6 x7) x8) = 32 then (some false) else (if (bt (rdOf ByteArray.empty x6 x7) x8) = 9 then (some false) else (if (bt (rdOf ByteArray.empty x6 x7) x8) = 13 then (some false) else (if (bt (rdOf ByteArray.empty x6 x7) x8) = 35 then (some false) else (feluccalaw02_WordsPlain.l1 k x0 x1 x5 x6 x7 (wrap64 (x8 + 1))))))) else (none)) else (if (rdOf ByteArray.empty x6 x7).toList = ([] : List UInt8) then (some false) else (feluccalaw02_WordsPlain.l0 k x0 x1 x5 x6 (wrap64 (x7 + 1))))) else (none)) else (none)
end
def feluccalaw02_WordsPlain.f (k : Nat) (a0 : ByteArray) (a1 : ByteArray) : Option (Bool) := (feluccalaw02_small.f k).bind fun t187 => (if (a0.size : Int) > 300 then (feluccalaw02_WordsPlain.j0 k a0 a1 t187 true) else (feluccalaw02_WordsPlain.j0 k a0 a1 t187 (decide ((a1.size : Int) > 300))))
theorem feluccalaw02_WordsPlain.mono_l : ∀ k, (∀ y0 y1 y2 y3, LeO (feluccalaw02_WordsPlain.j0 k y0 y1 y2 y3) (feluccalaw02_WordsPlain.j0 (k + 1) y0 y1 y2 y3)) ∧ (∀ y0 y1 y2 y3 y4, LeO (feluccalaw02_WordsPlain.l0 k y0 y1 y2 y3 y4) (feluccalaw02_WordsPlain.l0 (k + 1) y0 y1 y2 y3 y4)) ∧ (∀ y0 y1 y2 y3 y4 y5, LeO (feluccalaw02_WordsPlain.l1 k y0 y1 y2 y3 y4 y5) (feluccalaw02_WordsPlain.l1 (k + 1) y0 y1 y2 y3 y4 y5))
  | 0 => ⟨fun _ _ _ _ r h => by simp [feluccalaw02_WordsPlain.j0] at h, fun _ _ _ _ _ r h => by simp [feluccalaw02_WordsPlain.l0] at h, fun _ _ _ _ _ _ r h => by simp [feluccalaw02_WordsPlain.l1] at h⟩
  | k + 1 => by
    obtain ⟨ih0, ih1, ih2⟩ := feluccalaw02_WordsPlain.mono_l k
    refine ⟨?_, ?_, ?_⟩
    · intro y0 y1 y2 y3
      unfold feluccalaw02_WordsPlain.j0
      repeat' first
      | (with_reducible exact ih0 _ _ _ _)
      | (with_reducible exact ih1 _ _ _ _ _)
      | (with_reducible exact ih2 _ _ _ _ _ _)
      | (with_reducible exact feluccalaw02_small.mono _)
      | (with_reducible exact feluccaref02_Same.mono _ _ _)
      | (with_reducible exact LeO.refl _)
      | (with_reducible exact LeO.none _)
      | (with_reducible refine LeO.ite ?_ ?_)
      | (with_reducible refine LeO.bind ?_ (fun _ => ?_))
      | exact ih0 _ _ _ _
      | exact ih1 _ _ _ _ _
      | exact ih2 _ _ _ _ _ _
      | exact feluccalaw02_small.mono _
      | exact feluccaref02_Same.mono _ _ _
      | exact LeO.none _
      | refine LeO.ite ?_ ?_
      | refine LeO.bind ?_ (fun _ => ?_)
    · intro y0 y1 y2 y3 y4
      unfold feluccalaw02_WordsPlain.l0
      repeat' first
      | (with_reducible exact ih0 _ _ _ _)
      | (with_reducible exact ih1 _ _ _ _ _)
      | (with_reducible exact ih2 _ _ _ _ _ _)
      | (with_reducible exact feluccalaw02_small.mono _)
      | (with_reducible exact feluccaref02_Same.mono _ _ _)
      | (with_reducible exact LeO.refl _)
      | (with_reducible exact LeO.none _)
      | (with_reducible refine LeO.ite ?_ ?_)
      | (with_reducible refine LeO.bind ?_ (fun _ => ?_))
      | exact ih0 _ _ _ _
      | exact ih1 _ _ _ _ _
      | exact ih2 _ _ _ _ _ _
      | exact feluccalaw02_small.mono _
      | exact feluccaref02_Same.mono _ _ _
      | exact LeO.none _
      | refine LeO.ite ?_ ?_
      | refine LeO.bind ?_ (fun _ => ?_)
    · intro y0 y1 y2 y3 y4 y5
      unfold feluccalaw02_WordsPlain.l1
      repeat' first
      | (with_reducible exact ih0 _ _ _ _)
      | (with_reducible exact ih1 _ _ _ _ _)
      | (with_reducible exact ih2 _ _ _ _ _ _)
      | (with_reducible exact feluccalaw02_small.mono _)
      | (with_reducible exact feluccaref02_Same.mono _ _ _)
      | (with_reducible exact LeO.refl _)
      | (with_reducible exact LeO.none _)
      | (with_reducible refine LeO.ite ?_ ?_)
      | (with_reducible refine LeO.bind ?_ (fun _ => ?_))
      | exact ih0 _ _ _ _
      | exact ih1 _ _ _ _ _
      | exact ih2 _ _ _ _ _ _
      | exact feluccalaw02_small.mono _
      | exact feluccaref02_Same.mono _ _ _
      | exact LeO.none _
      | refine LeO.ite ?_ ?_
      | refine LeO.bind ?_ (fun _ => ?_)
theorem feluccalaw02_WordsPlain.mono : ∀ a0 a1 k, LeO (feluccalaw02_WordsPlain.f k a0 a1) (feluccalaw02_WordsPlain.f (k + 1) a0 a1) := by
  intro a0 a1 k
  obtain ⟨ih0, ih1, ih2⟩ := feluccalaw02_WordsPlain.mono_l k
  unfold feluccalaw02_WordsPlain.f
  repeat' first
      | (with_reducible exact ih0 _ _ _ _)
      | (with_reducible exact ih1 _ _ _ _ _)
      | (with_reducible exact ih2 _ _ _ _ _ _)
      | (with_reducible exact feluccalaw02_small.mono _)
      | (with_reducible exact feluccaref02_Same.mono _ _ _)
      | (with_reducible exact LeO.refl _)
      | (with_reducible exact LeO.none _)
      | (with_reducible refine LeO.ite ?_ ?_)
      | (with_reducible refine LeO.bind ?_ (fun _ => ?_))
      | exact ih0 _ _ _ _
      | exact ih1 _ _ _ _ _
      | exact ih2 _ _ _ _ _ _
      | exact feluccalaw02_small.mono _
      | exact feluccaref02_Same.mono _ _ _
      | exact LeO.none _
      | refine LeO.ite ?_ ?_
      | refine LeO.bind ?_ (fun _ => ?_)
set_option maxHeartbeats 8000000 in
set_option maxRecDepth 100000 in
theorem feluccalaw02_WordsPlain.calls (k : Nat) (a0 : ByteArray) (a1 : ByteArray) (r : Bool) (w : World) (hMaxP : MaxP w) (h : feluccalaw02_WordsPlain.f k a0 a1 = some r) :
    Calls Tryd.prog 5 #[.string a0, .string a1] w fun e w' => e = .returned (.bool r) ∧ Below w.heap.size w w' := by
  have XMaxP := Aside0.mk hMaxP
  clear hMaxP
  have HB := Aside0.mk (Below.refl w.heap.size w)
  have H : ((feluccalaw02_small.f k).bind fun t187 => (if (a0.size : Int) > 300 then (feluccalaw02_WordsPlain.j0 k a0 a1 t187 true) else (feluccalaw02_WordsPlain.j0 k a0 a1 t187 (decide ((a1.size : Int) > 300))))) = some r := h
  clear h
  replace H := Option.bind_eq_some_iff.mp H
  obtain ⟨t187, A30, H⟩ := H
  replace H : (if (a0.size : Int) > 300 then (feluccalaw02_WordsPlain.j0 k a0 a1 t187 true) else (feluccalaw02_WordsPlain.j0 k a0 a1 t187 (decide ((a1.size : Int) > 300)))) = some r := H
  have A3 := Aside0.mk A30
  clear A30
  have HC4 := Aside0.mk H
  clear H
  go_enter Tryd.func5, Tryd.ntmps5
  go_upto_region 2 with (first | ((with_reducible refine gate_callee (f := 13) rfl ?_); refine goesL_ (some 10) rfl rfl Tryd.func13 (by kernel_rfl) rfl #[] rfl (by (try simp only [List.map_toArray, List.map_cons, List.map_nil]); first | done | rfl | (simp only [List.length_drop, List.length_take]; rfl)) ?_; (with_reducible refine (feluccalaw02_small.calls k  t187 _ ?side1 A3.out).mono ?_); (case side1 => exact MaxP.below XMaxP.out (by repeat (first | (with_reducible first | exact HB.out | apply below_alloc | apply pw_below_drewN | apply below_drew1) | exact HB.out))); rintro e w5 ⟨rfl, hb⟩; refine ⟨_, rfl, ?_⟩; have n0_ := Aside0.mk (below_step (by repeat (first | (with_reducible first | exact HB.out | apply below_alloc | apply pw_below_drewN | apply below_drew1) | exact HB.out)) hb); clear HB; have HB := n0_; clear n0_; (try clear hb); (try clear hb2); (try clear hk); (try clear hi)))
  (try simp only [Act.put, List.setIfInBounds_toArray, List.set_cons_zero, List.set_cons_succ])
  go_cut [18] (fun v18 wc => ∃ (kq : Nat) (x18_3 : Bool), v18 = .bool x18_3 ∧ Aside0 (feluccalaw02_WordsPlain.j0 kq a0 a1 t187 x18_3 = some r) ∧ Aside0 (kq ≤ k) ∧ Aside0 (Below w.heap.size w wc))
  case first =>
    have H := HC4.out
    clear HC4
    by_cases c6 : (a0.size : Int) > 300
    · rw [if_pos c6] at H
      have c6b0 : decide (300 < (a0.size : Int)) = true := decide_eq_true c6
      have c6b1 : decide (300 < a0.size) = true := decide_eq_true (by omega)
      clear c6
      (first | rw [c6b0] | (simp only [i64_w, i32_w]; rw [c6b0]) | skip)
      have H' := Aside0.mk H
      clear H
      go_wp2
      go_meet
      case rel => exact ⟨_, (true), (by first | rfl | (simp; done) | (simp [*]; done)), H', ⟨by first | omega | exact Nat.le_refl _⟩, ⟨by repeat (first | (with_reducible first | exact HB.out | apply below_alloc | apply pw_below_drewN | apply below_drew1) | exact HB.out)⟩⟩
    · rw [if_neg c6] at H
      have c6b0 : decide (300 < (a0.size : Int)) = false := decide_eq_false c6
      have c6b1 : decide (300 < a0.size) = false := decide_eq_false (by omega)
      clear c6
      (first | rw [c6b0] | (simp only [i64_w, i32_w]; rw [c6b0]) | skip)
      have H' := Aside0.mk H
      clear H
      go_wp2
      go_meet
      case rel => exact ⟨_, (decide ((a1.size : Int) > 300)), (by first | rfl | (simp; done) | (simp [*]; done)), H', ⟨by first | omega | exact Nat.le_refl _⟩, ⟨by repeat (first | (with_reducible first | exact HB.out | apply below_alloc | apply pw_below_drewN | apply below_drew1) | exact HB.out)⟩⟩
  case rest =>
    clear HC4
    try clear c1
    try clear p2
    try clear c5
    try clear c6
    try clear c6b0
    try clear c6b1
    obtain ⟨kq, x18_3, rfl, HA, HJ3, HB⟩ := hcut
    cases kq with
    | zero => exact absurd HA.out (by simp [feluccalaw02_WordsPlain.j0])
    | succ kj3 =>
      have H := HA.out
      clear HA
      simp only [feluccalaw02_WordsPlain.j0] at H
      by_cases c7 : x18_3 = true
      · subst c7
        have H1 : (some t187) = some r := by rw [if_pos rfl] at H; exact H
        clear H
        have H := H1
        clear H1
        obtain rfl := Option.some.inj H
        go_wp2
        go_ret
        exact ⟨by first | rfl | (simp [errW_none, errW_some] <;> rfl) | (simp [*, errW_none, errW_some] <;> rfl), by repeat (first | (with_reducible first | exact HB.out | apply below_alloc | apply pw_below_drewN | apply below_drew1) | exact HB.out)⟩
      · replace c7 := Bool.eq_false_iff.mpr c7
        subst c7
        have H1 : ((words_Words.f a0).bind fun t188 => (feluccalaw02_WordsPlain.l0 kj3 a0 a1 t187 t188 0)) = some r := by rw [if_neg (show ¬ (false = true) by decide)] at H; exact H
        clear H
        have H := H1
        clear H1
        replace H := Option.bind_eq_some_iff.mp H
        obtain ⟨t188, A80, H⟩ := H
        replace H : (feluccalaw02_WordsPlain.l0 kj3 a0 a1 t187 t188 0) = some r := H
        have A8 := Aside0.mk A80
        clear A80
        have H' := Aside0.mk H
        clear H
        go_wp2_with (first | ((with_reducible refine gate_callee (f := 17) rfl ?_); refine goesL_ (some 21) rfl rfl Tryd.func17 (by kernel_rfl) rfl #[.string a0] rfl (by (try simp only [List.map_toArray, List.map_cons, List.map_nil]); first | done | rfl | (simp only [List.length_drop, List.length_take]; rfl)) ?_; (with_reducible refine (words_Words.calls a0 t188 _ ?side1 A8.out).mono ?_); (case side1 => exact MaxP.below XMaxP.out (by repeat (first | (with_reducible first | exact HB.out | apply below_alloc | apply pw_below_drewN | apply below_drew1) | exact HB.out))); rintro e w9 ⟨v189, rfl, ho0, hb⟩; refine ⟨_, rfl, ?_⟩; have n0_ := Aside0.mk (Kd.R_lower ho0 (below_size (by repeat (first | (with_reducible first | exact HB.out | apply below_alloc | apply pw_below_drewN | apply below_drew1) | exact HB.out)))); have n1_ := Aside0.mk (below_step (by repeat (first | (with_reducible first | exact HB.out | apply below_alloc | apply pw_below_drewN | apply below_drew1) | exact HB.out)) hb); clear HB; have HO190 := n0_; have HB := n1_; clear n0_ n1_; (try clear hb); (try clear hb2); (try clear hk); (try clear hi); (try clear ho0)))
        go_loopg [7] kj3 (fun kq v7 w' => ∃ (x7_2 : Int), v7 = .int .i64 x7_2 ∧ Aside0 (feluccalaw02_WordsPlain.l0 kq a0 a1 t187 t188 x7_2 = some r) ∧ Aside0 (kq ≤ kj3) ∧ Aside0 (Kd.R Kd.string 9 w' w.heap.size (fun _ => True) v189 t188) ∧ Aside0 (Below w.heap.size w w'))
        case atStart => exact ⟨(0), (by first | rfl | (simp; done) | (simp [*]; done)), H', ⟨Nat.le_refl _⟩, ⟨by (with_reducible repeat (first | apply Kd.R_alloc | apply Kd.R_drewN | apply Kd.R_drew)); exact HO190.out⟩, ⟨by repeat (first | (with_reducible first | exact HB.out | apply below_alloc | apply pw_below_drewN | apply below_drew1) | exact HB.out)⟩⟩
        case round =>
          clear H'
          try clear c1
          try clear p2
          try clear c5
          try clear c6
          try clear c6b0
          try clear c6b1
          try clear c7
          try clear p2
          obtain ⟨x7_2, rfl, HA, HK2, HO_6, HB⟩ := hrel
          cases gk with
          | zero => exact absurd HA.out (by simp [feluccalaw02_WordsPlain.l0])
          | succ k2 =>
            have H := HA.out
            clear HA
            simp only [feluccalaw02_WordsPlain.l0] at H
            by_cases c10 : x7_2 < (t188.length : Int)
            · rw [if_pos c10] at H
              have c10b0 : decide (x7_2 < (t188.length : Int)) = true := decide_eq_true c10
              clear c10
              have H' := Aside0.mk H
              clear H
              obtain ⟨Ao11, co11, eo11⟩ := Kd.R_slice HO_6.out
              subst eo11
              go_wp2
              go_loopg [8] k2 (fun kq v8 w' => ∃ (x8_3 : Int), v8 = .int .i64 x8_3 ∧ Aside0 (feluccalaw02_WordsPlain.l1 kq a0 a1 t187 t188 x7_2 x8_3 = some r) ∧ Aside0 (kq ≤ k2) ∧ Aside0 (Kd.R Kd.string 9 w' w.heap.size (fun _ => True) (.slice Ao11 t188.length co11) t188) ∧ Aside0 (Below w.heap.size w w'))
              case atStart => exact ⟨(0), (by first | rfl | (simp; done) | (simp [*]; done)), H', ⟨Nat.le_refl _⟩, ⟨by (with_reducible repeat (first | apply Kd.R_alloc | apply Kd.R_drewN | apply Kd.R_drew)); exact HO_6.out⟩, ⟨by repeat (first | (with_reducible first | exact HB.out | apply below_alloc | apply pw_below_drewN | apply below_drew1) | exact HB.out)⟩⟩
              case round =>
                clear H'
                try clear c1
                try clear p2
                try clear c5
                try clear c6
                try clear c6b0
                try clear c6b1
                try clear c7
                try clear c10
                try clear c10b0
                try clear p2
                obtain ⟨x8_3, rfl, HA, HK3, HO_6, HB⟩ := hrel
                cases gk with
                | zero => exact absurd HA.out (by simp [feluccalaw02_WordsPlain.l1])
                | succ k3 =>
                  have H := HA.out
                  clear HA
                  simp only [feluccalaw02_WordsPlain.l1] at H
                  by_cases c12 : 0 ≤ x7_2
                  · rw [if_pos c12] at H
                    have c12b0 : decide (0 ≤ x7_2) = true := decide_eq_true c12
                    clear c12
                    by_cases c13 : x7_2 < (t188.length : Int)
                    · rw [if_pos c13] at H
                      have c13b0 : decide (x7_2 < (t188.length : Int)) = true := decide_eq_true c13
                      clear c13
                      by_cases c14 : x8_3 < ((rdOf ByteArray.empty t188 x7_2).size : Int)
                      · rw [if_pos c14] at H
                        have c14b0 : decide (x8_3 < ((rdOf ByteArray.empty t188 x7_2).size : Int)) = true := decide_eq_true c14
                        clear c14
                        by_cases c15 : 0 ≤ x8_3
                        · rw [if_pos c15] at H
                          have c15b0 : decide (0 ≤ x8_3) = true := decide_eq_true c15
                          clear c15
                          by_cases c17 : (bt (rdOf ByteArray.empty t188 x7_2) x8_3) = 32
                          · rw [if_pos c17] at H
                            have c17b0 : ((bt (rdOf ByteArray.empty t188 x7_2) x8_3) == 32) = true := beq_iff_eq.mpr c17
                            have c17b1 : ((bt (rdOf ByteArray.empty t188 x7_2) x8_3) != 32) = false := bne_eq_false_iff_eq.mpr c17
                            clear c17
                            obtain rfl := Option.some.inj H
                            have p191 : 0 ≤ (x7_2 : Int) := of_decide_eq_true (by first | (with_reducible assumption) | assumption)
                            have q191 : x7_2 < (t188.length : Int) := of_decide_eq_true (by first | (with_reducible assumption) | assumption)
                            obtain ⟨ad191, e191, hx191_0⟩ := Kd.at_string (Kd.R_reads' HO_6.out).2.2 x7_2 p191 q191
                            cases e191
                            replace p191 := eq_true p191
                            replace q191 := eq_true q191
                            have p192 : 0 ≤ (x7_2 : Int) := of_decide_eq_true (by first | (with_reducible assumption) | assumption)
                            have q192 : x7_2 < (t188.length : Int) := of_decide_eq_true (by first | (with_reducible assumption) | assumption)
                            obtain ⟨ad192, e192, hx192_0⟩ := Kd.at_string (Kd.R_reads' HO_6.out).2.2 x7_2 p192 q192
                            obtain rfl : ad191 = ad192 := (by injection e192)
                            replace p192 := eq_true p192
                            replace q192 := eq_true q192
                            have p16 : 0 ≤ (x8_3 : Int) := of_decide_eq_true (by first | (with_reducible assumption) | assumption)
                            have q16 : x8_3 < ((rdOf ByteArray.empty t188 x7_2).size : Int) := of_decide_eq_true (by first | (with_reducible assumption) | assumption)
                            have hx16 := bt_at (rdOf ByteArray.empty t188 x7_2) x8_3
                            replace p16 := eq_true p16
                            replace q16 := eq_true q16
                            go_wp2
                            go_ret
                            exact ⟨by first | rfl | (simp [errW_none, errW_some] <;> rfl) | (simp [*, errW_none, errW_some] <;> rfl), by repeat (first | (with_reducible first | exact HB.out | apply below_alloc | apply pw_below_drewN | apply below_drew1) | exact HB.out)⟩
                          · rw [if_neg c17] at H
                            have c17b0 : ((bt (rdOf ByteArray.empty t188 x7_2) x8_3) == 32) = false := beq_eq_false_iff_ne.mpr c17
                            have c17b1 : ((bt (rdOf ByteArray.empty t188 x7_2) x8_3) != 32) = true := bne_iff_ne.mpr c17
                            by_cases c18 : (bt (rdOf ByteArray.empty t188 x7_2) x8_3) = 9
                            · rw [if_pos c18] at H
                              have c18b0 : ((bt (rdOf ByteArray.empty t188 x7_2) x8_3) == 9) = true := beq_iff_eq.mpr c18
                              have c18b1 : ((bt (rdOf ByteArray.empty t188 x7_2) x8_3) != 9) = false := bne_eq_false_iff_eq.mpr c18
                              clear c18
                              obtain rfl := Option.some.inj H
                              have p191 : 0 ≤ (x7_2 : Int) := of_decide_eq_true (by first | (with_reducible assumption) | assumption)
                              have q191 : x7_2 < (t188.length : Int) := of_decide_eq_true (by first | (with_reducible assumption) | assumption)
                              obtain ⟨ad191, e191, hx191_0⟩ := Kd.at_string (Kd.R_reads' HO_6.out).2.2 x7_2 p191 q191
                              cases e191
                              replace p191 := eq_true p191
                              replace q191 := eq_true q191
                              have p192 : 0 ≤ (x7_2 : Int) := of_decide_eq_true (by first | (with_reducible assumption) | assumption)
                              have q192 : x7_2 < (t188.length : Int) := of_decide_eq_true (by first | (with_reducible assumption) | assumption)
                              obtain ⟨ad192, e192, hx192_0⟩ := Kd.at_string (Kd.R_reads' HO_6.out).2.2 x7_2 p192 q192
                              obtain rfl : ad191 = ad192 := (by injection e192)
                              replace p192 := eq_true p192
                              replace q192 := eq_true q192
                              have p16 : 0 ≤ (x8_3 : Int) := of_decide_eq_true (by first | (with_reducible assumption) | assumption)
                              have q16 : x8_3 < ((rdOf ByteArray.empty t188 x7_2).size : Int) := of_decide_eq_true (by first | (with_reducible assumption) | assumption)
                              have hx16 := bt_at (rdOf ByteArray.empty t188 x7_2) x8_3
                              replace p16 := eq_true p16
                              replace q16 := eq_true q16
                              go_wp2
                              go_ret
                              exact ⟨by first | rfl | (simp [errW_none, errW_some] <;> rfl) | (simp [*, errW_none, errW_some] <;> rfl), by repeat (first | (with_reducible first | exact HB.out | apply below_alloc | apply pw_below_drewN | apply below_drew1) | exact HB.out)⟩
                            · rw [if_neg c18] at H
                              have c18b0 : ((bt (rdOf ByteArray.empty t188 x7_2) x8_3) == 9) = false := beq_eq_false_iff_ne.mpr c18
                              have c18b1 : ((bt (rdOf ByteArray.empty t188 x7_2) x8_3) != 9) = true := bne_iff_ne.mpr c18
                              by_cases c19 : (bt (rdOf ByteArray.empty t188 x7_2) x8_3) = 13
                              · rw [if_pos c19] at H
                                have c19b0 : ((bt (rdOf ByteArray.empty t188 x7_2) x8_3) == 13) = true := beq_iff_eq.mpr c19
                                have c19b1 : ((bt (rdOf ByteArray.empty t188 x7_2) x8_3) != 13) = false := bne_eq_false_iff_eq.mpr c19
                                clear c19
                                obtain rfl := Option.some.inj H
                                have p191 : 0 ≤ (x7_2 : Int) := of_decide_eq_true (by first | (with_reducible assumption) | assumption)
                                have q191 : x7_2 < (t188.length : Int) := of_decide_eq_true (by first | (with_reducible assumption) | assumption)
                                obtain ⟨ad191, e191, hx191_0⟩ := Kd.at_string (Kd.R_reads' HO_6.out).2.2 x7_2 p191 q191
                                cases e191
                                replace p191 := eq_true p191
                                replace q191 := eq_true q191
                                have p192 : 0 ≤ (x7_2 : Int) := of_decide_eq_true (by first | (with_reducible assumption) | assumption)
                                have q192 : x7_2 < (t188.length : Int) := of_decide_eq_true (by first | (with_reducible assumption) | assumption)
                                obtain ⟨ad192, e192, hx192_0⟩ := Kd.at_string (Kd.R_reads' HO_6.out).2.2 x7_2 p192 q192
                                obtain rfl : ad191 = ad192 := (by injection e192)
                                replace p192 := eq_true p192
                                replace q192 := eq_true q192
                                have p16 : 0 ≤ (x8_3 : Int) := of_decide_eq_true (by first | (with_reducible assumption) | assumption)
                                have q16 : x8_3 < ((rdOf ByteArray.empty t188 x7_2).size : Int) := of_decide_eq_true (by first | (with_reducible assumption) | assumption)
                                have hx16 := bt_at (rdOf ByteArray.empty t188 x7_2) x8_3
                                replace p16 := eq_true p16
                                replace q16 := eq_true q16
                                go_wp2
                                go_ret
                                exact ⟨by first | rfl | (simp [errW_none, errW_some] <;> rfl) | (simp [*, errW_none, errW_some] <;> rfl), by repeat (first | (with_reducible first | exact HB.out | apply below_alloc | apply pw_below_drewN | apply below_drew1) | exact HB.out)⟩
                              · rw [if_neg c19] at H
                                have c19b0 : ((bt (rdOf ByteArray.empty t188 x7_2) x8_3) == 13) = false := beq_eq_false_iff_ne.mpr c19
                                have c19b1 : ((bt (rdOf ByteArray.empty t188 x7_2) x8_3) != 13) = true := bne_iff_ne.mpr c19
                                by_cases c20 : (bt (rdOf ByteArray.empty t188 x7_2) x8_3) = 35
                                · rw [if_pos c20] at H
                                  have c20b0 : ((bt (rdOf ByteArray.empty t188 x7_2) x8_3) == 35) = true := beq_iff_eq.mpr c20
                                  have c20b1 : ((bt (rdOf ByteArray.empty t188 x7_2) x8_3) != 35) = false := bne_eq_false_iff_eq.mpr c20
                                  clear c20
                                  obtain rfl := Option.some.inj H
                                  have p191 : 0 ≤ (x7_2 : Int) := of_decide_eq_true (by first | (with_reducible assumption) | assumption)
                                  have q191 : x7_2 < (t188.length : Int) := of_decide_eq_true (by first | (with_reducible assumption) | assumption)
                                  obtain ⟨ad191, e191, hx191_0⟩ := Kd.at_string (Kd.R_reads' HO_6.out).2.2 x7_2 p191 q191
                                  cases e191
                                  replace p191 := eq_true p191
                                  replace q191 := eq_true q191
                                  have p192 : 0 ≤ (x7_2 : Int) := of_decide_eq_true (by first | (with_reducible assumption) | assumption)
                                  have q192 : x7_2 < (t188.length : Int) := of_decide_eq_true (by first | (with_reducible assumption) | assumption)
                                  obtain ⟨ad192, e192, hx192_0⟩ := Kd.at_string (Kd.R_reads' HO_6.out).2.2 x7_2 p192 q192
                                  obtain rfl : ad191 = ad192 := (by injection e192)
                                  replace p192 := eq_true p192
                                  replace q192 := eq_true q192
                                  have p16 : 0 ≤ (x8_3 : Int) := of_decide_eq_true (by first | (with_reducible assumption) | assumption)
                                  have q16 : x8_3 < ((rdOf ByteArray.empty t188 x7_2).size : Int) := of_decide_eq_true (by first | (with_reducible assumption) | assumption)
                                  have hx16 := bt_at (rdOf ByteArray.empty t188 x7_2) x8_3
                                  replace p16 := eq_true p16
                                  replace q16 := eq_true q16
                                  go_wp2
                                  go_ret
                                  exact ⟨by first | rfl | (simp [errW_none, errW_some] <;> rfl) | (simp [*, errW_none, errW_some] <;> rfl), by repeat (first | (with_reducible first | exact HB.out | apply below_alloc | apply pw_below_drewN | apply below_drew1) | exact HB.out)⟩
                                · rw [if_neg c20] at H
                                  have c20b0 : ((bt (rdOf ByteArray.empty t188 x7_2) x8_3) == 35) = false := beq_eq_false_iff_ne.mpr c20
                                  have c20b1 : ((bt (rdOf ByteArray.empty t188 x7_2) x8_3) != 35) = true := bne_iff_ne.mpr c20
                                  have H' := Aside0.mk H
                                  clear H
                                  have p191 : 0 ≤ (x7_2 : Int) := of_decide_eq_true (by first | (with_reducible assumption) | assumption)
                                  have q191 : x7_2 < (t188.length : Int) := of_decide_eq_true (by first | (with_reducible assumption) | assumption)
                                  obtain ⟨ad191, e191, hx191_0⟩ := Kd.at_string (Kd.R_reads' HO_6.out).2.2 x7_2 p191 q191
                                  cases e191
                                  replace p191 := eq_true p191
                                  replace q191 := eq_true q191
                                  have p192 : 0 ≤ (x7_2 : Int) := of_decide_eq_true (by first | (with_reducible assumption) | assumption)
                                  have q192 : x7_2 < (t188.length : Int) := of_decide_eq_true (by first | (with_reducible assumption) | assumption)
                                  obtain ⟨ad192, e192, hx192_0⟩ := Kd.at_string (Kd.R_reads' HO_6.out).2.2 x7_2 p192 q192
                                  obtain rfl : ad191 = ad192 := (by injection e192)
                                  replace p192 := eq_true p192
                                  replace q192 := eq_true q192
                                  have p16 : 0 ≤ (x8_3 : Int) := of_decide_eq_true (by first | (with_reducible assumption) | assumption)
                                  have q16 : x8_3 < ((rdOf ByteArray.empty t188 x7_2).size : Int) := of_decide_eq_true (by first | (with_reducible assumption) | assumption)
                                  have hx16 := bt_at (rdOf ByteArray.empty t188 x7_2) x8_3
                                  replace p16 := eq_true p16
                                  replace q16 := eq_true q16
                                  go_wp2
                                  go_roundg k3
                                  case measure => have := HJ3.out; have := HK2.out; have := HK3.out; omega
                                  case rel => exact ⟨(wrap64 (x8_3 + 1)), (by first | rfl | (simp; done) | (simp [*]; done)), H', ⟨by have := HJ3.out; have := HK2.out; have := HK3.out; omega⟩, ⟨by (with_reducible repeat (first | apply Kd.R_alloc | apply Kd.R_drewN | apply Kd.R_drew)); exact HO_6.out⟩, ⟨by repeat (first | (with_reducible first | exact HB.out | apply below_alloc | apply pw_below_drewN | apply below_drew1) | exact HB.out)⟩⟩
                        · rw [if_neg c15] at H
                          exact absurd H (by simp)
                      · rw [if_neg c14] at H
                        have c14b0 : decide (x8_3 < ((rdOf ByteArray.empty t188 x7_2).size : Int)) = false := decide_eq_false c14
                        clear c14
                        by_cases c21 : (rdOf ByteArray.empty t188 x7_2).toList = ([] : List UInt8)
                        · rw [if_pos c21] at H
                          have c21b0 : ((rdOf ByteArray.empty t188 x7_2).toList == ([] : List UInt8)) = true := beq_iff_eq.mpr c21
                          have c21b1 : ((rdOf ByteArray.empty t188 x7_2).toList != ([] : List UInt8)) = false := bne_eq_false_iff_eq.mpr c21
                          clear c21
                          obtain rfl := Option.some.inj H
                          have p191 : 0 ≤ (x7_2 : Int) := of_decide_eq_true (by first | (with_reducible assumption) | assumption)
                          have q191 : x7_2 < (t188.length : Int) := of_decide_eq_true (by first | (with_reducible assumption) | assumption)
                          obtain ⟨ad191, e191, hx191_0⟩ := Kd.at_string (Kd.R_reads' HO_6.out).2.2 x7_2 p191 q191
                          cases e191
                          replace p191 := eq_true p191
                          replace q191 := eq_true q191
                          have p193 : 0 ≤ (x7_2 : Int) := of_decide_eq_true (by first | (with_reducible assumption) | assumption)
                          have q193 : x7_2 < (t188.length : Int) := of_decide_eq_true (by first | (with_reducible assumption) | assumption)
                          obtain ⟨ad193, e193, hx193_0⟩ := Kd.at_string (Kd.R_reads' HO_6.out).2.2 x7_2 p193 q193
                          obtain rfl : ad191 = ad193 := (by injection e193)
                          replace p193 := eq_true p193
                          replace q193 := eq_true q193
                          go_wp2
                          go_ret
                          exact ⟨by first | rfl | (simp [errW_none, errW_some] <;> rfl) | (simp [*, errW_none, errW_some] <;> rfl), by repeat (first | (with_reducible first | exact HB.out | apply below_alloc | apply pw_below_drewN | apply below_drew1) | exact HB.out)⟩
                        · rw [if_neg c21] at H
                          have c21b0 : ((rdOf ByteArray.empty t188 x7_2).toList == ([] : List UInt8)) = false := beq_eq_false_iff_ne.mpr c21
                          have c21b1 : ((rdOf ByteArray.empty t188 x7_2).toList != ([] : List UInt8)) = true := bne_iff_ne.mpr c21
                          have H' := Aside0.mk H
                          clear H
                          have p191 : 0 ≤ (x7_2 : Int) := of_decide_eq_true (by first | (with_reducible assumption) | assumption)
                          have q191 : x7_2 < (t188.length : Int) := of_decide_eq_true (by first | (with_reducible assumption) | assumption)
                          obtain ⟨ad191, e191, hx191_0⟩ := Kd.at_string (Kd.R_reads' HO_6.out).2.2 x7_2 p191 q191
                          cases e191
                          replace p191 := eq_true p191
                          replace q191 := eq_true q191
                          have p193 : 0 ≤ (x7_2 : Int) := of_decide_eq_true (by first | (with_reducible assumption) | assumption)
                          have q193 : x7_2 < (t188.length : Int) := of_decide_eq_true (by first | (with_reducible assumption) | assumption)
                          obtain ⟨ad193, e193, hx193_0⟩ := Kd.at_string (Kd.R_reads' HO_6.out).2.2 x7_2 p193 q193
                          obtain rfl : ad191 = ad193 := (by injection e193)
                          replace p193 := eq_true p193
                          replace q193 := eq_true q193
                          go_wp2
                          go_roundg k3
                          case measure => have := HJ3.out; have := HK2.out; have := HK3.out; omega
                          case rel => exact ⟨(wrap64 (x7_2 + 1)), (by first | rfl | (simp; done) | (simp [*]; done)), H', ⟨by have := HJ3.out; have := HK2.out; have := HK3.out; omega⟩, ⟨by (with_reducible repeat (first | apply Kd.R_alloc | apply Kd.R_drewN | apply Kd.R_drew)); exact HO_6.out⟩, ⟨by repeat (first | (with_reducible first | exact HB.out | apply below_alloc | apply pw_below_drewN | apply below_drew1) | exact HB.out)⟩⟩
                    · rw [if_neg c13] at H
                      exact absurd H (by simp)
                  · rw [if_neg c12] at H
                    exact absurd H (by simp)
            · rw [if_neg c10] at H
              have c10b0 : decide (x7_2 < (t188.length : Int)) = false := decide_eq_false c10
              clear c10
              by_cases c22 : t187 = true
              · subst c22
                have H1 : (if a0.size + 1 ≤ 9223372036854775807 then (if (a0 ++ (⟨#[35]⟩ : ByteArray)).size + a1.size ≤ 9223372036854775807 then ((words_Words.f ((a0 ++ (⟨#[35]⟩ : ByteArray)) ++ a1)).bind fun t194 => ((feluccaref02_Same.f k2 t194 t188).bind fun t197 => (if t197 = true then (if 1 + a0.size ≤ 9223372036854775807 then (if ((⟨#[32]⟩ : ByteArray) ++ a0).size + 1 ≤ 9223372036854775807 then ((words_Words.f (((⟨#[32]⟩ : ByteArray) ++ a0) ++ (⟨#[9]⟩ : ByteArray))).bind fun t198 => ((feluccaref02_Same.f k2 t198 t188).bind fun t201 => (some t201))) else (none)) else (none)) else (some false)))) else (none)) else (none)) = some r := by rw [if_pos rfl] at H; exact H
                clear H
                have H := H1
                clear H1
                by_cases c23 : a0.size + 1 ≤ 9223372036854775807
                · rw [if_pos c23] at H
                  have c23b0 := eq_true c23
                  have c23b1 : decide (a0.size + 1 ≤ 9223372036854775807) = true := decide_eq_true c23
                  try have c23b2 : (9223372036854775807 < a0.size + 1) = False := eq_false (Nat.not_lt.2 c23)
                  by_cases c24 : (a0 ++ (⟨#[35]⟩ : ByteArray)).size + a1.size ≤ 9223372036854775807
                  · rw [if_pos c24] at H
                    have c24b0 := eq_true c24
                    have c24b1 : decide ((a0 ++ (⟨#[35]⟩ : ByteArray)).size + a1.size ≤ 9223372036854775807) = true := decide_eq_true c24
                    try have c24b2 : (9223372036854775807 < (a0 ++ (⟨#[35]⟩ : ByteArray)).size + a1.size) = False := eq_false (Nat.not_lt.2 c24)
                    have c24n := c24
                    simp only [ByteArray.size_append', sizeLit, List.size_toArray, List.length_cons, List.length_nil, Nat.reduceAdd, Nat.zero_add] at c24n
                    have c24n0 := eq_true c24n
                    have c24n1 := decide_eq_true c24n
                    try have c24n2 := eq_false (Nat.not_lt.2 c24n)
                    replace H := Option.bind_eq_some_iff.mp H
                    obtain ⟨t194, A250, H⟩ := H
                    replace H : ((feluccaref02_Same.f k2 t194 t188).bind fun t197 => (if t197 = true then (if 1 + a0.size ≤ 9223372036854775807 then (if ((⟨#[32]⟩ : ByteArray) ++ a0).size + 1 ≤ 9223372036854775807 then ((words_Words.f (((⟨#[32]⟩ : ByteArray) ++ a0) ++ (⟨#[9]⟩ : ByteArray))).bind fun t198 => ((feluccaref02_Same.f k2 t198 t188).bind fun t201 => (some t201))) else (none)) else (none)) else (some false))) = some r := H
                    have A25 := Aside0.mk A250
                    clear A250
                    replace H := Option.bind_eq_some_iff.mp H
                    obtain ⟨t197, A260, H⟩ := H
                    replace H : (if t197 = true then (if 1 + a0.size ≤ 9223372036854775807 then (if ((⟨#[32]⟩ : ByteArray) ++ a0).size + 1 ≤ 9223372036854775807 then ((words_Words.f (((⟨#[32]⟩ : ByteArray) ++ a0) ++ (⟨#[9]⟩ : ByteArray))).bind fun t198 => ((feluccaref02_Same.f k2 t198 t188).bind fun t201 => (some t201))) else (none)) else (none)) else (some false)) = some r := H
                    have A26 := Aside0.mk A260
                    clear A260
                    by_cases c27 : t197 = true
                    · subst c27
                      have H1 : (if 1 + a0.size ≤ 9223372036854775807 then (if ((⟨#[32]⟩ : ByteArray) ++ a0).size + 1 ≤ 9223372036854775807 then ((words_Words.f (((⟨#[32]⟩ : ByteArray) ++ a0) ++ (⟨#[9]⟩ : ByteArray))).bind fun t198 => ((feluccaref02_Same.f k2 t198 t188).bind fun t201 => (some t201))) else (none)) else (none)) = some r := by rw [if_pos rfl] at H; exact H
                      clear H
                      have H := H1
                      clear H1
                      by_cases c28 : 1 + a0.size ≤ 9223372036854775807
                      · rw [if_pos c28] at H
                        have c28b0 := eq_true c28
                        have c28b1 : decide (1 + a0.size ≤ 9223372036854775807) = true := decide_eq_true c28
                        try have c28b2 : (9223372036854775807 < 1 + a0.size) = False := eq_false (Nat.not_lt.2 c28)
                        by_cases c29 : ((⟨#[32]⟩ : ByteArray) ++ a0).size + 1 ≤ 9223372036854775807
                        · rw [if_pos c29] at H
                          have c29b0 := eq_true c29
                          have c29b1 : decide (((⟨#[32]⟩ : ByteArray) ++ a0).size + 1 ≤ 9223372036854775807) = true := decide_eq_true c29
                          try have c29b2 : (9223372036854775807 < ((⟨#[32]⟩ : ByteArray) ++ a0).size + 1) = False := eq_false (Nat.not_lt.2 c29)
                          have c29n := c29
                          simp only [ByteArray.size_append', sizeLit, List.size_toArray, List.length_cons, List.length_nil, Nat.reduceAdd, Nat.zero_add] at c29n
                          have c29n0 := eq_true c29n
                          have c29n1 := decide_eq_true c29n
                          try have c29n2 := eq_false (Nat.not_lt.2 c29n)
                          replace H := Option.bind_eq_some_iff.mp H
                          obtain ⟨t198, A300, H⟩ := H
                          replace H : ((feluccaref02_Same.f k2 t198 t188).bind fun t201 => (some t201)) = some r := H
                          have A30 := Aside0.mk A300
                          clear A300
                          replace H := Option.bind_eq_some_iff.mp H
                          obtain ⟨t201, A310, H⟩ := H
                          replace H : (some t201) = some r := H
                          have A31 := Aside0.mk A310
                          clear A310
                          obtain rfl := Option.some.inj H
                          obtain ⟨Ao32, co32, eo32⟩ := Kd.R_slice HO_6.out
                          subst eo32
                          go_wp2_with (first | (go_at_call 17; (with_reducible refine (words_Words.calls ((a0 ++ (⟨#[35]⟩ : ByteArray)) ++ a1) t194 _ ?side1 A25.out).mono ?_); (case side1 => exact MaxP.below XMaxP.out (by repeat (first | (with_reducible first | exact HB.out | apply below_alloc | apply pw_below_drewN | apply below_drew1) | exact HB.out))); rintro e w33 ⟨v195, rfl, ho0, hb⟩; have n0_ := Aside0.mk (Kd.R_elder' (by (with_reducible repeat (first | apply Kd.R_alloc | apply Kd.R_drewN | apply Kd.R_drew)); exact HO_6.out) (Kd.R_base ho0) hb); have n1_ := Aside0.mk (Kd.R_lower (Kd.R_new' ho0 (Kd.R_lt (by (with_reducible repeat (first | apply Kd.R_alloc | apply Kd.R_drewN | apply Kd.R_drew)); exact HO_6.out))) (below_size (by repeat (first | (with_reducible first | exact HB.out | apply below_alloc | apply pw_below_drewN | apply below_drew1) | exact HB.out)))); have n2_ := Aside0.mk (below_step (by repeat (first | (with_reducible first | exact HB.out | apply below_alloc | apply pw_below_drewN | apply below_drew1) | exact HB.out)) hb); clear HO_6; clear HB; have HO_6 := n0_; have HO196 := n1_; have HB := n2_; clear n0_ n1_ n2_; (try clear hb); (try clear hb2); (try clear hk); (try clear hi); (try clear ho0); obtain ⟨Ao34, co34, eo34⟩ := Kd.R_slice HO196.out; subst eo34) | (go_at_call 14; (with_reducible refine (feluccaref02_Same.calls k2 _ _ t194 _ _ t188 true _ ?side1 ?side2 ?side3 ?side4 A26.out).mono ?_); (case side1 => repeat (first | exact (Kd.R_reads' HO196.out).2.2 | (with_reducible refine Kd.C_alloc ?_ _) | (with_reducible refine Kd.C_drewN ?_ _) | (with_reducible refine Kd.C_drew ?_))); (case side2 => exact (Kd.R_reads' HO196.out).2.1); (case side3 => repeat (first | exact (Kd.R_reads' HO_6.out).2.2 | (with_reducible refine Kd.C_alloc ?_ _) | (with_reducible refine Kd.C_drewN ?_ _) | (with_reducible refine Kd.C_drew ?_))); (case side4 => exact (Kd.R_reads' HO_6.out).2.1); rintro e w' ⟨rfl, ⟨nd, rfl⟩⟩) | (go_at_call 17; (with_reducible refine (words_Words.calls (((⟨#[32]⟩ : ByteArray) ++ a0) ++ (⟨#[9]⟩ : ByteArray)) t198 _ ?side1 A30.out).mono ?_); (case side1 => exact MaxP.below XMaxP.out (by repeat (first | (with_reducible first | exact HB.out | apply below_alloc | apply pw_below_drewN | apply below_drew1) | exact HB.out))); rintro e w35 ⟨v199, rfl, ho0, hb⟩; have n0_ := Aside0.mk (Kd.R_elder' (by (with_reducible repeat (first | apply Kd.R_alloc | apply Kd.R_drewN | apply Kd.R_drew)); exact HO_6.out) (Kd.R_base ho0) hb); have n1_ := Aside0.mk (Kd.R_elder' (by (with_reducible repeat (first | apply Kd.R_alloc | apply Kd.R_drewN | apply Kd.R_drew)); exact HO196.out) (Kd.R_base ho0) hb); have n2_ := Aside0.mk (Kd.R_lower (Kd.R_new' (Kd.R_new' ho0 (Kd.R_lt (by (with_reducible repeat (first | apply Kd.R_alloc | apply Kd.R_drewN | apply Kd.R_drew)); exact HO_6.out))) (Kd.R_lt (by (with_reducible repeat (first | apply Kd.R_alloc | apply Kd.R_drewN | apply Kd.R_drew)); exact HO196.out))) (below_size (by repeat (first | (with_reducible first | exact HB.out | apply below_alloc | apply pw_below_drewN | apply below_drew1) | exact HB.out)))); have n3_ := Aside0.mk (below_step (by repeat (first | (with_reducible first | exact HB.out | apply below_alloc | apply pw_below_drewN | apply below_drew1) | exact HB.out)) hb); clear HO_6; clear HO196; clear HB; have HO_6 := n0_; have HO196 := n1_; have HO200 := n2_; have HB := n3_; clear n0_ n1_ n2_ n3_; (try clear hb); (try clear hb2); (try clear hk); (try clear hi); (try clear ho0); obtain ⟨Ao36, co36, eo36⟩ := Kd.R_slice HO200.out; subst eo36) | (go_at_call 14; (with_reducible refine (feluccaref02_Same.calls k2 _ _ t198 _ _ t188 t201 _ ?side1 ?side2 ?side3 ?side4 A31.out).mono ?_); (case side1 => repeat (first | exact (Kd.R_reads' HO200.out).2.2 | (with_reducible refine Kd.C_alloc ?_ _) | (with_reducible refine Kd.C_drewN ?_ _) | (with_reducible refine Kd.C_drew ?_))); (case side2 => exact (Kd.R_reads' HO200.out).2.1); (case side3 => repeat (first | exact (Kd.R_reads' HO_6.out).2.2 | (with_reducible refine Kd.C_alloc ?_ _) | (with_reducible refine Kd.C_drewN ?_ _) | (with_reducible refine Kd.C_drew ?_))); (case side4 => exact (Kd.R_reads' HO_6.out).2.1); rintro e w' ⟨rfl, ⟨nd, rfl⟩⟩))
                          go_ret
                          exact ⟨by first | rfl | (simp [errW_none, errW_some] <;> rfl) | (simp [*, errW_none, errW_some] <;> rfl), by repeat (first | (with_reducible first | exact HB.out | apply below_alloc | apply pw_below_drewN | apply below_drew1) | exact HB.out)⟩
                        · rw [if_neg c29] at H
                          exact absurd H (by simp)
                      · rw [if_neg c28] at H
                        exact absurd H (by simp)
                    · replace c27 := Bool.eq_false_iff.mpr c27
                      subst c27
                      have H1 : (some false) = some r := by rw [if_neg (show ¬ (false = true) by decide)] at H; exact H
                      clear H
                      have H := H1
                      clear H1
                      obtain rfl := Option.some.inj H
                      obtain ⟨Ao37, co37, eo37⟩ := Kd.R_slice HO_6.out
                      subst eo37
                      go_wp2_with (first | (go_at_call 17; (with_reducible refine (words_Words.calls ((a0 ++ (⟨#[35]⟩ : ByteArray)) ++ a1) t194 _ ?side1 A25.out).mono ?_); (case side1 => exact MaxP.below XMaxP.out (by repeat (first | (with_reducible first | exact HB.out | apply below_alloc | apply pw_below_drewN | apply below_drew1) | exact HB.out))); rintro e w38 ⟨v195, rfl, ho0, hb⟩; have n0_ := Aside0.mk (Kd.R_elder' (by (with_reducible repeat (first | apply Kd.R_alloc | apply Kd.R_drewN | apply Kd.R_drew)); exact HO_6.out) (Kd.R_base ho0) hb); have n1_ := Aside0.mk (Kd.R_lower (Kd.R_new' ho0 (Kd.R_lt (by (with_reducible repeat (first | apply Kd.R_alloc | apply Kd.R_drewN | apply Kd.R_drew)); exact HO_6.out))) (below_size (by repeat (first | (with_reducible first | exact HB.out | apply below_alloc | apply pw_below_drewN | apply below_drew1) | exact HB.out)))); have n2_ := Aside0.mk (below_step (by repeat (first | (with_reducible first | exact HB.out | apply below_alloc | apply pw_below_drewN | apply below_drew1) | exact HB.out)) hb); clear HO_6; clear HB; have HO_6 := n0_; have HO196 := n1_; have HB := n2_; clear n0_ n1_ n2_; (try clear hb); (try clear hb2); (try clear hk); (try clear hi); (try clear ho0); obtain ⟨Ao39, co39, eo39⟩ := Kd.R_slice HO196.out; subst eo39) | (go_at_call 14; (with_reducible refine (feluccaref02_Same.calls k2 _ _ t194 _ _ t188 false _ ?side1 ?side2 ?side3 ?side4 A26.out).mono ?_); (case side1 => repeat (first | exact (Kd.R_reads' HO196.out).2.2 | (with_reducible refine Kd.C_alloc ?_ _) | (with_reducible refine Kd.C_drewN ?_ _) | (with_reducible refine Kd.C_drew ?_))); (case side2 => exact (Kd.R_reads' HO196.out).2.1); (case side3 => repeat (first | exact (Kd.R_reads' HO_6.out).2.2 | (with_reducible refine Kd.C_alloc ?_ _) | (with_reducible refine Kd.C_drewN ?_ _) | (with_reducible refine Kd.C_drew ?_))); (case side4 => exact (Kd.R_reads' HO_6.out).2.1); rintro e w' ⟨rfl, ⟨nd, rfl⟩⟩))
                      go_ret
                      exact ⟨by first | rfl | (simp [errW_none, errW_some] <;> rfl) | (simp [*, errW_none, errW_some] <;> rfl), by repeat (first | (with_reducible first | exact HB.out | apply below_alloc | apply pw_below_drewN | apply below_drew1) | exact HB.out)⟩
                  · rw [if_neg c24] at H
                    exact absurd H (by simp)
                · rw [if_neg c23] at H
                  exact absurd H (by simp)
              · replace c22 := Bool.eq_false_iff.mpr c22
                subst c22
                have H1 : (some false) = some r := by rw [if_neg (show ¬ (false = true) by decide)] at H; exact H
                clear H
                have H := H1
                clear H1
                obtain rfl := Option.some.inj H
                obtain ⟨Ao40, co40, eo40⟩ := Kd.R_slice HO_6.out
                subst eo40
                go_wp2
                go_ret
                exact ⟨by first | rfl | (simp [errW_none, errW_some] <;> rfl) | (simp [*, errW_none, errW_some] <;> rfl), by repeat (first | (with_reducible first | exact HB.out | apply below_alloc | apply pw_below_drewN | apply below_drew1) | exact HB.out)⟩

end Go.Proofs.YtacdldlnnnahkaaDoor.Pr
