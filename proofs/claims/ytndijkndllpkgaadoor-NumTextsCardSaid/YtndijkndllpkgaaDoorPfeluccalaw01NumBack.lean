/- A function's plain form and the walk that shows it: written by a program of this session (wip/mkprint.py) out of the translation; Lean checks it. -/
import Derived.Test.YtndijkndllpkgaaDoorP0
import Derived.Test.YtndijkndllpkgaaDoorNumA
import Derived.Test.YtndijkndllpkgaaDoorNumB
import Derived.Test.YtndijkndllpkgaaDoorPfeluccalaw01small
namespace Go.Proofs.YtndijkndllpkgaaDoor.Pr
open Go.RowKit Go.Proofs.YtndijkndllpkgaaDoorW.PrintWords Go.Proofs.YtndijkndllpkgaaDoorW.PrintLast Go.Proofs.YtndijkndllpkgaaDoorW.PrintMore
attribute [local go_sem] max2_int min2_int max_two min_two max_three min_three max_four min_four   -- for this text's walks alone
set_option linter.unusedVariables false
set_option linter.unusedSimpArgs false

/-! ### feluccalaw01_NumBack: function 4 -/
def feluccalaw01_NumBack.j0 : Nat → ByteArray → Int → Bool → Bool → Option (Bool)
  | 0, _, _, _, _ => none
  | k + 1, x1, x2, x7, x48 => if x48 = true then (some false) else ((num_Parse.f x1 x2).bind fun bt151 => (if bt151.2 = true then (if x7 = true then ((num_Text.f bt151.1).bind fun t153 => (if t153.toList = x1.toList then (if bt151.1 ≥ 0 then (some (decide (bt151.1 ≤ x2))) else (some false)) else (some false))) else (some false)) else (if x7 = true then (some (bt151.1 == 0)) else (some false))))
def feluccalaw01_NumBack.f (k : Nat) (a0 : Int) (a1 : ByteArray) (a2 : Int) : Option (Bool) := (feluccalaw01_small.f).bind fun t147 => (if (a1.size : Int) > 200 then (some t147) else ((num_Text.f a0).bind fun t148 => ((num_Parse.f t148 a2).bind fun bt149 => (if a0 ≥ 0 then (if (bt149.2 != (decide (a0 ≤ a2))) = true then (feluccalaw01_NumBack.j0 k a1 a2 t147 true) else (if bt149.2 = true then (if bt149.1 = a0 then (feluccalaw01_NumBack.j0 k a1 a2 t147 false) else (feluccalaw01_NumBack.j0 k a1 a2 t147 true)) else (feluccalaw01_NumBack.j0 k a1 a2 t147 (bt149.1 != 0)))) else (if (bt149.2 != false) = true then (feluccalaw01_NumBack.j0 k a1 a2 t147 true) else (if bt149.2 = true then (if bt149.1 = a0 then (feluccalaw01_NumBack.j0 k a1 a2 t147 false) else (feluccalaw01_NumBack.j0 k a1 a2 t147 true)) else (feluccalaw01_NumBack.j0 k a1 a2 t147 (bt149.1 != 0))))))))
theorem feluccalaw01_NumBack.mono_l : ∀ k, (∀ y0 y1 y2 y3, LeO (feluccalaw01_NumBack.j0 k y0 y1 y2 y3) (feluccalaw01_NumBack.j0 (k + 1) y0 y1 y2 y3))
  | 0 => fun _ _ _ _ r h => by simp [feluccalaw01_NumBack.j0] at h
  | k + 1 => by
    have ih0 := feluccalaw01_NumBack.mono_l k
    · intro y0 y1 y2 y3
      unfold feluccalaw01_NumBack.j0
      repeat' first
      | (with_reducible exact ih0 _ _ _ _)
      | (with_reducible exact LeO.refl _)
      | (with_reducible exact LeO.none _)
      | (with_reducible refine LeO.ite ?_ ?_)
      | (with_reducible refine LeO.bind ?_ (fun _ => ?_))
      | exact ih0 _ _ _ _
      | exact LeO.none _
      | refine LeO.ite ?_ ?_
      | refine LeO.bind ?_ (fun _ => ?_)
theorem feluccalaw01_NumBack.mono : ∀ a0 a1 a2 k, LeO (feluccalaw01_NumBack.f k a0 a1 a2) (feluccalaw01_NumBack.f (k + 1) a0 a1 a2) := by
  intro a0 a1 a2 k
  have ih0 := feluccalaw01_NumBack.mono_l k
  unfold feluccalaw01_NumBack.f
  repeat' first
      | (with_reducible exact ih0 _ _ _ _)
      | (with_reducible exact LeO.refl _)
      | (with_reducible exact LeO.none _)
      | (with_reducible refine LeO.ite ?_ ?_)
      | (with_reducible refine LeO.bind ?_ (fun _ => ?_))
      | exact ih0 _ _ _ _
      | exact LeO.none _
      | refine LeO.ite ?_ ?_
      | refine LeO.bind ?_ (fun _ => ?_)
set_option maxHeartbeats 8000000 in
set_option maxRecDepth 100000 in
theorem feluccalaw01_NumBack.calls (k : Nat) (a0 : Int) (a1 : ByteArray) (a2 : Int) (r : Bool) (w : World) (ht : TabP w) (h : feluccalaw01_NumBack.f k a0 a1 a2 = some r) :
    Calls Tryd.prog 4 #[.int .i64 a0, .string a1, .int .i64 a2] w fun e w' => e = .returned (.bool r) ∧ Below w.heap.size w w' := by
  have HT := Aside0.mk ht
  clear ht
  have HB := Aside0.mk (Below.refl w.heap.size w)
  have H : ((feluccalaw01_small.f).bind fun t147 => (if (a1.size : Int) > 200 then (some t147) else ((num_Text.f a0).bind fun t148 => ((num_Parse.f t148 a2).bind fun bt149 => (if a0 ≥ 0 then (if (bt149.2 != (decide (a0 ≤ a2))) = true then (feluccalaw01_NumBack.j0 k a1 a2 t147 true) else (if bt149.2 = true then (if bt149.1 = a0 then (feluccalaw01_NumBack.j0 k a1 a2 t147 false) else (feluccalaw01_NumBack.j0 k a1 a2 t147 true)) else (feluccalaw01_NumBack.j0 k a1 a2 t147 (bt149.1 != 0)))) else (if (bt149.2 != false) = true then (feluccalaw01_NumBack.j0 k a1 a2 t147 true) else (if bt149.2 = true then (if bt149.1 = a0 then (feluccalaw01_NumBack.j0 k a1 a2 t147 false) else (feluccalaw01_NumBack.j0 k a1 a2 t147 true)) else (feluccalaw01_NumBack.j0 k a1 a2 t147 (bt149.1 != 0))))))))) = some r := h
  clear h
  replace H := Option.bind_eq_some_iff.mp H
  obtain ⟨t147, A40, H⟩ := H
  replace H : (if (a1.size : Int) > 200 then (some t147) else ((num_Text.f a0).bind fun t148 => ((num_Parse.f t148 a2).bind fun bt149 => (if a0 ≥ 0 then (if (bt149.2 != (decide (a0 ≤ a2))) = true then (feluccalaw01_NumBack.j0 k a1 a2 t147 true) else (if bt149.2 = true then (if bt149.1 = a0 then (feluccalaw01_NumBack.j0 k a1 a2 t147 false) else (feluccalaw01_NumBack.j0 k a1 a2 t147 true)) else (feluccalaw01_NumBack.j0 k a1 a2 t147 (bt149.1 != 0)))) else (if (bt149.2 != false) = true then (feluccalaw01_NumBack.j0 k a1 a2 t147 true) else (if bt149.2 = true then (if bt149.1 = a0 then (feluccalaw01_NumBack.j0 k a1 a2 t147 false) else (feluccalaw01_NumBack.j0 k a1 a2 t147 true)) else (feluccalaw01_NumBack.j0 k a1 a2 t147 (bt149.1 != 0)))))))) = some r := H
  have A4 := Aside0.mk A40
  clear A40
  by_cases c5 : (a1.size : Int) > 200
  · rw [if_pos c5] at H
    have c5b0 : decide (200 < (a1.size : Int)) = true := decide_eq_true c5
    have c5b1 : decide (200 < a1.size) = true := decide_eq_true (by omega)
    clear c5
    obtain rfl := Option.some.inj H
    go_enter Tryd.func4, Tryd.ntmps4
    go_wp2_with (first | ((with_reducible refine gate_callee (f := 14) rfl ?_); refine goesL_ (some 12) rfl rfl Tryd.func14 (by kernel_rfl) rfl #[] rfl (by (try simp only [List.map_toArray, List.map_cons, List.map_nil]); first | done | rfl | (simp only [List.length_drop, List.length_take]; rfl)) ?_; (with_reducible refine (feluccalaw01_small.calls  t147 _ ?side1 A4.out).mono ?_); (case side1 => exact TabP.below HT.out (by repeat (first | (with_reducible first | exact HB.out | apply below_alloc | apply pw_below_drewN | apply below_drew1) | exact HB.out))); rintro e w6 ⟨rfl, hb⟩; refine ⟨_, rfl, ?_⟩; have n0_ := Aside0.mk (below_step (by repeat (first | (with_reducible first | exact HB.out | apply below_alloc | apply pw_below_drewN | apply below_drew1) | exact HB.out)) hb); clear HB; have HB := n0_; clear n0_; (try clear hb); (try clear hb2); (try clear hk); (try clear hi)))
    go_ret
    exact ⟨by first | rfl | (simp [errW_none, errW_some] <;> rfl) | (simp [*, errW_none, errW_some] <;> rfl), by repeat (first | (with_reducible first | exact HB.out | apply below_alloc | apply pw_below_drewN | apply below_drew1) | exact HB.out)⟩
  · rw [if_neg c5] at H
    have c5b0 : decide (200 < (a1.size : Int)) = false := decide_eq_false c5
    have c5b1 : decide (200 < a1.size) = false := decide_eq_false (by omega)
    clear c5
    replace H := Option.bind_eq_some_iff.mp H
    obtain ⟨t148, A70, H⟩ := H
    replace H : ((num_Parse.f t148 a2).bind fun bt149 => (if a0 ≥ 0 then (if (bt149.2 != (decide (a0 ≤ a2))) = true then (feluccalaw01_NumBack.j0 k a1 a2 t147 true) else (if bt149.2 = true then (if bt149.1 = a0 then (feluccalaw01_NumBack.j0 k a1 a2 t147 false) else (feluccalaw01_NumBack.j0 k a1 a2 t147 true)) else (feluccalaw01_NumBack.j0 k a1 a2 t147 (bt149.1 != 0)))) else (if (bt149.2 != false) = true then (feluccalaw01_NumBack.j0 k a1 a2 t147 true) else (if bt149.2 = true then (if bt149.1 = a0 then (feluccalaw01_NumBack.j0 k a1 a2 t147 false) else (feluccalaw01_NumBack.j0 k a1 a2 t147 true)) else (feluccalaw01_NumBack.j0 k a1 a2 t147 (bt149.1 != 0)))))) = some r := H
    have A7 := Aside0.mk A70
    clear A70
    replace H := Option.bind_eq_some_iff.mp H
    obtain ⟨⟨t149, t150⟩, A80, H⟩ := H
    replace H : (if a0 ≥ 0 then (if (t150 != (decide (a0 ≤ a2))) = true then (feluccalaw01_NumBack.j0 k a1 a2 t147 true) else (if t150 = true then (if t149 = a0 then (feluccalaw01_NumBack.j0 k a1 a2 t147 false) else (feluccalaw01_NumBack.j0 k a1 a2 t147 true)) else (feluccalaw01_NumBack.j0 k a1 a2 t147 (t149 != 0)))) else (if (t150 != false) = true then (feluccalaw01_NumBack.j0 k a1 a2 t147 true) else (if t150 = true then (if t149 = a0 then (feluccalaw01_NumBack.j0 k a1 a2 t147 false) else (feluccalaw01_NumBack.j0 k a1 a2 t147 true)) else (feluccalaw01_NumBack.j0 k a1 a2 t147 (t149 != 0))))) = some r := H
    have A8 := Aside0.mk A80
    clear A80
    have HC9 := Aside0.mk H
    clear H
    go_enter Tryd.func4, Tryd.ntmps4
    go_upto_region 5 with (first | ((with_reducible refine gate_callee (f := 14) rfl ?_); refine goesL_ (some 12) rfl rfl Tryd.func14 (by kernel_rfl) rfl #[] rfl (by (try simp only [List.map_toArray, List.map_cons, List.map_nil]); first | done | rfl | (simp only [List.length_drop, List.length_take]; rfl)) ?_; (with_reducible refine (feluccalaw01_small.calls  t147 _ ?side1 A4.out).mono ?_); (case side1 => exact TabP.below HT.out (by repeat (first | (with_reducible first | exact HB.out | apply below_alloc | apply pw_below_drewN | apply below_drew1) | exact HB.out))); rintro e w10 ⟨rfl, hb⟩; refine ⟨_, rfl, ?_⟩; have n0_ := Aside0.mk (below_step (by repeat (first | (with_reducible first | exact HB.out | apply below_alloc | apply pw_below_drewN | apply below_drew1) | exact HB.out)) hb); clear HB; have HB := n0_; clear n0_; (try clear hb); (try clear hb2); (try clear hk); (try clear hi)) | ((with_reducible refine gate_callee (f := 23) rfl ?_); refine goesL_ (some 19) rfl rfl Tryd.func23 (by kernel_rfl) rfl #[.int .i64 a0] rfl (by (try simp only [List.map_toArray, List.map_cons, List.map_nil]); first | done | rfl | (simp only [List.length_drop, List.length_take]; rfl)) ?_; (with_reducible refine (num_Text.calls a0 t148 _ ?side1 A7.out).mono ?_); (case side1 => exact TabP.below HT.out (by repeat (first | (with_reducible first | exact HB.out | apply below_alloc | apply pw_below_drewN | apply below_drew1) | exact HB.out))); rintro e w11 ⟨rfl, hb⟩; refine ⟨_, rfl, ?_⟩; have n0_ := Aside0.mk (below_step (by repeat (first | (with_reducible first | exact HB.out | apply below_alloc | apply pw_below_drewN | apply below_drew1) | exact HB.out)) hb); clear HB; have HB := n0_; clear n0_; (try clear hb); (try clear hb2); (try clear hk); (try clear hi)) | ((with_reducible refine gate_callee (f := 17) rfl ?_); refine goesL_ (some 21) rfl rfl Tryd.func17 (by kernel_rfl) rfl #[.string t148, .int .i64 a2] rfl (by (try simp only [List.map_toArray, List.map_cons, List.map_nil]); first | done | rfl | (simp only [List.length_drop, List.length_take]; rfl)) ?_; (with_reducible refine (num_Parse.calls t148 a2 t149 t150 _ A8.out).mono ?_); rintro e w12 ⟨rfl, hb⟩; refine ⟨_, rfl, ?_⟩; have n0_ := Aside0.mk (below_step (by repeat (first | (with_reducible first | exact HB.out | apply below_alloc | apply pw_below_drewN | apply below_drew1) | exact HB.out)) hb); clear HB; have HB := n0_; clear n0_; (try clear hb); (try clear hb2); (try clear hk); (try clear hi)))
    (try simp only [Act.put, List.setIfInBounds_toArray, List.set_cons_zero, List.set_cons_succ])
    go_cut [48] (fun v48 wc => ∃ (kq : Nat) (x48_8 : Bool), v48 = .bool x48_8 ∧ Aside0 (feluccalaw01_NumBack.j0 kq a1 a2 t147 x48_8 = some r) ∧ Aside0 (kq ≤ k) ∧ Aside0 (Below w.heap.size w wc))
    case first =>
      have H := HC9.out
      clear HC9
      by_cases c13 : a0 ≥ 0
      · rw [if_pos c13] at H
        have c13b0 : decide (0 ≤ a0) = true := decide_eq_true c13
        clear c13
        (first | rw [c13b0] | (simp only [i64_w, i32_w]; rw [c13b0]) | skip)
        by_cases c14 : (t150 != (decide (a0 ≤ a2))) = true
        · rw [if_pos c14] at H
          have c14b0 : (t150 != (decide (a0 ≤ a2))) = true := c14
          (try (have c14b1 : decide (t150 = (decide (a0 ≤ a2))) = false := by simpa using c14))
          (try (have c14b2 : (t150 == (decide (a0 ≤ a2))) = false := by simpa using c14))
          (try (have c14b3 : ¬ (t150 = (decide (a0 ≤ a2))) := by simpa using c14))
          clear c14
          have H' := Aside0.mk H
          clear H
          go_wp2
          go_meet
          case rel => exact ⟨_, (true), (by first | rfl | (simp; done) | (simp [*]; done)), H', ⟨by first | omega | exact Nat.le_refl _⟩, ⟨by repeat (first | (with_reducible first | exact HB.out | apply below_alloc | apply pw_below_drewN | apply below_drew1) | exact HB.out)⟩⟩
        · rw [if_neg c14] at H
          have c14b0 : (t150 != (decide (a0 ≤ a2))) = false := by simpa using c14
          (try (have c14b1 : decide (t150 = (decide (a0 ≤ a2))) = true := by simpa using c14))
          (try (have c14b2 : (t150 == (decide (a0 ≤ a2))) = true := by simpa using c14))
          clear c14
          by_cases c15 : t150 = true
          · subst c15
            have H1 : (if t149 = a0 then (feluccalaw01_NumBack.j0 k a1 a2 t147 false) else (feluccalaw01_NumBack.j0 k a1 a2 t147 true)) = some r := by rw [if_pos rfl] at H; exact H
            clear H
            have H := H1
            clear H1
            by_cases c16 : t149 = a0
            · rw [if_pos c16] at H
              have c16b0 : (t149 == a0) = true := beq_iff_eq.mpr c16
              have c16b1 : (t149 != a0) = false := bne_eq_false_iff_eq.mpr c16
              clear c16
              have H' := Aside0.mk H
              clear H
              go_wp2
              go_meet
              case rel => exact ⟨_, (false), (by first | rfl | (simp; done) | (simp [*]; done)), H', ⟨by first | omega | exact Nat.le_refl _⟩, ⟨by repeat (first | (with_reducible first | exact HB.out | apply below_alloc | apply pw_below_drewN | apply below_drew1) | exact HB.out)⟩⟩
            · rw [if_neg c16] at H
              have c16b0 : (t149 == a0) = false := beq_eq_false_iff_ne.mpr c16
              have c16b1 : (t149 != a0) = true := bne_iff_ne.mpr c16
              have H' := Aside0.mk H
              clear H
              go_wp2
              go_meet
              case rel => exact ⟨_, (true), (by first | rfl | (simp; done) | (simp [*]; done)), H', ⟨by first | omega | exact Nat.le_refl _⟩, ⟨by repeat (first | (with_reducible first | exact HB.out | apply below_alloc | apply pw_below_drewN | apply below_drew1) | exact HB.out)⟩⟩
          · replace c15 := Bool.eq_false_iff.mpr c15
            subst c15
            have H1 : (feluccalaw01_NumBack.j0 k a1 a2 t147 (t149 != 0)) = some r := by rw [if_neg (show ¬ (false = true) by decide)] at H; exact H
            clear H
            have H := H1
            clear H1
            have H' := Aside0.mk H
            clear H
            go_wp2
            go_meet
            case rel => exact ⟨_, ((t149 != 0)), (by first | rfl | (simp; done) | (simp [*]; done)), H', ⟨by first | omega | exact Nat.le_refl _⟩, ⟨by repeat (first | (with_reducible first | exact HB.out | apply below_alloc | apply pw_below_drewN | apply below_drew1) | exact HB.out)⟩⟩
      · rw [if_neg c13] at H
        have c13b0 : decide (0 ≤ a0) = false := decide_eq_false c13
        clear c13
        (first | rw [c13b0] | (simp only [i64_w, i32_w]; rw [c13b0]) | skip)
        by_cases c17 : (t150 != false) = true
        · rw [if_pos c17] at H
          have c17b0 : (t150 != false) = true := c17
          (try (have c17b1 : decide (t150 = false) = false := by simpa using c17))
          (try (have c17b2 : (t150 == false) = false := by simpa using c17))
          (try (have c17b3 : ¬ (t150 = false) := by simpa using c17))
          clear c17
          have H' := Aside0.mk H
          clear H
          go_wp2
          go_meet
          case rel => exact ⟨_, (true), (by first | rfl | (simp; done) | (simp [*]; done)), H', ⟨by first | omega | exact Nat.le_refl _⟩, ⟨by repeat (first | (with_reducible first | exact HB.out | apply below_alloc | apply pw_below_drewN | apply below_drew1) | exact HB.out)⟩⟩
        · rw [if_neg c17] at H
          have c17b0 : (t150 != false) = false := by simpa using c17
          (try (have c17b1 : decide (t150 = false) = true := by simpa using c17))
          (try (have c17b2 : (t150 == false) = true := by simpa using c17))
          clear c17
          by_cases c18 : t150 = true
          · subst c18
            have H1 : (if t149 = a0 then (feluccalaw01_NumBack.j0 k a1 a2 t147 false) else (feluccalaw01_NumBack.j0 k a1 a2 t147 true)) = some r := by rw [if_pos rfl] at H; exact H
            clear H
            have H := H1
            clear H1
            by_cases c19 : t149 = a0
            · rw [if_pos c19] at H
              have c19b0 : (t149 == a0) = true := beq_iff_eq.mpr c19
              have c19b1 : (t149 != a0) = false := bne_eq_false_iff_eq.mpr c19
              clear c19
              have H' := Aside0.mk H
              clear H
              go_wp2
              go_meet
              case rel => exact ⟨_, (false), (by first | rfl | (simp; done) | (simp [*]; done)), H', ⟨by first | omega | exact Nat.le_refl _⟩, ⟨by repeat (first | (with_reducible first | exact HB.out | apply below_alloc | apply pw_below_drewN | apply below_drew1) | exact HB.out)⟩⟩
            · rw [if_neg c19] at H
              have c19b0 : (t149 == a0) = false := beq_eq_false_iff_ne.mpr c19
              have c19b1 : (t149 != a0) = true := bne_iff_ne.mpr c19
              have H' := Aside0.mk H
              clear H
              go_wp2
              go_meet
              case rel => exact ⟨_, (true), (by first | rfl | (simp; done) | (simp [*]; done)), H', ⟨by first | omega | exact Nat.le_refl _⟩, ⟨by repeat (first | (with_reducible first | exact HB.out | apply below_alloc | apply pw_below_drewN | apply below_drew1) | exact HB.out)⟩⟩
          · replace c18 := Bool.eq_false_iff.mpr c18
            subst c18
            have H1 : (feluccalaw01_NumBack.j0 k a1 a2 t147 (t149 != 0)) = some r := by rw [if_neg (show ¬ (false = true) by decide)] at H; exact H
            clear H
            have H := H1
            clear H1
            have H' := Aside0.mk H
            clear H
            go_wp2
            go_meet
            case rel => exact ⟨_, ((t149 != 0)), (by first | rfl | (simp; done) | (simp [*]; done)), H', ⟨by first | omega | exact Nat.le_refl _⟩, ⟨by repeat (first | (with_reducible first | exact HB.out | apply below_alloc | apply pw_below_drewN | apply below_drew1) | exact HB.out)⟩⟩
    case rest =>
      clear HC9
      try clear c1
      try clear c2
      try clear p2
      try clear c4
      try clear c5
      try clear c5b0
      try clear c5b1
      try clear c13
      try clear c13b0
      try clear c14
      try clear c14b0
      try clear c14b1
      try clear c14b2
      try clear c15
      try clear c16
      try clear c16b0
      try clear c16b1
      try clear c17
      try clear c17b0
      try clear c17b1
      try clear c17b2
      try clear c18
      try clear c19
      try clear c19b0
      try clear c19b1
      obtain ⟨kq, x48_8, rfl, HA, HJ8, HB⟩ := hcut
      cases kq with
      | zero => exact absurd HA.out (by simp [feluccalaw01_NumBack.j0])
      | succ kj8 =>
        have H := HA.out
        clear HA
        simp only [feluccalaw01_NumBack.j0] at H
        by_cases c20 : x48_8 = true
        · subst c20
          have H1 : (some false) = some r := by rw [if_pos rfl] at H; exact H
          clear H
          have H := H1
          clear H1
          obtain rfl := Option.some.inj H
          go_wp2
          go_ret
          exact ⟨by first | rfl | (simp [errW_none, errW_some] <;> rfl) | (simp [*, errW_none, errW_some] <;> rfl), by repeat (first | (with_reducible first | exact HB.out | apply below_alloc | apply pw_below_drewN | apply below_drew1) | exact HB.out)⟩
        · replace c20 := Bool.eq_false_iff.mpr c20
          subst c20
          have H1 : ((num_Parse.f a1 a2).bind fun bt151 => (if bt151.2 = true then (if t147 = true then ((num_Text.f bt151.1).bind fun t153 => (if t153.toList = a1.toList then (if bt151.1 ≥ 0 then (some (decide (bt151.1 ≤ a2))) else (some false)) else (some false))) else (some false)) else (if t147 = true then (some (bt151.1 == 0)) else (some false)))) = some r := by rw [if_neg (show ¬ (false = true) by decide)] at H; exact H
          clear H
          have H := H1
          clear H1
          replace H := Option.bind_eq_some_iff.mp H
          obtain ⟨⟨t151, t152⟩, A210, H⟩ := H
          replace H : (if t152 = true then (if t147 = true then ((num_Text.f t151).bind fun t153 => (if t153.toList = a1.toList then (if t151 ≥ 0 then (some (decide (t151 ≤ a2))) else (some false)) else (some false))) else (some false)) else (if t147 = true then (some (t151 == 0)) else (some false))) = some r := H
          have A21 := Aside0.mk A210
          clear A210
          by_cases c22 : t152 = true
          · subst c22
            have H1 : (if t147 = true then ((num_Text.f t151).bind fun t153 => (if t153.toList = a1.toList then (if t151 ≥ 0 then (some (decide (t151 ≤ a2))) else (some false)) else (some false))) else (some false)) = some r := by rw [if_pos rfl] at H; exact H
            clear H
            have H := H1
            clear H1
            by_cases c23 : t147 = true
            · subst c23
              have H1 : ((num_Text.f t151).bind fun t153 => (if t153.toList = a1.toList then (if t151 ≥ 0 then (some (decide (t151 ≤ a2))) else (some false)) else (some false))) = some r := by rw [if_pos rfl] at H; exact H
              clear H
              have H := H1
              clear H1
              replace H := Option.bind_eq_some_iff.mp H
              obtain ⟨t153, A240, H⟩ := H
              replace H : (if t153.toList = a1.toList then (if t151 ≥ 0 then (some (decide (t151 ≤ a2))) else (some false)) else (some false)) = some r := H
              have A24 := Aside0.mk A240
              clear A240
              by_cases c25 : t153.toList = a1.toList
              · rw [if_pos c25] at H
                have c25b0 : (t153.toList == a1.toList) = true := beq_iff_eq.mpr c25
                have c25b1 : (t153.toList != a1.toList) = false := bne_eq_false_iff_eq.mpr c25
                clear c25
                by_cases c26 : t151 ≥ 0
                · rw [if_pos c26] at H
                  have c26b0 : decide (0 ≤ t151) = true := decide_eq_true c26
                  clear c26
                  obtain rfl := Option.some.inj H
                  go_wp2_with (first | ((with_reducible refine gate_callee (f := 17) rfl ?_); refine goesL_ (some 52) rfl rfl Tryd.func17 (by kernel_rfl) rfl #[.string a1, .int .i64 a2] rfl (by (try simp only [List.map_toArray, List.map_cons, List.map_nil]); first | done | rfl | (simp only [List.length_drop, List.length_take]; rfl)) ?_; (with_reducible refine (num_Parse.calls a1 a2 t151 true _ A21.out).mono ?_); rintro e w27 ⟨rfl, hb⟩; refine ⟨_, rfl, ?_⟩; have n0_ := Aside0.mk (below_step (by repeat (first | (with_reducible first | exact HB.out | apply below_alloc | apply pw_below_drewN | apply below_drew1) | exact HB.out)) hb); clear HB; have HB := n0_; clear n0_; (try clear hb); (try clear hb2); (try clear hk); (try clear hi)) | (go_at_call 23; (with_reducible refine (num_Text.calls t151 t153 _ ?side1 A24.out).mono ?_); (case side1 => exact TabP.below HT.out (by repeat (first | (with_reducible first | exact HB.out | apply below_alloc | apply pw_below_drewN | apply below_drew1) | exact HB.out))); rintro e w28 ⟨rfl, hb⟩; have n0_ := Aside0.mk (below_step (by repeat (first | (with_reducible first | exact HB.out | apply below_alloc | apply pw_below_drewN | apply below_drew1) | exact HB.out)) hb); clear HB; have HB := n0_; clear n0_; (try clear hb); (try clear hb2); (try clear hk); (try clear hi)))
                  go_ret
                  exact ⟨by first | rfl | (simp [errW_none, errW_some] <;> rfl) | (simp [*, errW_none, errW_some] <;> rfl), by repeat (first | (with_reducible first | exact HB.out | apply below_alloc | apply pw_below_drewN | apply below_drew1) | exact HB.out)⟩
                · rw [if_neg c26] at H
                  have c26b0 : decide (0 ≤ t151) = false := decide_eq_false c26
                  clear c26
                  obtain rfl := Option.some.inj H
                  go_wp2_with (first | ((with_reducible refine gate_callee (f := 17) rfl ?_); refine goesL_ (some 52) rfl rfl Tryd.func17 (by kernel_rfl) rfl #[.string a1, .int .i64 a2] rfl (by (try simp only [List.map_toArray, List.map_cons, List.map_nil]); first | done | rfl | (simp only [List.length_drop, List.length_take]; rfl)) ?_; (with_reducible refine (num_Parse.calls a1 a2 t151 true _ A21.out).mono ?_); rintro e w29 ⟨rfl, hb⟩; refine ⟨_, rfl, ?_⟩; have n0_ := Aside0.mk (below_step (by repeat (first | (with_reducible first | exact HB.out | apply below_alloc | apply pw_below_drewN | apply below_drew1) | exact HB.out)) hb); clear HB; have HB := n0_; clear n0_; (try clear hb); (try clear hb2); (try clear hk); (try clear hi)) | (go_at_call 23; (with_reducible refine (num_Text.calls t151 t153 _ ?side1 A24.out).mono ?_); (case side1 => exact TabP.below HT.out (by repeat (first | (with_reducible first | exact HB.out | apply below_alloc | apply pw_below_drewN | apply below_drew1) | exact HB.out))); rintro e w30 ⟨rfl, hb⟩; have n0_ := Aside0.mk (below_step (by repeat (first | (with_reducible first | exact HB.out | apply below_alloc | apply pw_below_drewN | apply below_drew1) | exact HB.out)) hb); clear HB; have HB := n0_; clear n0_; (try clear hb); (try clear hb2); (try clear hk); (try clear hi)))
                  go_ret
                  exact ⟨by first | rfl | (simp [errW_none, errW_some] <;> rfl) | (simp [*, errW_none, errW_some] <;> rfl), by repeat (first | (with_reducible first | exact HB.out | apply below_alloc | apply pw_below_drewN | apply below_drew1) | exact HB.out)⟩
              · rw [if_neg c25] at H
                have c25b0 : (t153.toList == a1.toList) = false := beq_eq_false_iff_ne.mpr c25
                have c25b1 : (t153.toList != a1.toList) = true := bne_iff_ne.mpr c25
                obtain rfl := Option.some.inj H
                go_wp2_with (first | ((with_reducible refine gate_callee (f := 17) rfl ?_); refine goesL_ (some 52) rfl rfl Tryd.func17 (by kernel_rfl) rfl #[.string a1, .int .i64 a2] rfl (by (try simp only [List.map_toArray, List.map_cons, List.map_nil]); first | done | rfl | (simp only [List.length_drop, List.length_take]; rfl)) ?_; (with_reducible refine (num_Parse.calls a1 a2 t151 true _ A21.out).mono ?_); rintro e w31 ⟨rfl, hb⟩; refine ⟨_, rfl, ?_⟩; have n0_ := Aside0.mk (below_step (by repeat (first | (with_reducible first | exact HB.out | apply below_alloc | apply pw_below_drewN | apply below_drew1) | exact HB.out)) hb); clear HB; have HB := n0_; clear n0_; (try clear hb); (try clear hb2); (try clear hk); (try clear hi)) | (go_at_call 23; (with_reducible refine (num_Text.calls t151 t153 _ ?side1 A24.out).mono ?_); (case side1 => exact TabP.below HT.out (by repeat (first | (with_reducible first | exact HB.out | apply below_alloc | apply pw_below_drewN | apply below_drew1) | exact HB.out))); rintro e w32 ⟨rfl, hb⟩; have n0_ := Aside0.mk (below_step (by repeat (first | (with_reducible first | exact HB.out | apply below_alloc | apply pw_below_drewN | apply below_drew1) | exact HB.out)) hb); clear HB; have HB := n0_; clear n0_; (try clear hb); (try clear hb2); (try clear hk); (try clear hi)))
                go_ret
                exact ⟨by first | rfl | (simp [errW_none, errW_some] <;> rfl) | (simp [*, errW_none, errW_some] <;> rfl), by repeat (first | (with_reducible first | exact HB.out | apply below_alloc | apply pw_below_drewN | apply below_drew1) | exact HB.out)⟩
            · replace c23 := Bool.eq_false_iff.mpr c23
              subst c23
              have H1 : (some false) = some r := by rw [if_neg (show ¬ (false = true) by decide)] at H; exact H
              clear H
              have H := H1
              clear H1
              obtain rfl := Option.some.inj H
              go_wp2_with (first | ((with_reducible refine gate_callee (f := 17) rfl ?_); refine goesL_ (some 52) rfl rfl Tryd.func17 (by kernel_rfl) rfl #[.string a1, .int .i64 a2] rfl (by (try simp only [List.map_toArray, List.map_cons, List.map_nil]); first | done | rfl | (simp only [List.length_drop, List.length_take]; rfl)) ?_; (with_reducible refine (num_Parse.calls a1 a2 t151 true _ A21.out).mono ?_); rintro e w33 ⟨rfl, hb⟩; refine ⟨_, rfl, ?_⟩; have n0_ := Aside0.mk (below_step (by repeat (first | (with_reducible first | exact HB.out | apply below_alloc | apply pw_below_drewN | apply below_drew1) | exact HB.out)) hb); clear HB; have HB := n0_; clear n0_; (try clear hb); (try clear hb2); (try clear hk); (try clear hi)))
              go_ret
              exact ⟨by first | rfl | (simp [errW_none, errW_some] <;> rfl) | (simp [*, errW_none, errW_some] <;> rfl), by repeat (first | (with_reducible first | exact HB.out | apply below_alloc | apply pw_below_drewN | apply below_drew1) | exact HB.out)⟩
          · replace c22 := Bool.eq_false_iff.mpr c22
            subst c22
            have H1 : (if t147 = true then (some (t151 == 0)) else (some false)) = some r := by rw [if_neg (show ¬ (false = true) by decide)] at H; exact H
            clear H
            have H := H1
            clear H1
            by_cases c34 : t147 = true
            · subst c34
              have H1 : (some (t151 == 0)) = some r := by rw [if_pos rfl] at H; exact H
              clear H
              have H := H1
              clear H1
              obtain rfl := Option.some.inj H
              go_wp2_with (first | ((with_reducible refine gate_callee (f := 17) rfl ?_); refine goesL_ (some 52) rfl rfl Tryd.func17 (by kernel_rfl) rfl #[.string a1, .int .i64 a2] rfl (by (try simp only [List.map_toArray, List.map_cons, List.map_nil]); first | done | rfl | (simp only [List.length_drop, List.length_take]; rfl)) ?_; (with_reducible refine (num_Parse.calls a1 a2 t151 false _ A21.out).mono ?_); rintro e w35 ⟨rfl, hb⟩; refine ⟨_, rfl, ?_⟩; have n0_ := Aside0.mk (below_step (by repeat (first | (with_reducible first | exact HB.out | apply below_alloc | apply pw_below_drewN | apply below_drew1) | exact HB.out)) hb); clear HB; have HB := n0_; clear n0_; (try clear hb); (try clear hb2); (try clear hk); (try clear hi)))
              go_ret
              exact ⟨by first | rfl | (simp [errW_none, errW_some] <;> rfl) | (simp [*, errW_none, errW_some] <;> rfl), by repeat (first | (with_reducible first | exact HB.out | apply below_alloc | apply pw_below_drewN | apply below_drew1) | exact HB.out)⟩
            · replace c34 := Bool.eq_false_iff.mpr c34
              subst c34
              have H1 : (some false) = some r := by rw [if_neg (show ¬ (false = true) by decide)] at H; exact H
              clear H
              have H := H1
              clear H1
              obtain rfl := Option.some.inj H
              go_wp2_with (first | ((with_reducible refine gate_callee (f := 17) rfl ?_); refine goesL_ (some 52) rfl rfl Tryd.func17 (by kernel_rfl) rfl #[.string a1, .int .i64 a2] rfl (by (try simp only [List.map_toArray, List.map_cons, List.map_nil]); first | done | rfl | (simp only [List.length_drop, List.length_take]; rfl)) ?_; (with_reducible refine (num_Parse.calls a1 a2 t151 false _ A21.out).mono ?_); rintro e w36 ⟨rfl, hb⟩; refine ⟨_, rfl, ?_⟩; have n0_ := Aside0.mk (below_step (by repeat (first | (with_reducible first | exact HB.out | apply below_alloc | apply pw_below_drewN | apply below_drew1) | exact HB.out)) hb); clear HB; have HB := n0_; clear n0_; (try clear hb); (try clear hb2); (try clear hk); (try clear hi)))
              go_ret
              exact ⟨by first | rfl | (simp [errW_none, errW_some] <;> rfl) | (simp [*, errW_none, errW_some] <;> rfl), by repeat (first | (with_reducible first | exact HB.out | apply below_alloc | apply pw_below_drewN | apply below_drew1) | exact HB.out)⟩

end Go.Proofs.YtndijkndllpkgaaDoor.Pr
