/- A function's plain form and the walk that shows it: written by a program of this session (wip/mkprint.py) out of the translation; Lean checks it. -/
import Derived.Test.YtndijkndllpkgaaDoorP0
import Derived.Test.YtndijkndllpkgaaDoorPfeluccalaw01small
import Derived.Test.YtndijkndllpkgaaDoorPnumCeil
namespace Go.Proofs.YtndijkndllpkgaaDoor.Pr
open Go.RowKit Go.Proofs.YtndijkndllpkgaaDoorW.PrintWords Go.Proofs.YtndijkndllpkgaaDoorW.PrintLast Go.Proofs.YtndijkndllpkgaaDoorW.PrintMore
attribute [local go_sem] max2_int min2_int max_two min_two max_three min_three max_four min_four   -- for this text's walks alone
set_option linter.unusedVariables false
set_option linter.unusedSimpArgs false

/-! ### feluccalaw01_NumCeils: function 5 -/
def feluccalaw01_NumCeils.j0 : Nat → Int → Int → Bool → Int → Bool → Bool → Option (Bool)
  | 0, _, _, _, _, _, _ => none
  | k + 1, x0, x1, x5, x6, x7, x21 => if x21 = true then (if x5 = true then (if x7 = true then (some false) else (some (x6 == 0))) else (some false)) else (if x1 = 0 then (none) else (if (Int.tmod x0 x1) = 0 then (if x5 = true then (if x7 = true then (some (x6 == (wrap64 (Int.tdiv x0 x1)))) else (some false)) else (some false)) else (if x5 = true then (if x7 = true then (some (x6 == (wrap64 ((wrap64 (Int.tdiv x0 x1)) + 1)))) else (some false)) else (some false))))
def feluccalaw01_NumCeils.f (k : Nat) (a0 : Int) (a1 : Int) : Option (Bool) := (feluccalaw01_small.f).bind fun t154 => ((num_Ceil.f a0 a1).bind fun bt155 => (if a0 < 0 then (feluccalaw01_NumCeils.j0 k a0 a1 t154 bt155.1 bt155.2 true) else (feluccalaw01_NumCeils.j0 k a0 a1 t154 bt155.1 bt155.2 (decide (a1 < 1)))))
theorem feluccalaw01_NumCeils.mono_l : ∀ k, (∀ y0 y1 y2 y3 y4 y5, LeO (feluccalaw01_NumCeils.j0 k y0 y1 y2 y3 y4 y5) (feluccalaw01_NumCeils.j0 (k + 1) y0 y1 y2 y3 y4 y5))
  | 0 => fun _ _ _ _ _ _ r h => by simp [feluccalaw01_NumCeils.j0] at h
  | k + 1 => by
    have ih0 := feluccalaw01_NumCeils.mono_l k
    · intro y0 y1 y2 y3 y4 y5
      unfold feluccalaw01_NumCeils.j0
      repeat' first
      | (with_reducible exact ih0 _ _ _ _ _ _)
      | (with_reducible exact LeO.refl _)
      | (with_reducible exact LeO.none _)
      | (with_reducible refine LeO.ite ?_ ?_)
      | (with_reducible refine LeO.bind ?_ (fun _ => ?_))
      | exact ih0 _ _ _ _ _ _
      | exact LeO.none _
      | refine LeO.ite ?_ ?_
      | refine LeO.bind ?_ (fun _ => ?_)
theorem feluccalaw01_NumCeils.mono : ∀ a0 a1 k, LeO (feluccalaw01_NumCeils.f k a0 a1) (feluccalaw01_NumCeils.f (k + 1) a0 a1) := by
  intro a0 a1 k
  have ih0 := feluccalaw01_NumCeils.mono_l k
  unfold feluccalaw01_NumCeils.f
  repeat' first
      | (with_reducible exact ih0 _ _ _ _ _ _)
      | (with_reducible exact LeO.refl _)
      | (with_reducible exact LeO.none _)
      | (with_reducible refine LeO.ite ?_ ?_)
      | (with_reducible refine LeO.bind ?_ (fun _ => ?_))
      | exact ih0 _ _ _ _ _ _
      | exact LeO.none _
      | refine LeO.ite ?_ ?_
      | refine LeO.bind ?_ (fun _ => ?_)
set_option maxHeartbeats 8000000 in
set_option maxRecDepth 100000 in
theorem feluccalaw01_NumCeils.calls (k : Nat) (a0 : Int) (a1 : Int) (r : Bool) (w : World) (ht : TabP w) (h : feluccalaw01_NumCeils.f k a0 a1 = some r) :
    Calls Tryd.prog 5 #[.int .i64 a0, .int .i64 a1] w fun e w' => e = .returned (.bool r) ∧ Below w.heap.size w w' := by
  have HT := Aside0.mk ht
  clear ht
  have HB := Aside0.mk (Below.refl w.heap.size w)
  have H : ((feluccalaw01_small.f).bind fun t154 => ((num_Ceil.f a0 a1).bind fun bt155 => (if a0 < 0 then (feluccalaw01_NumCeils.j0 k a0 a1 t154 bt155.1 bt155.2 true) else (feluccalaw01_NumCeils.j0 k a0 a1 t154 bt155.1 bt155.2 (decide (a1 < 1)))))) = some r := h
  clear h
  replace H := Option.bind_eq_some_iff.mp H
  obtain ⟨t154, A30, H⟩ := H
  replace H : ((num_Ceil.f a0 a1).bind fun bt155 => (if a0 < 0 then (feluccalaw01_NumCeils.j0 k a0 a1 t154 bt155.1 bt155.2 true) else (feluccalaw01_NumCeils.j0 k a0 a1 t154 bt155.1 bt155.2 (decide (a1 < 1))))) = some r := H
  have A3 := Aside0.mk A30
  clear A30
  replace H := Option.bind_eq_some_iff.mp H
  obtain ⟨⟨t155, t156⟩, A40, H⟩ := H
  replace H : (if a0 < 0 then (feluccalaw01_NumCeils.j0 k a0 a1 t154 t155 t156 true) else (feluccalaw01_NumCeils.j0 k a0 a1 t154 t155 t156 (decide (a1 < 1)))) = some r := H
  have A4 := Aside0.mk A40
  clear A40
  have HC5 := Aside0.mk H
  clear H
  go_enter Tryd.func5, Tryd.ntmps5
  go_upto_region 3 with (first | ((with_reducible refine gate_callee (f := 14) rfl ?_); refine goesL_ (some 9) rfl rfl Tryd.func14 (by kernel_rfl) rfl #[] rfl (by (try simp only [List.map_toArray, List.map_cons, List.map_nil]); first | done | rfl | (simp only [List.length_drop, List.length_take]; rfl)) ?_; (with_reducible refine (feluccalaw01_small.calls  t154 _ ?side1 A3.out).mono ?_); (case side1 => exact TabP.below HT.out (by repeat (first | (with_reducible first | exact HB.out | apply below_alloc | apply pw_below_drewN | apply below_drew1) | exact HB.out))); rintro e w6 ⟨rfl, hb⟩; refine ⟨_, rfl, ?_⟩; have n0_ := Aside0.mk (below_step (by repeat (first | (with_reducible first | exact HB.out | apply below_alloc | apply pw_below_drewN | apply below_drew1) | exact HB.out)) hb); clear HB; have HB := n0_; clear n0_; (try clear hb); (try clear hb2); (try clear hk); (try clear hi)) | ((with_reducible refine gate_callee (f := 15) rfl ?_); refine goesL_ (some 13) rfl rfl Tryd.func15 (by kernel_rfl) rfl #[.int .i64 a0, .int .i64 a1] rfl (by (try simp only [List.map_toArray, List.map_cons, List.map_nil]); first | done | rfl | (simp only [List.length_drop, List.length_take]; rfl)) ?_; (with_reducible refine (num_Ceil.calls a0 a1 t155 t156 _ A4.out).mono ?_); rintro e w7 ⟨rfl, hb⟩; refine ⟨_, rfl, ?_⟩; have n0_ := Aside0.mk (below_step (by repeat (first | (with_reducible first | exact HB.out | apply below_alloc | apply pw_below_drewN | apply below_drew1) | exact HB.out)) hb); clear HB; have HB := n0_; clear n0_; (try clear hb); (try clear hb2); (try clear hk); (try clear hi)))
  (try simp only [Act.put, List.setIfInBounds_toArray, List.set_cons_zero, List.set_cons_succ])
  go_cut [21] (fun v21 wc => ∃ (kq : Nat) (x21_4 : Bool), v21 = .bool x21_4 ∧ Aside0 (feluccalaw01_NumCeils.j0 kq a0 a1 t154 t155 t156 x21_4 = some r) ∧ Aside0 (kq ≤ k) ∧ Aside0 (Below w.heap.size w wc))
  case first =>
    have H := HC5.out
    clear HC5
    by_cases c8 : a0 < 0
    · rw [if_pos c8] at H
      have c8b0 : decide (a0 < 0) = true := decide_eq_true c8
      clear c8
      (first | rw [c8b0] | (simp only [i64_w, i32_w]; rw [c8b0]) | skip)
      have H' := Aside0.mk H
      clear H
      go_wp2
      go_meet
      case rel => exact ⟨_, (true), (by first | rfl | (simp; done) | (simp [*]; done)), H', ⟨by first | omega | exact Nat.le_refl _⟩, ⟨by repeat (first | (with_reducible first | exact HB.out | apply below_alloc | apply pw_below_drewN | apply below_drew1) | exact HB.out)⟩⟩
    · rw [if_neg c8] at H
      have c8b0 : decide (a0 < 0) = false := decide_eq_false c8
      clear c8
      (first | rw [c8b0] | (simp only [i64_w, i32_w]; rw [c8b0]) | skip)
      have H' := Aside0.mk H
      clear H
      go_wp2
      go_meet
      case rel => exact ⟨_, (decide (a1 < 1)), (by first | rfl | (simp; done) | (simp [*]; done)), H', ⟨by first | omega | exact Nat.le_refl _⟩, ⟨by repeat (first | (with_reducible first | exact HB.out | apply below_alloc | apply pw_below_drewN | apply below_drew1) | exact HB.out)⟩⟩
  case rest =>
    clear HC5
    try clear c1
    try clear p2
    try clear c5
    try clear c8
    try clear c8b0
    obtain ⟨kq, x21_4, rfl, HA, HJ4, HB⟩ := hcut
    cases kq with
    | zero => exact absurd HA.out (by simp [feluccalaw01_NumCeils.j0])
    | succ kj4 =>
      have H := HA.out
      clear HA
      simp only [feluccalaw01_NumCeils.j0] at H
      by_cases c9 : x21_4 = true
      · subst c9
        have H1 : (if t154 = true then (if t156 = true then (some false) else (some (t155 == 0))) else (some false)) = some r := by rw [if_pos rfl] at H; exact H
        clear H
        have H := H1
        clear H1
        by_cases c10 : t154 = true
        · subst c10
          have H1 : (if t156 = true then (some false) else (some (t155 == 0))) = some r := by rw [if_pos rfl] at H; exact H
          clear H
          have H := H1
          clear H1
          by_cases c11 : t156 = true
          · subst c11
            have H1 : (some false) = some r := by rw [if_pos rfl] at H; exact H
            clear H
            have H := H1
            clear H1
            obtain rfl := Option.some.inj H
            go_wp2
            go_ret
            exact ⟨by first | rfl | (simp [errW_none, errW_some] <;> rfl) | (simp [*, errW_none, errW_some] <;> rfl), by repeat (first | (with_reducible first | exact HB.out | apply below_alloc | apply pw_below_drewN | apply below_drew1) | exact HB.out)⟩
          · replace c11 := Bool.eq_false_iff.mpr c11
            subst c11
            have H1 : (some (t155 == 0)) = some r := by rw [if_neg (show ¬ (false = true) by decide)] at H; exact H
            clear H
            have H := H1
            clear H1
            obtain rfl := Option.some.inj H
            go_wp2
            go_ret
            exact ⟨by first | rfl | (simp [errW_none, errW_some] <;> rfl) | (simp [*, errW_none, errW_some] <;> rfl), by repeat (first | (with_reducible first | exact HB.out | apply below_alloc | apply pw_below_drewN | apply below_drew1) | exact HB.out)⟩
        · replace c10 := Bool.eq_false_iff.mpr c10
          subst c10
          have H1 : (some false) = some r := by rw [if_neg (show ¬ (false = true) by decide)] at H; exact H
          clear H
          have H := H1
          clear H1
          obtain rfl := Option.some.inj H
          go_wp2
          go_ret
          exact ⟨by first | rfl | (simp [errW_none, errW_some] <;> rfl) | (simp [*, errW_none, errW_some] <;> rfl), by repeat (first | (with_reducible first | exact HB.out | apply below_alloc | apply pw_below_drewN | apply below_drew1) | exact HB.out)⟩
      · replace c9 := Bool.eq_false_iff.mpr c9
        subst c9
        have H1 : (if a1 = 0 then (none) else (if (Int.tmod a0 a1) = 0 then (if t154 = true then (if t156 = true then (some (t155 == (wrap64 (Int.tdiv a0 a1)))) else (some false)) else (some false)) else (if t154 = true then (if t156 = true then (some (t155 == (wrap64 ((wrap64 (Int.tdiv a0 a1)) + 1)))) else (some false)) else (some false)))) = some r := by rw [if_neg (show ¬ (false = true) by decide)] at H; exact H
        clear H
        have H := H1
        clear H1
        by_cases c12 : a1 = 0
        · rw [if_pos c12] at H
          exact absurd H (by simp)
        · rw [if_neg c12] at H
          have c12b0 : (a1 == 0) = false := beq_eq_false_iff_ne.mpr c12
          have c12b1 : (a1 != 0) = true := bne_iff_ne.mpr c12
          by_cases c13 : (Int.tmod a0 a1) = 0
          · rw [if_pos c13] at H
            have c13b0 : ((Int.tmod a0 a1) == 0) = true := beq_iff_eq.mpr c13
            have c13b1 : ((Int.tmod a0 a1) != 0) = false := bne_eq_false_iff_eq.mpr c13
            clear c13
            by_cases c14 : t154 = true
            · subst c14
              have H1 : (if t156 = true then (some (t155 == (wrap64 (Int.tdiv a0 a1)))) else (some false)) = some r := by rw [if_pos rfl] at H; exact H
              clear H
              have H := H1
              clear H1
              by_cases c15 : t156 = true
              · subst c15
                have H1 : (some (t155 == (wrap64 (Int.tdiv a0 a1)))) = some r := by rw [if_pos rfl] at H; exact H
                clear H
                have H := H1
                clear H1
                obtain rfl := Option.some.inj H
                go_wp2
                go_ret
                exact ⟨by first | rfl | (simp [errW_none, errW_some] <;> rfl) | (simp [*, errW_none, errW_some] <;> rfl), by repeat (first | (with_reducible first | exact HB.out | apply below_alloc | apply pw_below_drewN | apply below_drew1) | exact HB.out)⟩
              · replace c15 := Bool.eq_false_iff.mpr c15
                subst c15
                have H1 : (some false) = some r := by rw [if_neg (show ¬ (false = true) by decide)] at H; exact H
                clear H
                have H := H1
                clear H1
                obtain rfl := Option.some.inj H
                go_wp2
                go_ret
                exact ⟨by first | rfl | (simp [errW_none, errW_some] <;> rfl) | (simp [*, errW_none, errW_some] <;> rfl), by repeat (first | (with_reducible first | exact HB.out | apply below_alloc | apply pw_below_drewN | apply below_drew1) | exact HB.out)⟩
            · replace c14 := Bool.eq_false_iff.mpr c14
              subst c14
              have H1 : (some false) = some r := by rw [if_neg (show ¬ (false = true) by decide)] at H; exact H
              clear H
              have H := H1
              clear H1
              obtain rfl := Option.some.inj H
              go_wp2
              go_ret
              exact ⟨by first | rfl | (simp [errW_none, errW_some] <;> rfl) | (simp [*, errW_none, errW_some] <;> rfl), by repeat (first | (with_reducible first | exact HB.out | apply below_alloc | apply pw_below_drewN | apply below_drew1) | exact HB.out)⟩
          · rw [if_neg c13] at H
            have c13b0 : ((Int.tmod a0 a1) == 0) = false := beq_eq_false_iff_ne.mpr c13
            have c13b1 : ((Int.tmod a0 a1) != 0) = true := bne_iff_ne.mpr c13
            by_cases c16 : t154 = true
            · subst c16
              have H1 : (if t156 = true then (some (t155 == (wrap64 ((wrap64 (Int.tdiv a0 a1)) + 1)))) else (some false)) = some r := by rw [if_pos rfl] at H; exact H
              clear H
              have H := H1
              clear H1
              by_cases c17 : t156 = true
              · subst c17
                have H1 : (some (t155 == (wrap64 ((wrap64 (Int.tdiv a0 a1)) + 1)))) = some r := by rw [if_pos rfl] at H; exact H
                clear H
                have H := H1
                clear H1
                obtain rfl := Option.some.inj H
                go_wp2
                go_ret
                exact ⟨by first | rfl | (simp [errW_none, errW_some] <;> rfl) | (simp [*, errW_none, errW_some] <;> rfl), by repeat (first | (with_reducible first | exact HB.out | apply below_alloc | apply pw_below_drewN | apply below_drew1) | exact HB.out)⟩
              · replace c17 := Bool.eq_false_iff.mpr c17
                subst c17
                have H1 : (some false) = some r := by rw [if_neg (show ¬ (false = true) by decide)] at H; exact H
                clear H
                have H := H1
                clear H1
                obtain rfl := Option.some.inj H
                go_wp2
                go_ret
                exact ⟨by first | rfl | (simp [errW_none, errW_some] <;> rfl) | (simp [*, errW_none, errW_some] <;> rfl), by repeat (first | (with_reducible first | exact HB.out | apply below_alloc | apply pw_below_drewN | apply below_drew1) | exact HB.out)⟩
            · replace c16 := Bool.eq_false_iff.mpr c16
              subst c16
              have H1 : (some false) = some r := by rw [if_neg (show ¬ (false = true) by decide)] at H; exact H
              clear H
              have H := H1
              clear H1
              obtain rfl := Option.some.inj H
              go_wp2
              go_ret
              exact ⟨by first | rfl | (simp [errW_none, errW_some] <;> rfl) | (simp [*, errW_none, errW_some] <;> rfl), by repeat (first | (with_reducible first | exact HB.out | apply below_alloc | apply pw_below_drewN | apply below_drew1) | exact HB.out)⟩

end Go.Proofs.YtndijkndllpkgaaDoor.Pr
