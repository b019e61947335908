import Derived.Test.YtndijkndllpkgaaDoorWalkAB
/- The walk of feluccaref02.Same by explicit steps (wip/xw.py). -/
namespace Go.Proofs.YtndijkndllpkgaaDoor.Pr
open Go.RowKit Go.Proofs.YtndijkndllpkgaaDoorW.PrintWords Go.Proofs.YtndijkndllpkgaaDoorW.PrintLast Go.Proofs.YtndijkndllpkgaaDoorW.PrintMore Go.Proofs.YtndijkndllpkgaaDoor.X
set_option linter.unusedVariables false
set_option linter.unusedSimpArgs false
theorem feluccaref02_Same.sz9 : (Tryd.prog.info? 9).map (·.size) = some 1 := by
  kernel_rfl
def feluccaref02_Same.T6 : Bool × List (List Nat × List Nat) := (true, [([], []), ([], []), ([0, 1], [0, 1]), ([2], [2]), ([], []), ([], []), ([4, 5], [4, 5]), ([6], [6]), ([3, 7], [3, 7])])
def feluccaref02_Same.B6 : List Nat := [0, 0, 3, 7, 0, 0, 48, 112, 255]
theorem feluccaref02_Same.tab6 : rtab .any (opsOf Tryd.f32 6) = feluccaref02_Same.T6 := by kernel_rfl
theorem feluccaref02_Same.bits6 : waitsOk feluccaref02_Same.T6.2 feluccaref02_Same.B6 = true := by kernel_rfl
def feluccaref02_Same.l0 : Nat → (List ByteArray) → (List ByteArray) → Int → Option (Bool)
  | 0, _, _, _ => none
  | k + 1, l0, l1, x5 => bif decide (x5 < (l0.length : Int)) then (bif decide (0 ≤ x5) then (bif decide (x5 < (l1.length : Int)) then (bif (!((l0.getD (x5 : Int).toNat (⟨#[]⟩ : ByteArray)).toList == (l1.getD (x5 : Int).toNat (⟨#[]⟩ : ByteArray)).toList)) then (some false) else ((feluccaref02_Same.l0 k l0 l1 (wrap64 (x5 + 1))))) else (none)) else (none)) else (some true)
def feluccaref02_Same.f (k : Nat) (l0 : List ByteArray) (l1 : List ByteArray) : Option (Bool) := bif (!decide ((l0.length : Int) = (l1.length : Int))) then (some false) else ((feluccaref02_Same.l0 k l0 l1 0))
set_option maxHeartbeats 4000000 in
set_option maxRecDepth 100000 in
theorem feluccaref02_Same.calls (k : Nat) (A0 : Option Addr) (c0 : Nat) (l0 : List ByteArray) (A1 : Option Addr) (c1 : Nat) (l1 : List ByteArray) (r : Bool) (w : World) (hr0 : Kd.C Kd.string w A0 l0.length l0) (hc0 : l0.length ≤ c0) (hr1 : Kd.C Kd.string w A1 l1.length l1) (hc1 : l1.length ≤ c1) (h : feluccaref02_Same.f k l0 l1 = some r) :
    Calls Tryd.prog 32 #[.slice A0 l0.length c0, .slice A1 l1.length c1] w fun e w' => e = .returned (.bool r) ∧ Below w.heap.size w w' := by
  unfold feluccaref02_Same.f at h
  have HB := Aside0.mk (Below.refl w.heap.size w)
  have HR0 := Aside0.mk hr0
  have HC0 := Aside0.mk hc0
  clear hr0 hc0
  have HR1 := Aside0.mk hr1
  have HC1 := Aside0.mk hc1
  clear hr1 hc1
  refine calls_x (args := [.slice A0 l0.length c0, .slice A1 l1.length c1]) Tryd.func32 rfl 26 26 rfl rfl (fun ac0 F0 => ?_)
  refine wp_seq_k (fun K1 hK1 => ?_)
  refine wp_region_lit ?_
  refine sv (v := .bool false) F0 (run_guard rfl) rfl rfl (r_assign rfl ev_c) (fun ac1 F1 => ?_)
  clear F0 ac0
  refine c_end F1 ?_
  refine hK1 _ _ ?_
  refine wp_seq_k (fun K2 hK2 => ?_)
  refine wp_seq_k (fun K3 hK3 => ?_)
  refine wp_region_lit ?_
  refine sv (v := .slice A0 l0.length c0) F1 (run_guard rfl) rfl rfl (r_move rfl (F1.ev rfl)) (fun ac2 F2 => ?_)
  clear F1 ac1
  refine sv (v := .int .i64 (l0.length : Int)) F2 (run_guard rfl) rfl rfl (r_len rfl rfl Tryd.underlying39 (F2.ev rfl)) (fun ac3 F3 => ?_)
  clear F2 ac2
  refine sv (v := .slice A1 l1.length c1) F3 (run_guard rfl) rfl rfl (r_move rfl (F3.ev rfl)) (fun ac4 F4 => ?_)
  clear F3 ac3
  refine sv (v := .int .i64 (l1.length : Int)) F4 (run_guard rfl) rfl rfl (r_len rfl rfl Tryd.underlying39 (F4.ev rfl)) (fun ac5 F5 => ?_)
  clear F4 ac4
  refine sv (v := .bool (!decide ((l0.length : Int) = (l1.length : Int)))) F5 (run_guard rfl) rfl rfl (r_neq rfl (F5.ev rfl) (F5.ev rfl)) (fun ac6 F6 => ?_)
  clear F5 ac5
  refine c_end F6 ?_
  refine hK3 _ _ ?_
  cases hT1 : (!decide ((l0.length : Int) = (l1.length : Int))) with
  | true =>
    replace h := cond_t hT1 h
    refine wp_cond_true (F6.ev (lk rfl hT1)) ?_
    refine wp_seq_k (fun K4 hK4 => ?_)
    refine wp_region_lit ?_
    refine sv (v := .bool false) F6 (run_guard rfl) rfl rfl (r_assign rfl ev_c) (fun ac7 F7 => ?_)
    clear F6 ac6
    refine c_end F7 ?_
    refine hK4 _ _ ?_
    refine wp_ret ?_
    (try simp only [Exit.then, Exit.inBlock])
    refine retx (fn := Tryd.f32) F7 (results1 (fn := Tryd.f32) rfl (rv_t (t := 4) (v := .bool false) F7 rfl)) ?_
    cases h
    exact ⟨rfl, HB.out⟩
  | false =>
    replace h := cond_f hT1 h
    refine wp_cond_false (F6.ev (lk rfl hT1)) ?_
    refine wp_skip ?_
    refine hK2 _ _ ?_
    refine wp_seq_k (fun K5 hK5 => ?_)
    refine wp_seq_k (fun K6 hK6 => ?_)
    refine wp_region_lit ?_
    refine sv (v := .int .i64 0) F6 (run_guard rfl) rfl rfl (r_assign rfl ev_c) (fun ac8 F8 => ?_)
    clear F6 ac6
    refine c_end F8 ?_
    refine hK6 _ _ ?_
    refine wp_block ?_
    have H0 := Aside0.mk h
    clear h
    refine c_loop (n := k) (fun (m : Nat) (a : Act) (w' : World) => ∃ x5 : Int, Fr a 26 [(0, .slice A0 l0.length c0), (1, .slice A1 l1.length c1), (5, .int .i64 x5)] ∧ Aside0 (Below w.heap.size w w') ∧ Aside0 (m ≤ k) ∧ Aside0 ((feluccaref02_Same.l0 m l0 l1 x5) = some r)) ?_ ?_
    · exact ⟨0, F8.pick ⟨rfl, rfl, rfl, trivial⟩, HB, ⟨Nat.le_refl _⟩, H0⟩
    · clear F8 HB H0
      rintro m ac9 w1 ⟨x5, F, HB, HKk1, H⟩
      cases m with
      | zero => exact absurd H.out (by simp [feluccaref02_Same.l0])
      | succ k1 =>
        have h := H.out
        clear H
        simp only [feluccaref02_Same.l0] at h
        have F9 := F
        clear F
        refine wp_seq_k (fun K7 hK7 => ?_)
        refine wp_seq_k (fun K8 hK8 => ?_)
        refine wp_region_lit ?_
        refine sv (v := .int .i64 x5) F9 (run_guard rfl) rfl rfl (r_move rfl (F9.ev rfl)) (fun ac10 F10 => ?_)
        clear F9 ac9
        refine sv (v := .slice A0 l0.length c0) F10 (run_guard rfl) rfl rfl (r_move rfl (F10.ev rfl)) (fun ac11 F11 => ?_)
        clear F10 ac10
        refine sv (v := .int .i64 (l0.length : Int)) F11 (run_guard rfl) rfl rfl (r_len rfl rfl Tryd.underlying39 (F11.ev rfl)) (fun ac12 F12 => ?_)
        clear F11 ac11
        refine sv (v := .bool (decide (x5 < (l0.length : Int)))) F12 (run_guard rfl) rfl rfl (r_lss rfl (F12.ev rfl) (F12.ev rfl)) (fun ac13 F13 => ?_)
        clear F12 ac12
        refine c_end F13 ?_
        refine hK8 _ _ ?_
        cases hT2 : decide (x5 < (l0.length : Int)) with
        | true =>
          replace h := cond_t hT2 h
          refine wp_cond_true (F13.ev (lk rfl hT2)) ?_
          refine wp_skip ?_
          refine hK7 _ _ ?_
          refine wp_seq_k (fun K9 hK9 => ?_)
          refine wp_block ?_
          refine wp_seq_k (fun K10 hK10 => ?_)
          cases hT3 : decide (0 ≤ x5) with
          | true =>
            replace h := cond_t hT3 h
            obtain ⟨eb1, eo1, cs_, hi1, hk_, E1⟩ := e_at (P := Tryd.prog) (c := c0) (i := x5) (Kd.C_below HR0.out HB.out) (⟨#[]⟩ : ByteArray) (of_decide_eq_true hT3) (of_decide_eq_true hT2) Tryd.underlying39 feluccaref02_Same.sz9 (by decide)
            obtain rfl := K_scalar hk_
            replace hi1 := Aside0.mk hi1
            cases hT4 : decide (x5 < (l1.length : Int)) with
            | true =>
              replace h := cond_t hT4 h
              obtain ⟨eb2, eo2, cs_, hi2, hk_, E2⟩ := e_at (P := Tryd.prog) (c := c1) (i := x5) (Kd.C_below HR1.out HB.out) (⟨#[]⟩ : ByteArray) (of_decide_eq_true hT3) (of_decide_eq_true hT4) Tryd.underlying39 feluccaref02_Same.sz9 (by decide)
              obtain rfl := K_scalar hk_
              replace hi2 := Aside0.mk hi2
              refine start_ (n := 9) (S := fun _ => True) (ds := []) #[false, false, false, false, false, false, false, false, false] (by kernel_rfl) rfl rfl trivial (fun _ => ?_)
              refine with_tabW feluccaref02_Same.tab6 feluccaref02_Same.bits6 (fun HT_ HW_ => ?_)
              have hE := below_drew (Below.refl w1.heap.size w1)
              generalize w1.drew = w2 at hE ⊢
              replace E1 := Aside0.mk (range_below E1.out hE)
              replace E2 := Aside0.mk (range_below E2.out hE)
              replace HB := Aside0.mk (below_step HB.out hE)
              clear hE
              refine inv_at [0, 1, 2, 3, 4, 5, 6, 7, 8] (fun (a0_ : Act) (b : Nat → Bool) (a : Act) (w' : World) => FrB a 26 b [(0, .slice A0 l0.length c0), (1, .slice A1 l1.length c1), (5, .int .i64 x5)] [(0, 17, .slice A0 l0.length c0), (1, 18, .int .i64 x5), (2, 19, .pointer (some ⟨eb1, eo1, none⟩)), (3, 20, .string (l0.getD (x5 : Int).toNat (⟨#[]⟩ : ByteArray))), (4, 21, .slice A1 l1.length c1), (5, 22, .int .i64 x5), (6, 23, .pointer (some ⟨eb2, eo2, none⟩)), (7, 24, .string (l1.getD (x5 : Int).toNat (⟨#[]⟩ : ByteArray))), (8, 25, .bool (!((l0.getD (x5 : Int).toNat (⟨#[]⟩ : ByteArray)).toList == (l1.getD (x5 : Int).toNat (⟨#[]⟩ : ByteArray)).toList)))] [] ∧ (Aside0 (Below w.heap.size w w')) ∧ (Aside0 (w'.rangeAt eb1 eo1 [.string (l0.getD (x5 : Int).toNat (⟨#[]⟩ : ByteArray))])) ∧ (Aside0 (w'.rangeAt eb2 eo2 [.string (l1.getD (x5 : Int).toNat (⟨#[]⟩ : ByteArray))]))) HT_.out HW_.out (by kernel_rfl) (by kernel_rfl) ?_ ?_ ?_
              · exact ⟨FrB.start F13 ⟨rfl, rfl, rfl, trivial⟩ trivial, HB, E1, E2⟩
              · clear F13 HB E1 E2 HT_ HW_
                refine steps_cons ?_ ?_
                · rintro b a w' ⟨hX, HB, E1, E2⟩ hb_ hon hoff
                  refine ⟨_, rfl, fun K hK => ?_⟩
                  have t0 : a.tmps[0]? = some (.slice A0 l0.length c0) := hX.t_in rfl
                  have e0 := eval_of t0
                  refine value_ (N := some 17) (v := .slice A0 l0.length c0) (run_guard rfl) rfl (r_move rfl e0) ?_
                  refine hK.out _ _ ⟨(hX.put 0 hb_ rfl rfl rfl rfl rfl rfl), HB, E1, E2⟩
                refine steps_cons ?_ ?_
                · rintro b a w' ⟨hX, HB, E1, E2⟩ hb_ hon hoff
                  refine ⟨_, rfl, fun K hK => ?_⟩
                  have t5 : a.tmps[5]? = some (.int .i64 x5) := hX.t_in rfl
                  have e5 := eval_of t5
                  refine value_ (N := some 18) (v := .int .i64 x5) (run_guard rfl) rfl (r_move rfl e5) ?_
                  refine hK.out _ _ ⟨(hX.put 1 hb_ rfl rfl rfl rfl rfl rfl), HB, E1, E2⟩
                refine steps_cons ?_ ?_
                · rintro b a w' ⟨hX, HB, E1, E2⟩ hb_ hon hoff
                  refine ⟨_, rfl, fun K hK => ?_⟩
                  have t17 := hX.t_on 0 rfl (hon 0 (by kernel_rfl))
                  have e17 := eval_of t17
                  have t18 := hX.t_on 1 rfl (hon 1 (by kernel_rfl))
                  have e18 := eval_of t18
                  refine value_ (N := some 19) (v := .pointer (some ⟨eb1, eo1, none⟩)) (run_guard rfl) rfl (r_indexAddr rfl e17 e18 (hi1.out _)) ?_
                  refine hK.out _ _ ⟨(hX.put 2 hb_ rfl rfl rfl rfl rfl rfl), HB, E1, E2⟩
                refine steps_cons ?_ ?_
                · rintro b a w' ⟨hX, HB, E1, E2⟩ hb_ hon hoff
                  refine ⟨_, rfl, fun K hK => ?_⟩
                  have t19 := hX.t_on 2 rfl (hon 2 (by kernel_rfl))
                  have e19 := eval_of t19
                  refine value_ (N := some 20) (v := .string (l0.getD (x5 : Int).toNat (⟨#[]⟩ : ByteArray))) (run_guard rfl) rfl (r_load rfl e19 (l_cell E1.out 0 rfl (agg_no Tryd.underlying9 rfl))) ?_
                  refine hK.out _ _ ⟨(hX.put 3 hb_ rfl rfl rfl rfl rfl rfl), HB, E1, E2⟩
                refine steps_cons ?_ ?_
                · rintro b a w' ⟨hX, HB, E1, E2⟩ hb_ hon hoff
                  refine ⟨_, rfl, fun K hK => ?_⟩
                  have t1 : a.tmps[1]? = some (.slice A1 l1.length c1) := hX.t_in rfl
                  have e1 := eval_of t1
                  refine value_ (N := some 21) (v := .slice A1 l1.length c1) (run_guard rfl) rfl (r_move rfl e1) ?_
                  refine hK.out _ _ ⟨(hX.put 4 hb_ rfl rfl rfl rfl rfl rfl), HB, E1, E2⟩
                refine steps_cons ?_ ?_
                · rintro b a w' ⟨hX, HB, E1, E2⟩ hb_ hon hoff
                  refine ⟨_, rfl, fun K hK => ?_⟩
                  have t5 : a.tmps[5]? = some (.int .i64 x5) := hX.t_in rfl
                  have e5 := eval_of t5
                  refine value_ (N := some 22) (v := .int .i64 x5) (run_guard rfl) rfl (r_move rfl e5) ?_
                  refine hK.out _ _ ⟨(hX.put 5 hb_ rfl rfl rfl rfl rfl rfl), HB, E1, E2⟩
                refine steps_cons ?_ ?_
                · rintro b a w' ⟨hX, HB, E1, E2⟩ hb_ hon hoff
                  refine ⟨_, rfl, fun K hK => ?_⟩
                  have t21 := hX.t_on 4 rfl (hon 4 (by kernel_rfl))
                  have e21 := eval_of t21
                  have t22 := hX.t_on 5 rfl (hon 5 (by kernel_rfl))
                  have e22 := eval_of t22
                  refine value_ (N := some 23) (v := .pointer (some ⟨eb2, eo2, none⟩)) (run_guard rfl) rfl (r_indexAddr rfl e21 e22 (hi2.out _)) ?_
                  refine hK.out _ _ ⟨(hX.put 6 hb_ rfl rfl rfl rfl rfl rfl), HB, E1, E2⟩
                refine steps_cons ?_ ?_
                · rintro b a w' ⟨hX, HB, E1, E2⟩ hb_ hon hoff
                  refine ⟨_, rfl, fun K hK => ?_⟩
                  have t23 := hX.t_on 6 rfl (hon 6 (by kernel_rfl))
                  have e23 := eval_of t23
                  refine value_ (N := some 24) (v := .string (l1.getD (x5 : Int).toNat (⟨#[]⟩ : ByteArray))) (run_guard rfl) rfl (r_load rfl e23 (l_cell E2.out 0 rfl (agg_no Tryd.underlying9 rfl))) ?_
                  refine hK.out _ _ ⟨(hX.put 7 hb_ rfl rfl rfl rfl rfl rfl), HB, E1, E2⟩
                refine steps_cons ?_ ?_
                · rintro b a w' ⟨hX, HB, E1, E2⟩ hb_ hon hoff
                  refine ⟨_, rfl, fun K hK => ?_⟩
                  have t20 := hX.t_on 3 rfl (hon 3 (by kernel_rfl))
                  have e20 := eval_of t20
                  have t24 := hX.t_on 7 rfl (hon 7 (by kernel_rfl))
                  have e24 := eval_of t24
                  refine value_ (N := some 25) (v := .bool (!((l0.getD (x5 : Int).toNat (⟨#[]⟩ : ByteArray)).toList == (l1.getD (x5 : Int).toNat (⟨#[]⟩ : ByteArray)).toList))) (run_guard rfl) rfl (r_sne rfl e20 e24) ?_
                  refine hK.out _ _ ⟨(hX.put 8 hb_ rfl rfl rfl rfl rfl rfl), HB, E1, E2⟩
                exact steps_nil
              · rintro b ac14 w3 hall ⟨hX, HB, E1, E2⟩
                have F14 := hX.done (all_of hall rfl) (L' := [(17, .slice A0 l0.length c0), (18, .int .i64 x5), (19, .pointer (some ⟨eb1, eo1, none⟩)), (20, .string (l0.getD (x5 : Int).toNat (⟨#[]⟩ : ByteArray))), (21, .slice A1 l1.length c1), (22, .int .i64 x5), (23, .pointer (some ⟨eb2, eo2, none⟩)), (24, .string (l1.getD (x5 : Int).toNat (⟨#[]⟩ : ByteArray))), (25, .bool (!((l0.getD (x5 : Int).toNat (⟨#[]⟩ : ByteArray)).toList == (l1.getD (x5 : Int).toNat (⟨#[]⟩ : ByteArray)).toList))), (0, .slice A0 l0.length c0), (1, .slice A1 l1.length c1), (5, .int .i64 x5)]) rfl
                clear hX
                clear hall
                clear E1 E2 hi1 hi2
                refine hK10 _ _ ?_
                cases hT5 : (!((l0.getD (x5 : Int).toNat (⟨#[]⟩ : ByteArray)).toList == (l1.getD (x5 : Int).toNat (⟨#[]⟩ : ByteArray)).toList)) with
                | true =>
                  replace h := cond_t hT5 h
                  refine wp_cond_true (F14.ev (lk rfl hT5)) ?_
                  refine wp_seq_k (fun K11 hK11 => ?_)
                  refine wp_region_lit ?_
                  refine sv (v := .bool false) F14 (run_guard rfl) rfl rfl (r_assign rfl ev_c) (fun ac15 F15 => ?_)
                  clear F14 ac14
                  refine c_end F15 ?_
                  refine hK11 _ _ ?_
                  refine wp_ret ?_
                  (try simp only [Exit.then, Exit.inBlock])
                  refine retx (fn := Tryd.f32) F15 (results1 (fn := Tryd.f32) rfl (rv_t (t := 4) (v := .bool false) F15 rfl)) ?_
                  cases h
                  exact ⟨rfl, HB.out⟩
                | false =>
                  replace h := cond_f hT5 h
                  refine wp_cond_false (F14.ev (lk rfl hT5)) ?_
                  refine wp_skip ?_
                  refine hK9 _ _ ?_
                  refine wp_region_lit ?_
                  refine sv (v := .int .i64 x5) F14 (run_guard rfl) rfl rfl (r_move rfl (F14.ev rfl)) (fun ac16 F16 => ?_)
                  clear F14 ac14
                  refine sv (v := .int .i64 (wrap64 (x5 + 1))) F16 (run_guard rfl) rfl rfl (r_add rfl (F16.ev rfl) ev_c) (fun ac17 F17 => ?_)
                  clear F16 ac16
                  refine sv (v := .int .i64 (wrap64 (x5 + 1))) F17 (run_guard rfl) rfl rfl (r_assign rfl (F17.ev rfl)) (fun ac18 F18 => ?_)
                  clear F17 ac17
                  refine c_end F18 ?_
                  refine ⟨k1, Nat.lt_succ_self _, (wrap64 (x5 + 1)), F18.pick ⟨rfl, rfl, rfl, trivial⟩, HB, ⟨(by have := HKk1.out; omega)⟩, ⟨h⟩⟩
            | false =>
              replace h := cond_f hT4 h
              cases h
          | false =>
            replace h := cond_f hT3 h
            cases h
        | false =>
          replace h := cond_f hT2 h
          refine wp_cond_false (F13.ev (lk rfl hT2)) ?_
          refine wp_exit ?_
          refine hK5 _ _ ?_
          refine wp_seq_k (fun K12 hK12 => ?_)
          refine wp_region_lit ?_
          refine sv (v := .bool true) F13 (run_guard rfl) rfl rfl (r_assign rfl ev_c) (fun ac19 F19 => ?_)
          clear F13 ac13
          refine c_end F19 ?_
          refine hK12 _ _ ?_
          refine wp_ret ?_
          (try simp only [Exit.then, Exit.inBlock])
          refine retx (fn := Tryd.f32) F19 (results1 (fn := Tryd.f32) rfl (rv_t (t := 4) (v := .bool true) F19 rfl)) ?_
          cases h
          exact ⟨rfl, HB.out⟩
end Go.Proofs.YtndijkndllpkgaaDoor.Pr
/- The walk of feluccalaw04.small by explicit steps (wip/xw.py). -/
namespace Go.Proofs.YtndijkndllpkgaaDoor.Pr
open Go.RowKit Go.Proofs.YtndijkndllpkgaaDoorW.PrintWords Go.Proofs.YtndijkndllpkgaaDoorW.PrintLast Go.Proofs.YtndijkndllpkgaaDoorW.PrintMore Go.Proofs.YtndijkndllpkgaaDoor.X
set_option linter.unusedVariables false
set_option linter.unusedSimpArgs false
theorem feluccalaw04_small.bld34_0_1_2_3_4_5 (p0_0 : Int) (p1_0 : Int) (p2_0 : Int) (p3_0 : Int) (p4_0 : Int) (p5_0 : Int) (w : World) : (Instr.build 34 #[(0, .int .i64 p0_0), (1, .int .i64 p1_0), (2, .int .i64 p2_0), (3, .int .i64 p3_0), (4, .int .i64 p4_0), (5, .int .i64 p5_0)]).run Tryd.prog w = .ok (.agg #[.int .i64 p0_0, .int .i64 p1_0, .int .i64 p2_0, .int .i64 p3_0, .int .i64 p4_0, .int .i64 p5_0]) w := by
  first | (go_simp; done) | (go_simp; rfl) | rfl
theorem feluccalaw04_small.bld38_0_1_2 (p0_0 : Int) (p1_0 : Int) (p2_0 : Int) (p2_1 : Int) (p2_2 : Int) (p2_3 : Int) (p2_4 : Int) (p2_5 : Int) (w : World) : (Instr.build 38 #[(0, .int .i64 p0_0), (1, .int .i64 p1_0), (2, .agg #[.int .i64 p2_0, .int .i64 p2_1, .int .i64 p2_2, .int .i64 p2_3, .int .i64 p2_4, .int .i64 p2_5])]).run Tryd.prog w = .ok (.agg #[.int .i64 p0_0, .int .i64 p1_0, .int .i64 p2_0, .int .i64 p2_1, .int .i64 p2_2, .int .i64 p2_3, .int .i64 p2_4, .int .i64 p2_5, .int .i64 0, .int .i64 0, .int .i64 0, .int .i64 0, .int .i64 0]) w := by
  first | (go_simp; done) | (go_simp; rfl) | rfl
theorem feluccalaw04_small.zv38 (w : World) : (zeroValue 38).run Tryd.prog w = .ok (.agg #[.int .i64 0, .int .i64 0, .int .i64 0, .int .i64 0, .int .i64 0, .int .i64 0, .int .i64 0, .int .i64 0, .int .i64 0, .int .i64 0, .int .i64 0, .int .i64 0, .int .i64 0]) w := by
  first | (go_simp; done) | (go_simp; rfl) | rfl
theorem feluccalaw04_small.sz38 : (Tryd.prog.info? 38).map (·.size) = some 13 := by
  kernel_rfl
theorem feluccalaw04_small.bsl39_3 (p0_0 : ByteArray) (p1_0 : ByteArray) (p2_0 : ByteArray) (w : World) : (Instr.buildSlice 39 3 #[(0, .string p0_0), (1, .string p1_0), (2, .string p2_0)]).run Tryd.prog w = .ok (.slice (some ⟨w.heap.size, 0, none⟩) 3 3) (w.alloc (.cells #[.string p0_0, .string p1_0, .string p2_0] 9)) := by
  first | (go_simp; done) | (go_simp; rfl) | rfl
theorem feluccalaw04_small.bsl39_7 (p0_0 : ByteArray) (p1_0 : ByteArray) (p2_0 : ByteArray) (p3_0 : ByteArray) (p4_0 : ByteArray) (p5_0 : ByteArray) (p6_0 : ByteArray) (w : World) : (Instr.buildSlice 39 7 #[(0, .string p0_0), (1, .string p1_0), (2, .string p2_0), (3, .string p3_0), (4, .string p4_0), (5, .string p5_0), (6, .string p6_0)]).run Tryd.prog w = .ok (.slice (some ⟨w.heap.size, 0, none⟩) 7 7) (w.alloc (.cells #[.string p0_0, .string p1_0, .string p2_0, .string p3_0, .string p4_0, .string p5_0, .string p6_0] 9)) := by
  first | (go_simp; done) | (go_simp; rfl) | rfl
theorem feluccalaw04_small.bsl39_4 (p0_0 : ByteArray) (p1_0 : ByteArray) (p2_0 : ByteArray) (p3_0 : ByteArray) (w : World) : (Instr.buildSlice 39 4 #[(0, .string p0_0), (1, .string p1_0), (2, .string p2_0), (3, .string p3_0)]).run Tryd.prog w = .ok (.slice (some ⟨w.heap.size, 0, none⟩) 4 4) (w.alloc (.cells #[.string p0_0, .string p1_0, .string p2_0, .string p3_0] 9)) := by
  first | (go_simp; done) | (go_simp; rfl) | rfl
theorem feluccalaw04_small.bsl39_6 (p0_0 : ByteArray) (p1_0 : ByteArray) (p2_0 : ByteArray) (p3_0 : ByteArray) (p4_0 : ByteArray) (p5_0 : ByteArray) (w : World) : (Instr.buildSlice 39 6 #[(0, .string p0_0), (1, .string p1_0), (2, .string p2_0), (3, .string p3_0), (4, .string p4_0), (5, .string p5_0)]).run Tryd.prog w = .ok (.slice (some ⟨w.heap.size, 0, none⟩) 6 6) (w.alloc (.cells #[.string p0_0, .string p1_0, .string p2_0, .string p3_0, .string p4_0, .string p5_0] 9)) := by
  first | (go_simp; done) | (go_simp; rfl) | rfl
theorem feluccalaw04_small.bsl39_8 (p0_0 : ByteArray) (p1_0 : ByteArray) (p2_0 : ByteArray) (p3_0 : ByteArray) (p4_0 : ByteArray) (p5_0 : ByteArray) (p6_0 : ByteArray) (p7_0 : ByteArray) (w : World) : (Instr.buildSlice 39 8 #[(0, .string p0_0), (1, .string p1_0), (2, .string p2_0), (3, .string p3_0), (4, .string p4_0), (5, .string p5_0), (6, .string p6_0), (7, .string p7_0)]).run Tryd.prog w = .ok (.slice (some ⟨w.heap.size, 0, none⟩) 8 8) (w.alloc (.cells #[.string p0_0, .string p1_0, .string p2_0, .string p3_0, .string p4_0, .string p5_0, .string p6_0, .string p7_0] 9)) := by
  first | (go_simp; done) | (go_simp; rfl) | rfl
theorem feluccalaw04_small.bld34_0 (p0_0 : Int) (w : World) : (Instr.build 34 #[(0, .int .i64 p0_0)]).run Tryd.prog w = .ok (.agg #[.int .i64 p0_0, .int .i64 0, .int .i64 0, .int .i64 0, .int .i64 0, .int .i64 0]) w := by
  first | (go_simp; done) | (go_simp; rfl) | rfl
theorem feluccalaw04_small.eqA34 (d : Nat) (w : World) (x0 y0 : Int) (x1 y1 : Int) (x2 y2 : Int) (x3 y3 : Int) (x4 y4 : Int) (x5 y5 : Int) : (Op.equalIn (d + 2) 34 (.agg #[.int .i64 x0, .int .i64 x1, .int .i64 x2, .int .i64 x3, .int .i64 x4, .int .i64 x5]) (.agg #[.int .i64 y0, .int .i64 y1, .int .i64 y2, .int .i64 y3, .int .i64 y4, .int .i64 y5])).run Tryd.prog w = .ok (x0 == y0 && (x1 == y1 && (x2 == y2 && (x3 == y3 && (x4 == y4 && (x5 == y5)))))) w := by
  refine eqA_of Tryd.underlying34 (by kernel_rfl) ?_
  refine eqf_cons (by rfl) (by go_simp; rfl) (by go_simp; rfl) (by go_simp) ?_
  refine eqf_cons (by rfl) (by go_simp; rfl) (by go_simp; rfl) (by go_simp) ?_
  refine eqf_cons (by rfl) (by go_simp; rfl) (by go_simp; rfl) (by go_simp) ?_
  refine eqf_cons (by rfl) (by go_simp; rfl) (by go_simp; rfl) (by go_simp) ?_
  refine eqf_cons (by rfl) (by go_simp; rfl) (by go_simp; rfl) (by go_simp) ?_
  exact eqf_last (by rfl) (by go_simp; rfl) (by go_simp; rfl) (by go_simp)
theorem feluccalaw04_small.eqA36 (d : Nat) (w : World) (x0 y0 : Int) (x1 y1 : Int) (x2 y2 : Int) (x3 y3 : Int) (x4 y4 : Int) : (Op.equalIn (d + 2) 36 (.agg #[.int .i64 x0, .int .i64 x1, .int .i64 x2, .int .i64 x3, .int .i64 x4]) (.agg #[.int .i64 y0, .int .i64 y1, .int .i64 y2, .int .i64 y3, .int .i64 y4])).run Tryd.prog w = .ok (x0 == y0 && (x1 == y1 && (x2 == y2 && (x3 == y3 && (x4 == y4))))) w := by
  refine eqA_of Tryd.underlying36 (by kernel_rfl) ?_
  refine eqf_cons (by rfl) (by go_simp; rfl) (by go_simp; rfl) (by go_simp) ?_
  refine eqf_cons (by rfl) (by go_simp; rfl) (by go_simp; rfl) (by go_simp) ?_
  refine eqf_cons (by rfl) (by go_simp; rfl) (by go_simp; rfl) (by go_simp) ?_
  refine eqf_cons (by rfl) (by go_simp; rfl) (by go_simp; rfl) (by go_simp) ?_
  exact eqf_last (by rfl) (by go_simp; rfl) (by go_simp; rfl) (by go_simp)
theorem feluccalaw04_small.eqA38 (d : Nat) (w : World) (x0 y0 : Int) (x1 y1 : Int) (x2 y2 : Int) (x3 y3 : Int) (x4 y4 : Int) (x5 y5 : Int) (x6 y6 : Int) (x7 y7 : Int) (x8 y8 : Int) (x9 y9 : Int) (x10 y10 : Int) (x11 y11 : Int) (x12 y12 : Int) : (Op.equalIn (d + 3) 38 (.agg #[.int .i64 x0, .int .i64 x1, .int .i64 x2, .int .i64 x3, .int .i64 x4, .int .i64 x5, .int .i64 x6, .int .i64 x7, .int .i64 x8, .int .i64 x9, .int .i64 x10, .int .i64 x11, .int .i64 x12]) (.agg #[.int .i64 y0, .int .i64 y1, .int .i64 y2, .int .i64 y3, .int .i64 y4, .int .i64 y5, .int .i64 y6, .int .i64 y7, .int .i64 y8, .int .i64 y9, .int .i64 y10, .int .i64 y11, .int .i64 y12])).run Tryd.prog w = .ok (x0 == y0 && (x1 == y1 && ((x2 == y2 && (x3 == y3 && (x4 == y4 && (x5 == y5 && (x6 == y6 && (x7 == y7)))))) && ((x8 == y8 && (x9 == y9 && (x10 == y10 && (x11 == y11 && (x12 == y12))))))))) w := by
  refine eqA_of Tryd.underlying38 (by kernel_rfl) ?_
  refine eqf_cons (by rfl) (by go_simp; rfl) (by go_simp; rfl) (by go_simp) ?_
  refine eqf_cons (by rfl) (by go_simp; rfl) (by go_simp; rfl) (by go_simp) ?_
  refine eqf_cons (by rfl) (by go_simp) (by go_simp) (feluccalaw04_small.eqA34 (d + 0) w _ _ _ _ _ _ _ _ _ _ _ _) ?_
  exact eqf_last (by rfl) (by go_simp) (by go_simp) (feluccalaw04_small.eqA36 (d + 0) w _ _ _ _ _ _ _ _ _ _)
theorem feluccalaw04_small.eq38 (x0 y0 : Int) (x1 y1 : Int) (x2 y2 : Int) (x3 y3 : Int) (x4 y4 : Int) (x5 y5 : Int) (x6 y6 : Int) (x7 y7 : Int) (x8 y8 : Int) (x9 y9 : Int) (x10 y10 : Int) (x11 y11 : Int) (x12 y12 : Int) (w : World) : (binOp .eql 38 (.agg #[.int .i64 x0, .int .i64 x1, .int .i64 x2, .int .i64 x3, .int .i64 x4, .int .i64 x5, .int .i64 x6, .int .i64 x7, .int .i64 x8, .int .i64 x9, .int .i64 x10, .int .i64 x11, .int .i64 x12]) (.agg #[.int .i64 y0, .int .i64 y1, .int .i64 y2, .int .i64 y3, .int .i64 y4, .int .i64 y5, .int .i64 y6, .int .i64 y7, .int .i64 y8, .int .i64 y9, .int .i64 y10, .int .i64 y11, .int .i64 y12])).run Tryd.prog w = .ok (.bool (x0 == y0 && (x1 == y1 && ((x2 == y2 && (x3 == y3 && (x4 == y4 && (x5 == y5 && (x6 == y6 && (x7 == y7)))))) && ((x8 == y8 && (x9 == y9 && (x10 == y10 && (x11 == y11 && (x12 == y12)))))))))) w := by
  have h := feluccalaw04_small.eqA38 9997 w x0 y0 x1 y1 x2 y2 x3 y3 x4 y4 x5 y5 x6 y6 x7 y7 x8 y8 x9 y9 x10 y10 x11 y11 x12 y12
  simp [binOp, Op.equal, Op.maxDepth, Sem.run_bind, h]
theorem feluccalaw04_small.eg38 : Tryd.prog.eqGuardType Tryd.prog.depth 38 = false := by
  kernel_rfl
theorem feluccalaw04_small.fa38_3 (b o : Nat) (w : World) : (Instr.fieldAt 38 (.pointer (some ⟨b, o, none⟩)) 3).run Tryd.prog w = .ok (.pointer (some ⟨b, o + 8, none⟩)) w := by
  first | (go_simp; done) | (simp [Instr.fieldAt, Instr.sureAddr, Sem.run_bind, run_underlying Tryd.underlying38, fieldPlace, sizeOf, typeInfo, Addr.add]; done) | (go_simp; simp [Addr.add])
theorem feluccalaw04_small.sz36 : (Tryd.prog.info? 36).map (·.size) = some 5 := by
  kernel_rfl
theorem feluccalaw04_small.bld36_0_1_3_4 (p0_0 : Int) (p1_0 : Int) (p2_0 : Int) (p3_0 : Int) (w : World) : (Instr.build 36 #[(0, .int .i64 p0_0), (1, .int .i64 p1_0), (3, .int .i64 p2_0), (4, .int .i64 p3_0)]).run Tryd.prog w = .ok (.agg #[.int .i64 p0_0, .int .i64 p1_0, .int .i64 0, .int .i64 p2_0, .int .i64 p3_0]) w := by
  first | (go_simp; done) | (go_simp; rfl) | rfl
theorem feluccalaw04_small.eq36 (x0 y0 : Int) (x1 y1 : Int) (x2 y2 : Int) (x3 y3 : Int) (x4 y4 : Int) (w : World) : (binOp .eql 36 (.agg #[.int .i64 x0, .int .i64 x1, .int .i64 x2, .int .i64 x3, .int .i64 x4]) (.agg #[.int .i64 y0, .int .i64 y1, .int .i64 y2, .int .i64 y3, .int .i64 y4])).run Tryd.prog w = .ok (.bool (x0 == y0 && (x1 == y1 && (x2 == y2 && (x3 == y3 && (x4 == y4)))))) w := by
  have h := feluccalaw04_small.eqA36 9998 w x0 y0 x1 y1 x2 y2 x3 y3 x4 y4
  simp [binOp, Op.equal, Op.maxDepth, Sem.run_bind, h]
theorem feluccalaw04_small.eg36 : Tryd.prog.eqGuardType Tryd.prog.depth 36 = false := by
  kernel_rfl
theorem feluccalaw04_small.fa38_0 (b o : Nat) (w : World) : (Instr.fieldAt 38 (.pointer (some ⟨b, o, none⟩)) 0).run Tryd.prog w = .ok (.pointer (some ⟨b, o, none⟩)) w := by
  first | (go_simp; done) | (simp [Instr.fieldAt, Instr.sureAddr, Sem.run_bind, run_underlying Tryd.underlying38, fieldPlace, sizeOf, typeInfo, Addr.add]; done) | (go_simp; simp [Addr.add])
theorem feluccalaw04_small.fa36_4 (b o : Nat) (w : World) : (Instr.fieldAt 36 (.pointer (some ⟨b, o, none⟩)) 4).run Tryd.prog w = .ok (.pointer (some ⟨b, o + 4, none⟩)) w := by
  first | (go_simp; done) | (simp [Instr.fieldAt, Instr.sureAddr, Sem.run_bind, run_underlying Tryd.underlying36, fieldPlace, sizeOf, typeInfo, Addr.add]; done) | (go_simp; simp [Addr.add])
theorem feluccalaw04_small.bld38_ (w : World) : (Instr.build 38 #[]).run Tryd.prog w = .ok (.agg #[.int .i64 0, .int .i64 0, .int .i64 0, .int .i64 0, .int .i64 0, .int .i64 0, .int .i64 0, .int .i64 0, .int .i64 0, .int .i64 0, .int .i64 0, .int .i64 0, .int .i64 0]) w := by
  first | (go_simp; done) | (go_simp; rfl) | rfl
def feluccalaw04_small.f (k : Nat)  : Option (Bool) := (direct_Words.f k 1 1 7 1 2 10 20 3 0 0 0 0 0).bind fun ⟨y1, y2⟩ => ((direct_Parse.f k ([(⟨#[100]⟩ : ByteArray), (⟨#[99, 111, 110, 116, 97, 99, 116]⟩ : ByteArray), (⟨#[55]⟩ : ByteArray)] : List ByteArray)).bind fun ⟨y3, y4, y5, y6, y7, y8, y9, y10, y11, y12, y13, y14, y15, y16⟩ => ((direct_Parse.f k ([(⟨#[97]⟩ : ByteArray), (⟨#[114, 97, 110, 103, 101]⟩ : ByteArray), (⟨#[49]⟩ : ByteArray), (⟨#[50]⟩ : ByteArray), (⟨#[48]⟩ : ByteArray), (⟨#[57]⟩ : ByteArray), (⟨#[52]⟩ : ByteArray)] : List ByteArray)).bind fun ⟨y17, y18, y19, y20, y21, y22, y23, y24, y25, y26, y27, y28, y29, y30⟩ => ((direct_Parse.f k ([(⟨#[97]⟩ : ByteArray), (⟨#[114, 97, 110, 103, 101]⟩ : ByteArray), (⟨#[49]⟩ : ByteArray), (⟨#[50]⟩ : ByteArray), (⟨#[57]⟩ : ByteArray), (⟨#[57]⟩ : ByteArray), (⟨#[52]⟩ : ByteArray)] : List ByteArray)).bind fun ⟨y31, y32, y33, y34, y35, y36, y37, y38, y39, y40, y41, y42, y43, y44⟩ => ((direct_Parse.f k ([(⟨#[97]⟩ : ByteArray), (⟨#[114, 97, 110, 103, 101]⟩ : ByteArray), (⟨#[49]⟩ : ByteArray), (⟨#[50]⟩ : ByteArray), (⟨#[48, 57]⟩ : ByteArray), (⟨#[57]⟩ : ByteArray), (⟨#[52]⟩ : ByteArray)] : List ByteArray)).bind fun ⟨y45, y46, y47, y48, y49, y50, y51, y52, y53, y54, y55, y56, y57, y58⟩ => ((direct_Parse.f k ([(⟨#[100]⟩ : ByteArray), (⟨#[99, 111, 110, 116, 97, 99, 116]⟩ : ByteArray), (⟨#[55]⟩ : ByteArray), (⟨#[56]⟩ : ByteArray)] : List ByteArray)).bind fun ⟨y59, y60, y61, y62, y63, y64, y65, y66, y67, y68, y69, y70, y71, y72⟩ => ((direct_Parse.f k []).bind fun ⟨y73, y74, y75, y76, y77, y78, y79, y80, y81, y82, y83, y84, y85, y86⟩ => ((direct_Parse.f k ([(⟨#[99]⟩ : ByteArray), (⟨#[114, 97, 110, 103, 101]⟩ : ByteArray), (⟨#[49]⟩ : ByteArray), (⟨#[50]⟩ : ByteArray), (⟨#[48]⟩ : ByteArray), (⟨#[53]⟩ : ByteArray)] : List ByteArray)).bind fun ⟨y87, y88, y89, y90, y91, y92, y93, y94, y95, y96, y97, y98, y99, y100⟩ => ((feluccaref02_Same.f k y1 ([(⟨#[97]⟩ : ByteArray), (⟨#[99, 111, 110, 116, 97, 99, 116]⟩ : ByteArray), (⟨#[55]⟩ : ByteArray), (⟨#[49]⟩ : ByteArray), (⟨#[50]⟩ : ByteArray), (⟨#[49, 48]⟩ : ByteArray), (⟨#[50, 48]⟩ : ByteArray), (⟨#[51]⟩ : ByteArray)] : List ByteArray)).bind fun y101 => (bif y101 then (bif y2 then (bif (y3 == 2 && (y4 == 1 && ((y5 == 7 && (y6 == 0 && (y7 == 0 && (y8 == 0 && (y9 == 0 && (y10 == 0)))))) && ((y11 == 0 && (y12 == 0 && (y13 == 0 && (y14 == 0 && (y15 == 0))))))))) then (bif decide (y16 = 0) then (bif (y25 == 1 && (y26 == 2 && (y27 == 0 && (y28 == 9 && (y29 == 4))))) then (bif decide (y30 = 0) then (bif decide (y44 = 1) then (bif decide (y58 = 2) then (bif decide (y72 = 2) then (bif decide (y86 = 2) then (bif decide (y87 = 3) then (bif decide (y99 = 5) then (bif decide (y100 = 0) then ((direct_Right.f 1 1 7 1 2 10 20 3 0 0 0 0 0).bind fun y102 => (bif y102 then ((direct_Right.f 0 0 0 0 0 0 0 0 0 0 0 0 0).bind fun y103 => (some (!y103))) else (some false))) else (some false)) else (some false)) else (some false)) else (some false)) else (some false)) else (some false)) else (some false)) else (some false)) else (some false)) else (some false)) else (some false)) else (some false)) else (some false))))))))))
set_option maxHeartbeats 4000000 in
set_option maxRecDepth 100000 in
theorem feluccalaw04_small.calls (k : Nat) (r : Bool) (w : World) (hTabP : TabP w) (h : feluccalaw04_small.f k  = some r) :
    Calls Tryd.prog 25 #[] w fun e w' => e = .returned (.bool r) ∧ Below w.heap.size w w' := by
  unfold feluccalaw04_small.f at h
  have XTabP := Aside0.mk hTabP
  clear hTabP
  have HB := Aside0.mk (Below.refl w.heap.size w)
  refine calls_x (args := []) Tryd.func25 rfl 125 125 rfl rfl (fun ac0 F0 => ?_)
  refine wp_seq_k (fun K1 hK1 => ?_)
  refine wp_region_lit ?_
  refine sv (v := .bool false) F0 (run_guard rfl) rfl rfl (r_assign rfl ev_c) (fun ac1 F1 => ?_)
  clear F0 ac0
  refine c_end F1 ?_
  refine hK1 _ _ ?_
  refine wp_seq_k (fun K2 hK2 => ?_)
  refine wp_region_lit ?_
  refine sv (v := .agg #[.int .i64 7, .int .i64 1, .int .i64 2, .int .i64 10, .int .i64 20, .int .i64 3]) F1 (run_guard rfl) rfl rfl (r_build rfl (p6 ev_c ev_c ev_c ev_c ev_c ev_c) (feluccalaw04_small.bld34_0_1_2_3_4_5 _ _ _ _ _ _ _)) (fun ac2 F2 => ?_)
  clear F1 ac1
  refine sv (v := .agg #[.int .i64 1, .int .i64 1, .int .i64 7, .int .i64 1, .int .i64 2, .int .i64 10, .int .i64 20, .int .i64 3, .int .i64 0, .int .i64 0, .int .i64 0, .int .i64 0, .int .i64 0]) F2 (run_guard rfl) rfl rfl (r_build rfl (p3 ev_c ev_c (F2.ev rfl)) (feluccalaw04_small.bld38_0_1_2 _ _ _ _ _ _ _ _ _)) (fun ac3 F3 => ?_)
  clear F2 ac2
  refine s_new (cs := #[.int .i64 0, .int .i64 0, .int .i64 0, .int .i64 0, .int .i64 0, .int .i64 0, .int .i64 0, .int .i64 0, .int .i64 0, .int .i64 0, .int .i64 0, .int .i64 0, .int .i64 0]) F3 (run_guard rfl) rfl rfl (r_alloc rfl (feluccalaw04_small.zv38 _) rfl) (fun ac4 w1 b1 hb hge hlt hE F4 => ?_)
  clear F3 ac3
  have GEX1 := Aside0.mk (Nat.le_trans HB.out.size hge)
  replace HB := Aside0.mk (below_step HB.out hE)
  have X1 := Aside0.mk hb
  clear hb hge hlt hE
  obtain ⟨w2, hs, hS⟩ := s_part (P := Tryd.prog) (t := 38) (l' := [.int .i64 1, .int .i64 1, .int .i64 7, .int .i64 1, .int .i64 2, .int .i64 10, .int .i64 20, .int .i64 3, .int .i64 0, .int .i64 0, .int .i64 0, .int .i64 0, .int .i64 0]) X1.out 0 #[.int .i64 1, .int .i64 1, .int .i64 7, .int .i64 1, .int .i64 2, .int .i64 10, .int .i64 20, .int .i64 3, .int .i64 0, .int .i64 0, .int .i64 0, .int .i64 0, .int .i64 0] rfl rfl feluccalaw04_small.sz38 rfl
  refine ss F4 (run_guard rfl) rfl (r_store rfl (F4.ev rfl) (F4.ev rfl) hs) ?_
  clear hs
  replace HB := Aside0.mk (HB.out.trans (hS.below _ GEX1.out))
  replace X1 := Aside0.mk hS.here
  clear hS
  refine c_end F4 ?_
  refine hK2 _ _ ?_
  refine wp_seq_k (fun K3 hK3 => ?_)
  refine wp_region_lit ?_
  refine sv (v := .agg #[.int .i64 1, .int .i64 1, .int .i64 7, .int .i64 1, .int .i64 2, .int .i64 10, .int .i64 20, .int .i64 3, .int .i64 0, .int .i64 0, .int .i64 0, .int .i64 0, .int .i64 0]) F4 (run_guard rfl) rfl rfl (r_load rfl (F4.ev rfl) (l_part X1.out 0 [.int .i64 1, .int .i64 1, .int .i64 7, .int .i64 1, .int .i64 2, .int .i64 10, .int .i64 20, .int .i64 3, .int .i64 0, .int .i64 0, .int .i64 0, .int .i64 0, .int .i64 0] rfl Tryd.underlying38 rfl feluccalaw04_small.sz38)) (fun ac5 F5 => ?_)
  clear F4 ac4
  replace h := Option.bind_eq_some_iff.1 h
  obtain ⟨⟨y1, y2⟩, hy, h⟩ := h
  refine sc F5 (run_guard rfl) rfl rfl (r_call rfl Tryd.func26 (by kernel_rfl) rfl rfl (m1 (F5.ev rfl))) ?_
  refine (direct_Words.calls k 1 1 7 1 2 10 20 3 0 0 0 0 0 _ _ _ (TabP.below XTabP.out HB.out) hy).mono ?_
  rintro e w3 ⟨v1, rfl, hR0, hE⟩
  clear hy
  replace hR0 := Kd.R_lower hR0 HB.out.size
  replace X1 := Aside0.mk (blk_below X1.out hE)
  replace HB := Aside0.mk (below_step HB.out hE)
  obtain ⟨Aq1, cq1, rfl⟩ := Kd.R_slice hR0
  have R1 := Aside0.mk hR0
  clear hR0
  refine ⟨_, rfl, fun ac6 F6 => ?_⟩
  clear hE F5 ac5
  refine sv (v := .tuple #[.slice Aq1 y1.length cq1, .bool y2]) F6 (run_guard rfl) rfl rfl (r_move rfl (F6.ev rfl)) (fun ac7 F7 => ?_)
  clear F6 ac6
  refine sv (v := .slice Aq1 y1.length cq1) F7 (run_guard rfl) rfl rfl (r_extract rfl (F7.ev rfl) rfl) (fun ac8 F8 => ?_)
  clear F7 ac7
  refine sv (v := .bool y2) F8 (run_guard rfl) rfl rfl (r_extract rfl (F8.ev rfl) rfl) (fun ac9 F9 => ?_)
  clear F8 ac8
  refine sv (v := .slice Aq1 y1.length cq1) F9 (run_guard rfl) rfl rfl (r_assign rfl (F9.ev rfl)) (fun ac10 F10 => ?_)
  clear F9 ac9
  refine sv (v := .bool y2) F10 (run_guard rfl) rfl rfl (r_assign rfl (F10.ev rfl)) (fun ac11 F11 => ?_)
  clear F10 ac10
  refine c_end F11 ?_
  refine hK3 _ _ ?_
  refine wp_seq_k (fun K4 hK4 => ?_)
  refine wp_region_lit ?_
  refine sv (v := .slice (some ⟨w3.heap.size, 0, none⟩) 3 3) F11 (run_guard rfl) rfl rfl (r_buildSlice rfl (p3 ev_c ev_c ev_c) (feluccalaw04_small.bsl39_3 _ _ _ _)) (fun ac12 F12 => ?_)
  clear F11 ac11
  have hR := R_litM (w := w3) (d := Kd.string) (n := 3) ([(⟨#[100]⟩ : ByteArray), (⟨#[99, 111, 110, 116, 97, 99, 116]⟩ : ByteArray), (⟨#[55]⟩ : ByteArray)] : List ByteArray) [.string (⟨#[100]⟩ : ByteArray), .string (⟨#[99, 111, 110, 116, 97, 99, 116]⟩ : ByteArray), .string (⟨#[55]⟩ : ByteArray)] 9 rfl (by decide) (fun _ _ => (Reps.front (c := [.string (⟨#[100]⟩ : ByteArray)]) rfl rfl (Reps.front (c := [.string (⟨#[99, 111, 110, 116, 97, 99, 116]⟩ : ByteArray)]) rfl rfl (Reps.front (c := [.string (⟨#[55]⟩ : ByteArray)]) rfl rfl reps_nil rfl) rfl) rfl))
  have hAR1 := apart_new R1.out hR
  replace hR := Kd.R_lower hR HB.out.size
  have hE := (Below.refl w3.heap.size w3).alloc (Nat.le_refl _) (.cells #[.string (⟨#[100]⟩ : ByteArray), .string (⟨#[99, 111, 110, 116, 97, 99, 116]⟩ : ByteArray), .string (⟨#[55]⟩ : ByteArray)] 9)
  generalize w3.alloc (.cells #[.string (⟨#[100]⟩ : ByteArray), .string (⟨#[99, 111, 110, 116, 97, 99, 116]⟩ : ByteArray), .string (⟨#[55]⟩ : ByteArray)] 9) = w4 at hR hE ⊢
  replace X1 := Aside0.mk (blk_below X1.out hE)
  replace R1 := Aside0.mk (Kd.R_below R1.out hE)
  replace HB := Aside0.mk (below_step HB.out hE)
  generalize w3.heap.size = b2 at hR F12 hAR1
  have R2 := Aside0.mk hR
  clear hR hE
  have NE1 := Aside0.mk hAR1
  clear hAR1
  replace h := Option.bind_eq_some_iff.1 h
  obtain ⟨⟨y3, y4, y5, y6, y7, y8, y9, y10, y11, y12, y13, y14, y15, y16⟩, hy, h⟩ := h
  refine sc F12 (run_guard rfl) rfl rfl (r_call rfl Tryd.func28 (by kernel_rfl) rfl rfl (m1 (F12.ev rfl))) ?_
  refine (direct_Parse.calls k (some ⟨b2, 0, none⟩) 3 ([(⟨#[100]⟩ : ByteArray), (⟨#[99, 111, 110, 116, 97, 99, 116]⟩ : ByteArray), (⟨#[55]⟩ : ByteArray)] : List ByteArray) _ _ _ _ _ _ _ _ _ _ _ _ _ _ _ (Kd.R_reads' R2.out).2.2 (Kd.R_reads' R2.out).2.1 hy).mono ?_
  rintro e w5 ⟨rfl, hE⟩
  clear hy
  replace X1 := Aside0.mk (blk_below X1.out hE)
  replace R1 := Aside0.mk (Kd.R_below R1.out hE)
  replace R2 := Aside0.mk (Kd.R_below R2.out hE)
  replace HB := Aside0.mk (below_step HB.out hE)
  refine ⟨_, rfl, fun ac13 F13 => ?_⟩
  clear hE F12 ac12
  refine sv (v := .tuple #[.agg #[.int .i64 y3, .int .i64 y4, .int .i64 y5, .int .i64 y6, .int .i64 y7, .int .i64 y8, .int .i64 y9, .int .i64 y10, .int .i64 y11, .int .i64 y12, .int .i64 y13, .int .i64 y14, .int .i64 y15], .int .i64 y16]) F13 (run_guard rfl) rfl rfl (r_move rfl (F13.ev rfl)) (fun ac14 F14 => ?_)
  clear F13 ac13
  refine sv (v := .agg #[.int .i64 y3, .int .i64 y4, .int .i64 y5, .int .i64 y6, .int .i64 y7, .int .i64 y8, .int .i64 y9, .int .i64 y10, .int .i64 y11, .int .i64 y12, .int .i64 y13, .int .i64 y14, .int .i64 y15]) F14 (run_guard rfl) rfl rfl (r_extract rfl (F14.ev rfl) rfl) (fun ac15 F15 => ?_)
  clear F14 ac14
  refine sv (v := .int .i64 y16) F15 (run_guard rfl) rfl rfl (r_extract rfl (F15.ev rfl) rfl) (fun ac16 F16 => ?_)
  clear F15 ac15
  refine s_new (cs := #[.int .i64 0, .int .i64 0, .int .i64 0, .int .i64 0, .int .i64 0, .int .i64 0, .int .i64 0, .int .i64 0, .int .i64 0, .int .i64 0, .int .i64 0, .int .i64 0, .int .i64 0]) F16 (run_guard rfl) rfl rfl (r_alloc rfl (feluccalaw04_small.zv38 _) rfl) (fun ac17 w6 b3 hb hge hlt hE F17 => ?_)
  clear F16 ac16
  have GEX2 := Aside0.mk (Nat.le_trans HB.out.size hge)
  have LTX1_X2 := Aside0.mk (Nat.lt_of_lt_of_le (blk_lt X1.out) hge)
  replace X1 := Aside0.mk (blk_below X1.out hE)
  replace R1 := Aside0.mk (Kd.R_below R1.out hE)
  replace R2 := Aside0.mk (Kd.R_below R2.out hE)
  replace HB := Aside0.mk (below_step HB.out hE)
  have X2 := Aside0.mk hb
  clear hb hge hlt hE
  obtain ⟨w7, hs, hS⟩ := s_part (P := Tryd.prog) (t := 38) (l' := [.int .i64 y3, .int .i64 y4, .int .i64 y5, .int .i64 y6, .int .i64 y7, .int .i64 y8, .int .i64 y9, .int .i64 y10, .int .i64 y11, .int .i64 y12, .int .i64 y13, .int .i64 y14, .int .i64 y15]) X2.out 0 #[.int .i64 y3, .int .i64 y4, .int .i64 y5, .int .i64 y6, .int .i64 y7, .int .i64 y8, .int .i64 y9, .int .i64 y10, .int .i64 y11, .int .i64 y12, .int .i64 y13, .int .i64 y14, .int .i64 y15] rfl rfl feluccalaw04_small.sz38 rfl
  refine ss F17 (run_guard rfl) rfl (r_store rfl (F17.ev rfl) (F17.ev rfl) hs) ?_
  clear hs
  replace X1 := Aside0.mk (hS.blk X1.out (Nat.ne_of_lt LTX1_X2.out))
  replace R1 := Aside0.mk (R_set1 R1.out X2.out (by decide) hS)
  replace R2 := Aside0.mk (R_set1 R2.out X2.out (by decide) hS)
  replace HB := Aside0.mk (HB.out.trans (hS.below _ GEX2.out))
  replace X2 := Aside0.mk hS.here
  clear hS
  refine sv (v := .int .i64 y16) F17 (run_guard rfl) rfl rfl (r_assign rfl (F17.ev rfl)) (fun ac18 F18 => ?_)
  clear F17 ac17
  refine c_end F18 ?_
  refine hK4 _ _ ?_
  refine wp_seq_k (fun K5 hK5 => ?_)
  clear R2 NE1
  refine wp_region_lit ?_
  refine sv (v := .slice (some ⟨w7.heap.size, 0, none⟩) 7 7) F18 (run_guard rfl) rfl rfl (r_buildSlice rfl (p7 ev_c ev_c ev_c ev_c ev_c ev_c ev_c) (feluccalaw04_small.bsl39_7 _ _ _ _ _ _ _ _)) (fun ac19 F19 => ?_)
  clear F18 ac18
  have hR := R_litM (w := w7) (d := Kd.string) (n := 7) ([(⟨#[97]⟩ : ByteArray), (⟨#[114, 97, 110, 103, 101]⟩ : ByteArray), (⟨#[49]⟩ : ByteArray), (⟨#[50]⟩ : ByteArray), (⟨#[48]⟩ : ByteArray), (⟨#[57]⟩ : ByteArray), (⟨#[52]⟩ : ByteArray)] : List ByteArray) [.string (⟨#[97]⟩ : ByteArray), .string (⟨#[114, 97, 110, 103, 101]⟩ : ByteArray), .string (⟨#[49]⟩ : ByteArray), .string (⟨#[50]⟩ : ByteArray), .string (⟨#[48]⟩ : ByteArray), .string (⟨#[57]⟩ : ByteArray), .string (⟨#[52]⟩ : ByteArray)] 9 rfl (by decide) (fun _ _ => (Reps.front (c := [.string (⟨#[97]⟩ : ByteArray)]) rfl rfl (Reps.front (c := [.string (⟨#[114, 97, 110, 103, 101]⟩ : ByteArray)]) rfl rfl (Reps.front (c := [.string (⟨#[49]⟩ : ByteArray)]) rfl rfl (Reps.front (c := [.string (⟨#[50]⟩ : ByteArray)]) rfl rfl (Reps.front (c := [.string (⟨#[48]⟩ : ByteArray)]) rfl rfl (Reps.front (c := [.string (⟨#[57]⟩ : ByteArray)]) rfl rfl (Reps.front (c := [.string (⟨#[52]⟩ : ByteArray)]) rfl rfl reps_nil rfl) rfl) rfl) rfl) rfl) rfl) rfl))
  have hAR1 := apart_new R1.out hR
  replace hR := Kd.R_lower hR HB.out.size
  have hE := (Below.refl w7.heap.size w7).alloc (Nat.le_refl _) (.cells #[.string (⟨#[97]⟩ : ByteArray), .string (⟨#[114, 97, 110, 103, 101]⟩ : ByteArray), .string (⟨#[49]⟩ : ByteArray), .string (⟨#[50]⟩ : ByteArray), .string (⟨#[48]⟩ : ByteArray), .string (⟨#[57]⟩ : ByteArray), .string (⟨#[52]⟩ : ByteArray)] 9)
  generalize w7.alloc (.cells #[.string (⟨#[97]⟩ : ByteArray), .string (⟨#[114, 97, 110, 103, 101]⟩ : ByteArray), .string (⟨#[49]⟩ : ByteArray), .string (⟨#[50]⟩ : ByteArray), .string (⟨#[48]⟩ : ByteArray), .string (⟨#[57]⟩ : ByteArray), .string (⟨#[52]⟩ : ByteArray)] 9) = w8 at hR hE ⊢
  replace X1 := Aside0.mk (blk_below X1.out hE)
  replace R1 := Aside0.mk (Kd.R_below R1.out hE)
  replace X2 := Aside0.mk (blk_below X2.out hE)
  replace HB := Aside0.mk (below_step HB.out hE)
  generalize w7.heap.size = b4 at hR F19 hAR1
  have R3 := Aside0.mk hR
  clear hR hE
  have NE2 := Aside0.mk hAR1
  clear hAR1
  replace h := Option.bind_eq_some_iff.1 h
  obtain ⟨⟨y17, y18, y19, y20, y21, y22, y23, y24, y25, y26, y27, y28, y29, y30⟩, hy, h⟩ := h
  refine sc F19 (run_guard rfl) rfl rfl (r_call rfl Tryd.func28 (by kernel_rfl) rfl rfl (m1 (F19.ev rfl))) ?_
  refine (direct_Parse.calls k (some ⟨b4, 0, none⟩) 7 ([(⟨#[97]⟩ : ByteArray), (⟨#[114, 97, 110, 103, 101]⟩ : ByteArray), (⟨#[49]⟩ : ByteArray), (⟨#[50]⟩ : ByteArray), (⟨#[48]⟩ : ByteArray), (⟨#[57]⟩ : ByteArray), (⟨#[52]⟩ : ByteArray)] : List ByteArray) _ _ _ _ _ _ _ _ _ _ _ _ _ _ _ (Kd.R_reads' R3.out).2.2 (Kd.R_reads' R3.out).2.1 hy).mono ?_
  rintro e w9 ⟨rfl, hE⟩
  clear hy
  replace X1 := Aside0.mk (blk_below X1.out hE)
  replace R1 := Aside0.mk (Kd.R_below R1.out hE)
  replace X2 := Aside0.mk (blk_below X2.out hE)
  replace R3 := Aside0.mk (Kd.R_below R3.out hE)
  replace HB := Aside0.mk (below_step HB.out hE)
  refine ⟨_, rfl, fun ac20 F20 => ?_⟩
  clear hE F19 ac19
  refine sv (v := .tuple #[.agg #[.int .i64 y17, .int .i64 y18, .int .i64 y19, .int .i64 y20, .int .i64 y21, .int .i64 y22, .int .i64 y23, .int .i64 y24, .int .i64 y25, .int .i64 y26, .int .i64 y27, .int .i64 y28, .int .i64 y29], .int .i64 y30]) F20 (run_guard rfl) rfl rfl (r_move rfl (F20.ev rfl)) (fun ac21 F21 => ?_)
  clear F20 ac20
  refine sv (v := .agg #[.int .i64 y17, .int .i64 y18, .int .i64 y19, .int .i64 y20, .int .i64 y21, .int .i64 y22, .int .i64 y23, .int .i64 y24, .int .i64 y25, .int .i64 y26, .int .i64 y27, .int .i64 y28, .int .i64 y29]) F21 (run_guard rfl) rfl rfl (r_extract rfl (F21.ev rfl) rfl) (fun ac22 F22 => ?_)
  clear F21 ac21
  refine sv (v := .int .i64 y30) F22 (run_guard rfl) rfl rfl (r_extract rfl (F22.ev rfl) rfl) (fun ac23 F23 => ?_)
  clear F22 ac22
  refine s_new (cs := #[.int .i64 0, .int .i64 0, .int .i64 0, .int .i64 0, .int .i64 0, .int .i64 0, .int .i64 0, .int .i64 0, .int .i64 0, .int .i64 0, .int .i64 0, .int .i64 0, .int .i64 0]) F23 (run_guard rfl) rfl rfl (r_alloc rfl (feluccalaw04_small.zv38 _) rfl) (fun ac24 w10 b5 hb hge hlt hE F24 => ?_)
  clear F23 ac23
  have GEX3 := Aside0.mk (Nat.le_trans HB.out.size hge)
  have LTX1_X3 := Aside0.mk (Nat.lt_of_lt_of_le (blk_lt X1.out) hge)
  have LTX2_X3 := Aside0.mk (Nat.lt_of_lt_of_le (blk_lt X2.out) hge)
  replace X1 := Aside0.mk (blk_below X1.out hE)
  replace R1 := Aside0.mk (Kd.R_below R1.out hE)
  replace X2 := Aside0.mk (blk_below X2.out hE)
  replace R3 := Aside0.mk (Kd.R_below R3.out hE)
  replace HB := Aside0.mk (below_step HB.out hE)
  have X3 := Aside0.mk hb
  clear hb hge hlt hE
  obtain ⟨w11, hs, hS⟩ := s_part (P := Tryd.prog) (t := 38) (l' := [.int .i64 y17, .int .i64 y18, .int .i64 y19, .int .i64 y20, .int .i64 y21, .int .i64 y22, .int .i64 y23, .int .i64 y24, .int .i64 y25, .int .i64 y26, .int .i64 y27, .int .i64 y28, .int .i64 y29]) X3.out 0 #[.int .i64 y17, .int .i64 y18, .int .i64 y19, .int .i64 y20, .int .i64 y21, .int .i64 y22, .int .i64 y23, .int .i64 y24, .int .i64 y25, .int .i64 y26, .int .i64 y27, .int .i64 y28, .int .i64 y29] rfl rfl feluccalaw04_small.sz38 rfl
  refine ss F24 (run_guard rfl) rfl (r_store rfl (F24.ev rfl) (F24.ev rfl) hs) ?_
  clear hs
  replace X1 := Aside0.mk (hS.blk X1.out (Nat.ne_of_lt LTX1_X3.out))
  replace R1 := Aside0.mk (R_set1 R1.out X3.out (by decide) hS)
  replace X2 := Aside0.mk (hS.blk X2.out (Nat.ne_of_lt LTX2_X3.out))
  replace R3 := Aside0.mk (R_set1 R3.out X3.out (by decide) hS)
  replace HB := Aside0.mk (HB.out.trans (hS.below _ GEX3.out))
  replace X3 := Aside0.mk hS.here
  clear hS
  refine sv (v := .int .i64 y30) F24 (run_guard rfl) rfl rfl (r_assign rfl (F24.ev rfl)) (fun ac25 F25 => ?_)
  clear F24 ac24
  refine c_end F25 ?_
  refine hK5 _ _ ?_
  refine wp_seq_k (fun K6 hK6 => ?_)
  clear R3 NE2
  refine wp_region_lit ?_
  refine sv (v := .slice (some ⟨w11.heap.size, 0, none⟩) 7 7) F25 (run_guard rfl) rfl rfl (r_buildSlice rfl (p7 ev_c ev_c ev_c ev_c ev_c ev_c ev_c) (feluccalaw04_small.bsl39_7 _ _ _ _ _ _ _ _)) (fun ac26 F26 => ?_)
  clear F25 ac25
  have hR := R_litM (w := w11) (d := Kd.string) (n := 7) ([(⟨#[97]⟩ : ByteArray), (⟨#[114, 97, 110, 103, 101]⟩ : ByteArray), (⟨#[49]⟩ : ByteArray), (⟨#[50]⟩ : ByteArray), (⟨#[57]⟩ : ByteArray), (⟨#[57]⟩ : ByteArray), (⟨#[52]⟩ : ByteArray)] : List ByteArray) [.string (⟨#[97]⟩ : ByteArray), .string (⟨#[114, 97, 110, 103, 101]⟩ : ByteArray), .string (⟨#[49]⟩ : ByteArray), .string (⟨#[50]⟩ : ByteArray), .string (⟨#[57]⟩ : ByteArray), .string (⟨#[57]⟩ : ByteArray), .string (⟨#[52]⟩ : ByteArray)] 9 rfl (by decide) (fun _ _ => (Reps.front (c := [.string (⟨#[97]⟩ : ByteArray)]) rfl rfl (Reps.front (c := [.string (⟨#[114, 97, 110, 103, 101]⟩ : ByteArray)]) rfl rfl (Reps.front (c := [.string (⟨#[49]⟩ : ByteArray)]) rfl rfl (Reps.front (c := [.string (⟨#[50]⟩ : ByteArray)]) rfl rfl (Reps.front (c := [.string (⟨#[57]⟩ : ByteArray)]) rfl rfl (Reps.front (c := [.string (⟨#[57]⟩ : ByteArray)]) rfl rfl (Reps.front (c := [.string (⟨#[52]⟩ : ByteArray)]) rfl rfl reps_nil rfl) rfl) rfl) rfl) rfl) rfl) rfl))
  have hAR1 := apart_new R1.out hR
  replace hR := Kd.R_lower hR HB.out.size
  have hE := (Below.refl w11.heap.size w11).alloc (Nat.le_refl _) (.cells #[.string (⟨#[97]⟩ : ByteArray), .string (⟨#[114, 97, 110, 103, 101]⟩ : ByteArray), .string (⟨#[49]⟩ : ByteArray), .string (⟨#[50]⟩ : ByteArray), .string (⟨#[57]⟩ : ByteArray), .string (⟨#[57]⟩ : ByteArray), .string (⟨#[52]⟩ : ByteArray)] 9)
  generalize w11.alloc (.cells #[.string (⟨#[97]⟩ : ByteArray), .string (⟨#[114, 97, 110, 103, 101]⟩ : ByteArray), .string (⟨#[49]⟩ : ByteArray), .string (⟨#[50]⟩ : ByteArray), .string (⟨#[57]⟩ : ByteArray), .string (⟨#[57]⟩ : ByteArray), .string (⟨#[52]⟩ : ByteArray)] 9) = w12 at hR hE ⊢
  replace X1 := Aside0.mk (blk_below X1.out hE)
  replace R1 := Aside0.mk (Kd.R_below R1.out hE)
  replace X2 := Aside0.mk (blk_below X2.out hE)
  replace X3 := Aside0.mk (blk_below X3.out hE)
  replace HB := Aside0.mk (below_step HB.out hE)
  generalize w11.heap.size = b6 at hR F26 hAR1
  have R4 := Aside0.mk hR
  clear hR hE
  have NE3 := Aside0.mk hAR1
  clear hAR1
  replace h := Option.bind_eq_some_iff.1 h
  obtain ⟨⟨y31, y32, y33, y34, y35, y36, y37, y38, y39, y40, y41, y42, y43, y44⟩, hy, h⟩ := h
  refine sc F26 (run_guard rfl) rfl rfl (r_call rfl Tryd.func28 (by kernel_rfl) rfl rfl (m1 (F26.ev rfl))) ?_
  refine (direct_Parse.calls k (some ⟨b6, 0, none⟩) 7 ([(⟨#[97]⟩ : ByteArray), (⟨#[114, 97, 110, 103, 101]⟩ : ByteArray), (⟨#[49]⟩ : ByteArray), (⟨#[50]⟩ : ByteArray), (⟨#[57]⟩ : ByteArray), (⟨#[57]⟩ : ByteArray), (⟨#[52]⟩ : ByteArray)] : List ByteArray) _ _ _ _ _ _ _ _ _ _ _ _ _ _ _ (Kd.R_reads' R4.out).2.2 (Kd.R_reads' R4.out).2.1 hy).mono ?_
  rintro e w13 ⟨rfl, hE⟩
  clear hy
  replace X1 := Aside0.mk (blk_below X1.out hE)
  replace R1 := Aside0.mk (Kd.R_below R1.out hE)
  replace X2 := Aside0.mk (blk_below X2.out hE)
  replace X3 := Aside0.mk (blk_below X3.out hE)
  replace R4 := Aside0.mk (Kd.R_below R4.out hE)
  replace HB := Aside0.mk (below_step HB.out hE)
  refine ⟨_, rfl, fun ac27 F27 => ?_⟩
  clear hE F26 ac26
  refine sv (v := .tuple #[.agg #[.int .i64 y31, .int .i64 y32, .int .i64 y33, .int .i64 y34, .int .i64 y35, .int .i64 y36, .int .i64 y37, .int .i64 y38, .int .i64 y39, .int .i64 y40, .int .i64 y41, .int .i64 y42, .int .i64 y43], .int .i64 y44]) F27 (run_guard rfl) rfl rfl (r_move rfl (F27.ev rfl)) (fun ac28 F28 => ?_)
  clear F27 ac27
  refine sv (v := .agg #[.int .i64 y31, .int .i64 y32, .int .i64 y33, .int .i64 y34, .int .i64 y35, .int .i64 y36, .int .i64 y37, .int .i64 y38, .int .i64 y39, .int .i64 y40, .int .i64 y41, .int .i64 y42, .int .i64 y43]) F28 (run_guard rfl) rfl rfl (r_extract rfl (F28.ev rfl) rfl) (fun ac29 F29 => ?_)
  clear F28 ac28
  refine sv (v := .int .i64 y44) F29 (run_guard rfl) rfl rfl (r_extract rfl (F29.ev rfl) rfl) (fun ac30 F30 => ?_)
  clear F29 ac29
  refine s_new (cs := #[.int .i64 0, .int .i64 0, .int .i64 0, .int .i64 0, .int .i64 0, .int .i64 0, .int .i64 0, .int .i64 0, .int .i64 0, .int .i64 0, .int .i64 0, .int .i64 0, .int .i64 0]) F30 (run_guard rfl) rfl rfl (r_alloc rfl (feluccalaw04_small.zv38 _) rfl) (fun ac31 w14 b7 hb hge hlt hE F31 => ?_)
  clear F30 ac30
  have GEX4 := Aside0.mk (Nat.le_trans HB.out.size hge)
  have LTX1_X4 := Aside0.mk (Nat.lt_of_lt_of_le (blk_lt X1.out) hge)
  have LTX2_X4 := Aside0.mk (Nat.lt_of_lt_of_le (blk_lt X2.out) hge)
  have LTX3_X4 := Aside0.mk (Nat.lt_of_lt_of_le (blk_lt X3.out) hge)
  replace X1 := Aside0.mk (blk_below X1.out hE)
  replace R1 := Aside0.mk (Kd.R_below R1.out hE)
  replace X2 := Aside0.mk (blk_below X2.out hE)
  replace X3 := Aside0.mk (blk_below X3.out hE)
  replace R4 := Aside0.mk (Kd.R_below R4.out hE)
  replace HB := Aside0.mk (below_step HB.out hE)
  have X4 := Aside0.mk hb
  clear hb hge hlt hE
  obtain ⟨w15, hs, hS⟩ := s_part (P := Tryd.prog) (t := 38) (l' := [.int .i64 y31, .int .i64 y32, .int .i64 y33, .int .i64 y34, .int .i64 y35, .int .i64 y36, .int .i64 y37, .int .i64 y38, .int .i64 y39, .int .i64 y40, .int .i64 y41, .int .i64 y42, .int .i64 y43]) X4.out 0 #[.int .i64 y31, .int .i64 y32, .int .i64 y33, .int .i64 y34, .int .i64 y35, .int .i64 y36, .int .i64 y37, .int .i64 y38, .int .i64 y39, .int .i64 y40, .int .i64 y41, .int .i64 y42, .int .i64 y43] rfl rfl feluccalaw04_small.sz38 rfl
  refine ss F31 (run_guard rfl) rfl (r_store rfl (F31.ev rfl) (F31.ev rfl) hs) ?_
  clear hs
  replace X1 := Aside0.mk (hS.blk X1.out (Nat.ne_of_lt LTX1_X4.out))
  replace R1 := Aside0.mk (R_set1 R1.out X4.out (by decide) hS)
  replace X2 := Aside0.mk (hS.blk X2.out (Nat.ne_of_lt LTX2_X4.out))
  replace X3 := Aside0.mk (hS.blk X3.out (Nat.ne_of_lt LTX3_X4.out))
  replace R4 := Aside0.mk (R_set1 R4.out X4.out (by decide) hS)
  replace HB := Aside0.mk (HB.out.trans (hS.below _ GEX4.out))
  replace X4 := Aside0.mk hS.here
  clear hS
  refine sv (v := .int .i64 y44) F31 (run_guard rfl) rfl rfl (r_assign rfl (F31.ev rfl)) (fun ac32 F32 => ?_)
  clear F31 ac31
  refine c_end F32 ?_
  refine hK6 _ _ ?_
  refine wp_seq_k (fun K7 hK7 => ?_)
  clear R4 X4 NE3
  refine wp_region_lit ?_
  refine sv (v := .slice (some ⟨w15.heap.size, 0, none⟩) 7 7) F32 (run_guard rfl) rfl rfl (r_buildSlice rfl (p7 ev_c ev_c ev_c ev_c ev_c ev_c ev_c) (feluccalaw04_small.bsl39_7 _ _ _ _ _ _ _ _)) (fun ac33 F33 => ?_)
  clear F32 ac32
  have hR := R_litM (w := w15) (d := Kd.string) (n := 7) ([(⟨#[97]⟩ : ByteArray), (⟨#[114, 97, 110, 103, 101]⟩ : ByteArray), (⟨#[49]⟩ : ByteArray), (⟨#[50]⟩ : ByteArray), (⟨#[48, 57]⟩ : ByteArray), (⟨#[57]⟩ : ByteArray), (⟨#[52]⟩ : ByteArray)] : List ByteArray) [.string (⟨#[97]⟩ : ByteArray), .string (⟨#[114, 97, 110, 103, 101]⟩ : ByteArray), .string (⟨#[49]⟩ : ByteArray), .string (⟨#[50]⟩ : ByteArray), .string (⟨#[48, 57]⟩ : ByteArray), .string (⟨#[57]⟩ : ByteArray), .string (⟨#[52]⟩ : ByteArray)] 9 rfl (by decide) (fun _ _ => (Reps.front (c := [.string (⟨#[97]⟩ : ByteArray)]) rfl rfl (Reps.front (c := [.string (⟨#[114, 97, 110, 103, 101]⟩ : ByteArray)]) rfl rfl (Reps.front (c := [.string (⟨#[49]⟩ : ByteArray)]) rfl rfl (Reps.front (c := [.string (⟨#[50]⟩ : ByteArray)]) rfl rfl (Reps.front (c := [.string (⟨#[48, 57]⟩ : ByteArray)]) rfl rfl (Reps.front (c := [.string (⟨#[57]⟩ : ByteArray)]) rfl rfl (Reps.front (c := [.string (⟨#[52]⟩ : ByteArray)]) rfl rfl reps_nil rfl) rfl) rfl) rfl) rfl) rfl) rfl))
  have hAR1 := apart_new R1.out hR
  replace hR := Kd.R_lower hR HB.out.size
  have hE := (Below.refl w15.heap.size w15).alloc (Nat.le_refl _) (.cells #[.string (⟨#[97]⟩ : ByteArray), .string (⟨#[114, 97, 110, 103, 101]⟩ : ByteArray), .string (⟨#[49]⟩ : ByteArray), .string (⟨#[50]⟩ : ByteArray), .string (⟨#[48, 57]⟩ : ByteArray), .string (⟨#[57]⟩ : ByteArray), .string (⟨#[52]⟩ : ByteArray)] 9)
  generalize w15.alloc (.cells #[.string (⟨#[97]⟩ : ByteArray), .string (⟨#[114, 97, 110, 103, 101]⟩ : ByteArray), .string (⟨#[49]⟩ : ByteArray), .string (⟨#[50]⟩ : ByteArray), .string (⟨#[48, 57]⟩ : ByteArray), .string (⟨#[57]⟩ : ByteArray), .string (⟨#[52]⟩ : ByteArray)] 9) = w16 at hR hE ⊢
  replace X1 := Aside0.mk (blk_below X1.out hE)
  replace R1 := Aside0.mk (Kd.R_below R1.out hE)
  replace X2 := Aside0.mk (blk_below X2.out hE)
  replace X3 := Aside0.mk (blk_below X3.out hE)
  replace HB := Aside0.mk (below_step HB.out hE)
  generalize w15.heap.size = b8 at hR F33 hAR1
  have R5 := Aside0.mk hR
  clear hR hE
  have NE4 := Aside0.mk hAR1
  clear hAR1
  replace h := Option.bind_eq_some_iff.1 h
  obtain ⟨⟨y45, y46, y47, y48, y49, y50, y51, y52, y53, y54, y55, y56, y57, y58⟩, hy, h⟩ := h
  refine sc F33 (run_guard rfl) rfl rfl (r_call rfl Tryd.func28 (by kernel_rfl) rfl rfl (m1 (F33.ev rfl))) ?_
  refine (direct_Parse.calls k (some ⟨b8, 0, none⟩) 7 ([(⟨#[97]⟩ : ByteArray), (⟨#[114, 97, 110, 103, 101]⟩ : ByteArray), (⟨#[49]⟩ : ByteArray), (⟨#[50]⟩ : ByteArray), (⟨#[48, 57]⟩ : ByteArray), (⟨#[57]⟩ : ByteArray), (⟨#[52]⟩ : ByteArray)] : List ByteArray) _ _ _ _ _ _ _ _ _ _ _ _ _ _ _ (Kd.R_reads' R5.out).2.2 (Kd.R_reads' R5.out).2.1 hy).mono ?_
  rintro e w17 ⟨rfl, hE⟩
  clear hy
  replace X1 := Aside0.mk (blk_below X1.out hE)
  replace R1 := Aside0.mk (Kd.R_below R1.out hE)
  replace X2 := Aside0.mk (blk_below X2.out hE)
  replace X3 := Aside0.mk (blk_below X3.out hE)
  replace R5 := Aside0.mk (Kd.R_below R5.out hE)
  replace HB := Aside0.mk (below_step HB.out hE)
  refine ⟨_, rfl, fun ac34 F34 => ?_⟩
  clear hE F33 ac33
  refine sv (v := .tuple #[.agg #[.int .i64 y45, .int .i64 y46, .int .i64 y47, .int .i64 y48, .int .i64 y49, .int .i64 y50, .int .i64 y51, .int .i64 y52, .int .i64 y53, .int .i64 y54, .int .i64 y55, .int .i64 y56, .int .i64 y57], .int .i64 y58]) F34 (run_guard rfl) rfl rfl (r_move rfl (F34.ev rfl)) (fun ac35 F35 => ?_)
  clear F34 ac34
  refine sv (v := .agg #[.int .i64 y45, .int .i64 y46, .int .i64 y47, .int .i64 y48, .int .i64 y49, .int .i64 y50, .int .i64 y51, .int .i64 y52, .int .i64 y53, .int .i64 y54, .int .i64 y55, .int .i64 y56, .int .i64 y57]) F35 (run_guard rfl) rfl rfl (r_extract rfl (F35.ev rfl) rfl) (fun ac36 F36 => ?_)
  clear F35 ac35
  refine sv (v := .int .i64 y58) F36 (run_guard rfl) rfl rfl (r_extract rfl (F36.ev rfl) rfl) (fun ac37 F37 => ?_)
  clear F36 ac36
  refine s_new (cs := #[.int .i64 0, .int .i64 0, .int .i64 0, .int .i64 0, .int .i64 0, .int .i64 0, .int .i64 0, .int .i64 0, .int .i64 0, .int .i64 0, .int .i64 0, .int .i64 0, .int .i64 0]) F37 (run_guard rfl) rfl rfl (r_alloc rfl (feluccalaw04_small.zv38 _) rfl) (fun ac38 w18 b9 hb hge hlt hE F38 => ?_)
  clear F37 ac37
  have GEX5 := Aside0.mk (Nat.le_trans HB.out.size hge)
  have LTX1_X5 := Aside0.mk (Nat.lt_of_lt_of_le (blk_lt X1.out) hge)
  have LTX2_X5 := Aside0.mk (Nat.lt_of_lt_of_le (blk_lt X2.out) hge)
  have LTX3_X5 := Aside0.mk (Nat.lt_of_lt_of_le (blk_lt X3.out) hge)
  replace X1 := Aside0.mk (blk_below X1.out hE)
  replace R1 := Aside0.mk (Kd.R_below R1.out hE)
  replace X2 := Aside0.mk (blk_below X2.out hE)
  replace X3 := Aside0.mk (blk_below X3.out hE)
  replace R5 := Aside0.mk (Kd.R_below R5.out hE)
  replace HB := Aside0.mk (below_step HB.out hE)
  have X5 := Aside0.mk hb
  clear hb hge hlt hE
  obtain ⟨w19, hs, hS⟩ := s_part (P := Tryd.prog) (t := 38) (l' := [.int .i64 y45, .int .i64 y46, .int .i64 y47, .int .i64 y48, .int .i64 y49, .int .i64 y50, .int .i64 y51, .int .i64 y52, .int .i64 y53, .int .i64 y54, .int .i64 y55, .int .i64 y56, .int .i64 y57]) X5.out 0 #[.int .i64 y45, .int .i64 y46, .int .i64 y47, .int .i64 y48, .int .i64 y49, .int .i64 y50, .int .i64 y51, .int .i64 y52, .int .i64 y53, .int .i64 y54, .int .i64 y55, .int .i64 y56, .int .i64 y57] rfl rfl feluccalaw04_small.sz38 rfl
  refine ss F38 (run_guard rfl) rfl (r_store rfl (F38.ev rfl) (F38.ev rfl) hs) ?_
  clear hs
  replace X1 := Aside0.mk (hS.blk X1.out (Nat.ne_of_lt LTX1_X5.out))
  replace R1 := Aside0.mk (R_set1 R1.out X5.out (by decide) hS)
  replace X2 := Aside0.mk (hS.blk X2.out (Nat.ne_of_lt LTX2_X5.out))
  replace X3 := Aside0.mk (hS.blk X3.out (Nat.ne_of_lt LTX3_X5.out))
  replace R5 := Aside0.mk (R_set1 R5.out X5.out (by decide) hS)
  replace HB := Aside0.mk (HB.out.trans (hS.below _ GEX5.out))
  replace X5 := Aside0.mk hS.here
  clear hS
  refine sv (v := .int .i64 y58) F38 (run_guard rfl) rfl rfl (r_assign rfl (F38.ev rfl)) (fun ac39 F39 => ?_)
  clear F38 ac38
  refine c_end F39 ?_
  refine hK7 _ _ ?_
  refine wp_seq_k (fun K8 hK8 => ?_)
  clear R5 X5 NE4
  refine wp_region_lit ?_
  refine sv (v := .slice (some ⟨w19.heap.size, 0, none⟩) 4 4) F39 (run_guard rfl) rfl rfl (r_buildSlice rfl (p4 ev_c ev_c ev_c ev_c) (feluccalaw04_small.bsl39_4 _ _ _ _ _)) (fun ac40 F40 => ?_)
  clear F39 ac39
  have hR := R_litM (w := w19) (d := Kd.string) (n := 4) ([(⟨#[100]⟩ : ByteArray), (⟨#[99, 111, 110, 116, 97, 99, 116]⟩ : ByteArray), (⟨#[55]⟩ : ByteArray), (⟨#[56]⟩ : ByteArray)] : List ByteArray) [.string (⟨#[100]⟩ : ByteArray), .string (⟨#[99, 111, 110, 116, 97, 99, 116]⟩ : ByteArray), .string (⟨#[55]⟩ : ByteArray), .string (⟨#[56]⟩ : ByteArray)] 9 rfl (by decide) (fun _ _ => (Reps.front (c := [.string (⟨#[100]⟩ : ByteArray)]) rfl rfl (Reps.front (c := [.string (⟨#[99, 111, 110, 116, 97, 99, 116]⟩ : ByteArray)]) rfl rfl (Reps.front (c := [.string (⟨#[55]⟩ : ByteArray)]) rfl rfl (Reps.front (c := [.string (⟨#[56]⟩ : ByteArray)]) rfl rfl reps_nil rfl) rfl) rfl) rfl))
  have hAR1 := apart_new R1.out hR
  replace hR := Kd.R_lower hR HB.out.size
  have hE := (Below.refl w19.heap.size w19).alloc (Nat.le_refl _) (.cells #[.string (⟨#[100]⟩ : ByteArray), .string (⟨#[99, 111, 110, 116, 97, 99, 116]⟩ : ByteArray), .string (⟨#[55]⟩ : ByteArray), .string (⟨#[56]⟩ : ByteArray)] 9)
  generalize w19.alloc (.cells #[.string (⟨#[100]⟩ : ByteArray), .string (⟨#[99, 111, 110, 116, 97, 99, 116]⟩ : ByteArray), .string (⟨#[55]⟩ : ByteArray), .string (⟨#[56]⟩ : ByteArray)] 9) = w20 at hR hE ⊢
  replace X1 := Aside0.mk (blk_below X1.out hE)
  replace R1 := Aside0.mk (Kd.R_below R1.out hE)
  replace X2 := Aside0.mk (blk_below X2.out hE)
  replace X3 := Aside0.mk (blk_below X3.out hE)
  replace HB := Aside0.mk (below_step HB.out hE)
  generalize w19.heap.size = b10 at hR F40 hAR1
  have R6 := Aside0.mk hR
  clear hR hE
  have NE5 := Aside0.mk hAR1
  clear hAR1
  replace h := Option.bind_eq_some_iff.1 h
  obtain ⟨⟨y59, y60, y61, y62, y63, y64, y65, y66, y67, y68, y69, y70, y71, y72⟩, hy, h⟩ := h
  refine sc F40 (run_guard rfl) rfl rfl (r_call rfl Tryd.func28 (by kernel_rfl) rfl rfl (m1 (F40.ev rfl))) ?_
  refine (direct_Parse.calls k (some ⟨b10, 0, none⟩) 4 ([(⟨#[100]⟩ : ByteArray), (⟨#[99, 111, 110, 116, 97, 99, 116]⟩ : ByteArray), (⟨#[55]⟩ : ByteArray), (⟨#[56]⟩ : ByteArray)] : List ByteArray) _ _ _ _ _ _ _ _ _ _ _ _ _ _ _ (Kd.R_reads' R6.out).2.2 (Kd.R_reads' R6.out).2.1 hy).mono ?_
  rintro e w21 ⟨rfl, hE⟩
  clear hy
  replace X1 := Aside0.mk (blk_below X1.out hE)
  replace R1 := Aside0.mk (Kd.R_below R1.out hE)
  replace X2 := Aside0.mk (blk_below X2.out hE)
  replace X3 := Aside0.mk (blk_below X3.out hE)
  replace R6 := Aside0.mk (Kd.R_below R6.out hE)
  replace HB := Aside0.mk (below_step HB.out hE)
  refine ⟨_, rfl, fun ac41 F41 => ?_⟩
  clear hE F40 ac40
  refine sv (v := .tuple #[.agg #[.int .i64 y59, .int .i64 y60, .int .i64 y61, .int .i64 y62, .int .i64 y63, .int .i64 y64, .int .i64 y65, .int .i64 y66, .int .i64 y67, .int .i64 y68, .int .i64 y69, .int .i64 y70, .int .i64 y71], .int .i64 y72]) F41 (run_guard rfl) rfl rfl (r_move rfl (F41.ev rfl)) (fun ac42 F42 => ?_)
  clear F41 ac41
  refine sv (v := .agg #[.int .i64 y59, .int .i64 y60, .int .i64 y61, .int .i64 y62, .int .i64 y63, .int .i64 y64, .int .i64 y65, .int .i64 y66, .int .i64 y67, .int .i64 y68, .int .i64 y69, .int .i64 y70, .int .i64 y71]) F42 (run_guard rfl) rfl rfl (r_extract rfl (F42.ev rfl) rfl) (fun ac43 F43 => ?_)
  clear F42 ac42
  refine sv (v := .int .i64 y72) F43 (run_guard rfl) rfl rfl (r_extract rfl (F43.ev rfl) rfl) (fun ac44 F44 => ?_)
  clear F43 ac43
  refine s_new (cs := #[.int .i64 0, .int .i64 0, .int .i64 0, .int .i64 0, .int .i64 0, .int .i64 0, .int .i64 0, .int .i64 0, .int .i64 0, .int .i64 0, .int .i64 0, .int .i64 0, .int .i64 0]) F44 (run_guard rfl) rfl rfl (r_alloc rfl (feluccalaw04_small.zv38 _) rfl) (fun ac45 w22 b11 hb hge hlt hE F45 => ?_)
  clear F44 ac44
  have GEX6 := Aside0.mk (Nat.le_trans HB.out.size hge)
  have LTX1_X6 := Aside0.mk (Nat.lt_of_lt_of_le (blk_lt X1.out) hge)
  have LTX2_X6 := Aside0.mk (Nat.lt_of_lt_of_le (blk_lt X2.out) hge)
  have LTX3_X6 := Aside0.mk (Nat.lt_of_lt_of_le (blk_lt X3.out) hge)
  replace X1 := Aside0.mk (blk_below X1.out hE)
  replace R1 := Aside0.mk (Kd.R_below R1.out hE)
  replace X2 := Aside0.mk (blk_below X2.out hE)
  replace X3 := Aside0.mk (blk_below X3.out hE)
  replace R6 := Aside0.mk (Kd.R_below R6.out hE)
  replace HB := Aside0.mk (below_step HB.out hE)
  have X6 := Aside0.mk hb
  clear hb hge hlt hE
  obtain ⟨w23, hs, hS⟩ := s_part (P := Tryd.prog) (t := 38) (l' := [.int .i64 y59, .int .i64 y60, .int .i64 y61, .int .i64 y62, .int .i64 y63, .int .i64 y64, .int .i64 y65, .int .i64 y66, .int .i64 y67, .int .i64 y68, .int .i64 y69, .int .i64 y70, .int .i64 y71]) X6.out 0 #[.int .i64 y59, .int .i64 y60, .int .i64 y61, .int .i64 y62, .int .i64 y63, .int .i64 y64, .int .i64 y65, .int .i64 y66, .int .i64 y67, .int .i64 y68, .int .i64 y69, .int .i64 y70, .int .i64 y71] rfl rfl feluccalaw04_small.sz38 rfl
  refine ss F45 (run_guard rfl) rfl (r_store rfl (F45.ev rfl) (F45.ev rfl) hs) ?_
  clear hs
  replace X1 := Aside0.mk (hS.blk X1.out (Nat.ne_of_lt LTX1_X6.out))
  replace R1 := Aside0.mk (R_set1 R1.out X6.out (by decide) hS)
  replace X2 := Aside0.mk (hS.blk X2.out (Nat.ne_of_lt LTX2_X6.out))
  replace X3 := Aside0.mk (hS.blk X3.out (Nat.ne_of_lt LTX3_X6.out))
  replace R6 := Aside0.mk (R_set1 R6.out X6.out (by decide) hS)
  replace HB := Aside0.mk (HB.out.trans (hS.below _ GEX6.out))
  replace X6 := Aside0.mk hS.here
  clear hS
  refine sv (v := .int .i64 y72) F45 (run_guard rfl) rfl rfl (r_assign rfl (F45.ev rfl)) (fun ac46 F46 => ?_)
  clear F45 ac45
  refine c_end F46 ?_
  refine hK8 _ _ ?_
  refine wp_seq_k (fun K9 hK9 => ?_)
  clear R6 X6 NE5
  refine wp_region_lit ?_
  replace h := Option.bind_eq_some_iff.1 h
  obtain ⟨⟨y73, y74, y75, y76, y77, y78, y79, y80, y81, y82, y83, y84, y85, y86⟩, hy, h⟩ := h
  refine sc F46 (run_guard rfl) rfl rfl (r_call rfl Tryd.func28 (by kernel_rfl) rfl rfl (m1 ev_c)) ?_
  refine (direct_Parse.calls k none 0 [] _ _ _ _ _ _ _ _ _ _ _ _ _ _ _ C_nil_ (Nat.le_refl _) hy).mono ?_
  rintro e w24 ⟨rfl, hE⟩
  clear hy
  replace X1 := Aside0.mk (blk_below X1.out hE)
  replace R1 := Aside0.mk (Kd.R_below R1.out hE)
  replace X2 := Aside0.mk (blk_below X2.out hE)
  replace X3 := Aside0.mk (blk_below X3.out hE)
  replace HB := Aside0.mk (below_step HB.out hE)
  refine ⟨_, rfl, fun ac47 F47 => ?_⟩
  clear hE F46 ac46
  refine sv (v := .tuple #[.agg #[.int .i64 y73, .int .i64 y74, .int .i64 y75, .int .i64 y76, .int .i64 y77, .int .i64 y78, .int .i64 y79, .int .i64 y80, .int .i64 y81, .int .i64 y82, .int .i64 y83, .int .i64 y84, .int .i64 y85], .int .i64 y86]) F47 (run_guard rfl) rfl rfl (r_move rfl (F47.ev rfl)) (fun ac48 F48 => ?_)
  clear F47 ac47
  refine sv (v := .agg #[.int .i64 y73, .int .i64 y74, .int .i64 y75, .int .i64 y76, .int .i64 y77, .int .i64 y78, .int .i64 y79, .int .i64 y80, .int .i64 y81, .int .i64 y82, .int .i64 y83, .int .i64 y84, .int .i64 y85]) F48 (run_guard rfl) rfl rfl (r_extract rfl (F48.ev rfl) rfl) (fun ac49 F49 => ?_)
  clear F48 ac48
  refine sv (v := .int .i64 y86) F49 (run_guard rfl) rfl rfl (r_extract rfl (F49.ev rfl) rfl) (fun ac50 F50 => ?_)
  clear F49 ac49
  refine s_new (cs := #[.int .i64 0, .int .i64 0, .int .i64 0, .int .i64 0, .int .i64 0, .int .i64 0, .int .i64 0, .int .i64 0, .int .i64 0, .int .i64 0, .int .i64 0, .int .i64 0, .int .i64 0]) F50 (run_guard rfl) rfl rfl (r_alloc rfl (feluccalaw04_small.zv38 _) rfl) (fun ac51 w25 b12 hb hge hlt hE F51 => ?_)
  clear F50 ac50
  have GEX7 := Aside0.mk (Nat.le_trans HB.out.size hge)
  have LTX1_X7 := Aside0.mk (Nat.lt_of_lt_of_le (blk_lt X1.out) hge)
  have LTX2_X7 := Aside0.mk (Nat.lt_of_lt_of_le (blk_lt X2.out) hge)
  have LTX3_X7 := Aside0.mk (Nat.lt_of_lt_of_le (blk_lt X3.out) hge)
  replace X1 := Aside0.mk (blk_below X1.out hE)
  replace R1 := Aside0.mk (Kd.R_below R1.out hE)
  replace X2 := Aside0.mk (blk_below X2.out hE)
  replace X3 := Aside0.mk (blk_below X3.out hE)
  replace HB := Aside0.mk (below_step HB.out hE)
  have X7 := Aside0.mk hb
  clear hb hge hlt hE
  obtain ⟨w26, hs, hS⟩ := s_part (P := Tryd.prog) (t := 38) (l' := [.int .i64 y73, .int .i64 y74, .int .i64 y75, .int .i64 y76, .int .i64 y77, .int .i64 y78, .int .i64 y79, .int .i64 y80, .int .i64 y81, .int .i64 y82, .int .i64 y83, .int .i64 y84, .int .i64 y85]) X7.out 0 #[.int .i64 y73, .int .i64 y74, .int .i64 y75, .int .i64 y76, .int .i64 y77, .int .i64 y78, .int .i64 y79, .int .i64 y80, .int .i64 y81, .int .i64 y82, .int .i64 y83, .int .i64 y84, .int .i64 y85] rfl rfl feluccalaw04_small.sz38 rfl
  refine ss F51 (run_guard rfl) rfl (r_store rfl (F51.ev rfl) (F51.ev rfl) hs) ?_
  clear hs
  replace X1 := Aside0.mk (hS.blk X1.out (Nat.ne_of_lt LTX1_X7.out))
  replace R1 := Aside0.mk (R_set1 R1.out X7.out (by decide) hS)
  replace X2 := Aside0.mk (hS.blk X2.out (Nat.ne_of_lt LTX2_X7.out))
  replace X3 := Aside0.mk (hS.blk X3.out (Nat.ne_of_lt LTX3_X7.out))
  replace HB := Aside0.mk (HB.out.trans (hS.below _ GEX7.out))
  replace X7 := Aside0.mk hS.here
  clear hS
  refine sv (v := .int .i64 y86) F51 (run_guard rfl) rfl rfl (r_assign rfl (F51.ev rfl)) (fun ac52 F52 => ?_)
  clear F51 ac51
  refine c_end F52 ?_
  refine hK9 _ _ ?_
  refine wp_seq_k (fun K10 hK10 => ?_)
  clear X7
  refine wp_region_lit ?_
  refine sv (v := .slice (some ⟨w26.heap.size, 0, none⟩) 6 6) F52 (run_guard rfl) rfl rfl (r_buildSlice rfl (p6 ev_c ev_c ev_c ev_c ev_c ev_c) (feluccalaw04_small.bsl39_6 _ _ _ _ _ _ _)) (fun ac53 F53 => ?_)
  clear F52 ac52
  have hR := R_litM (w := w26) (d := Kd.string) (n := 6) ([(⟨#[99]⟩ : ByteArray), (⟨#[114, 97, 110, 103, 101]⟩ : ByteArray), (⟨#[49]⟩ : ByteArray), (⟨#[50]⟩ : ByteArray), (⟨#[48]⟩ : ByteArray), (⟨#[53]⟩ : ByteArray)] : List ByteArray) [.string (⟨#[99]⟩ : ByteArray), .string (⟨#[114, 97, 110, 103, 101]⟩ : ByteArray), .string (⟨#[49]⟩ : ByteArray), .string (⟨#[50]⟩ : ByteArray), .string (⟨#[48]⟩ : ByteArray), .string (⟨#[53]⟩ : ByteArray)] 9 rfl (by decide) (fun _ _ => (Reps.front (c := [.string (⟨#[99]⟩ : ByteArray)]) rfl rfl (Reps.front (c := [.string (⟨#[114, 97, 110, 103, 101]⟩ : ByteArray)]) rfl rfl (Reps.front (c := [.string (⟨#[49]⟩ : ByteArray)]) rfl rfl (Reps.front (c := [.string (⟨#[50]⟩ : ByteArray)]) rfl rfl (Reps.front (c := [.string (⟨#[48]⟩ : ByteArray)]) rfl rfl (Reps.front (c := [.string (⟨#[53]⟩ : ByteArray)]) rfl rfl reps_nil rfl) rfl) rfl) rfl) rfl) rfl))
  have hAR1 := apart_new R1.out hR
  replace hR := Kd.R_lower hR HB.out.size
  have hE := (Below.refl w26.heap.size w26).alloc (Nat.le_refl _) (.cells #[.string (⟨#[99]⟩ : ByteArray), .string (⟨#[114, 97, 110, 103, 101]⟩ : ByteArray), .string (⟨#[49]⟩ : ByteArray), .string (⟨#[50]⟩ : ByteArray), .string (⟨#[48]⟩ : ByteArray), .string (⟨#[53]⟩ : ByteArray)] 9)
  generalize w26.alloc (.cells #[.string (⟨#[99]⟩ : ByteArray), .string (⟨#[114, 97, 110, 103, 101]⟩ : ByteArray), .string (⟨#[49]⟩ : ByteArray), .string (⟨#[50]⟩ : ByteArray), .string (⟨#[48]⟩ : ByteArray), .string (⟨#[53]⟩ : ByteArray)] 9) = w27 at hR hE ⊢
  replace X1 := Aside0.mk (blk_below X1.out hE)
  replace R1 := Aside0.mk (Kd.R_below R1.out hE)
  replace X2 := Aside0.mk (blk_below X2.out hE)
  replace X3 := Aside0.mk (blk_below X3.out hE)
  replace HB := Aside0.mk (below_step HB.out hE)
  generalize w26.heap.size = b13 at hR F53 hAR1
  have R7 := Aside0.mk hR
  clear hR hE
  have NE6 := Aside0.mk hAR1
  clear hAR1
  replace h := Option.bind_eq_some_iff.1 h
  obtain ⟨⟨y87, y88, y89, y90, y91, y92, y93, y94, y95, y96, y97, y98, y99, y100⟩, hy, h⟩ := h
  refine sc F53 (run_guard rfl) rfl rfl (r_call rfl Tryd.func28 (by kernel_rfl) rfl rfl (m1 (F53.ev rfl))) ?_
  refine (direct_Parse.calls k (some ⟨b13, 0, none⟩) 6 ([(⟨#[99]⟩ : ByteArray), (⟨#[114, 97, 110, 103, 101]⟩ : ByteArray), (⟨#[49]⟩ : ByteArray), (⟨#[50]⟩ : ByteArray), (⟨#[48]⟩ : ByteArray), (⟨#[53]⟩ : ByteArray)] : List ByteArray) _ _ _ _ _ _ _ _ _ _ _ _ _ _ _ (Kd.R_reads' R7.out).2.2 (Kd.R_reads' R7.out).2.1 hy).mono ?_
  rintro e w28 ⟨rfl, hE⟩
  clear hy
  replace X1 := Aside0.mk (blk_below X1.out hE)
  replace R1 := Aside0.mk (Kd.R_below R1.out hE)
  replace X2 := Aside0.mk (blk_below X2.out hE)
  replace X3 := Aside0.mk (blk_below X3.out hE)
  replace R7 := Aside0.mk (Kd.R_below R7.out hE)
  replace HB := Aside0.mk (below_step HB.out hE)
  refine ⟨_, rfl, fun ac54 F54 => ?_⟩
  clear hE F53 ac53
  refine sv (v := .tuple #[.agg #[.int .i64 y87, .int .i64 y88, .int .i64 y89, .int .i64 y90, .int .i64 y91, .int .i64 y92, .int .i64 y93, .int .i64 y94, .int .i64 y95, .int .i64 y96, .int .i64 y97, .int .i64 y98, .int .i64 y99], .int .i64 y100]) F54 (run_guard rfl) rfl rfl (r_move rfl (F54.ev rfl)) (fun ac55 F55 => ?_)
  clear F54 ac54
  refine sv (v := .agg #[.int .i64 y87, .int .i64 y88, .int .i64 y89, .int .i64 y90, .int .i64 y91, .int .i64 y92, .int .i64 y93, .int .i64 y94, .int .i64 y95, .int .i64 y96, .int .i64 y97, .int .i64 y98, .int .i64 y99]) F55 (run_guard rfl) rfl rfl (r_extract rfl (F55.ev rfl) rfl) (fun ac56 F56 => ?_)
  clear F55 ac55
  refine sv (v := .int .i64 y100) F56 (run_guard rfl) rfl rfl (r_extract rfl (F56.ev rfl) rfl) (fun ac57 F57 => ?_)
  clear F56 ac56
  refine s_new (cs := #[.int .i64 0, .int .i64 0, .int .i64 0, .int .i64 0, .int .i64 0, .int .i64 0, .int .i64 0, .int .i64 0, .int .i64 0, .int .i64 0, .int .i64 0, .int .i64 0, .int .i64 0]) F57 (run_guard rfl) rfl rfl (r_alloc rfl (feluccalaw04_small.zv38 _) rfl) (fun ac58 w29 b14 hb hge hlt hE F58 => ?_)
  clear F57 ac57
  have GEX8 := Aside0.mk (Nat.le_trans HB.out.size hge)
  have LTX1_X8 := Aside0.mk (Nat.lt_of_lt_of_le (blk_lt X1.out) hge)
  have LTX2_X8 := Aside0.mk (Nat.lt_of_lt_of_le (blk_lt X2.out) hge)
  have LTX3_X8 := Aside0.mk (Nat.lt_of_lt_of_le (blk_lt X3.out) hge)
  replace X1 := Aside0.mk (blk_below X1.out hE)
  replace R1 := Aside0.mk (Kd.R_below R1.out hE)
  replace X2 := Aside0.mk (blk_below X2.out hE)
  replace X3 := Aside0.mk (blk_below X3.out hE)
  replace R7 := Aside0.mk (Kd.R_below R7.out hE)
  replace HB := Aside0.mk (below_step HB.out hE)
  have X8 := Aside0.mk hb
  clear hb hge hlt hE
  obtain ⟨w30, hs, hS⟩ := s_part (P := Tryd.prog) (t := 38) (l' := [.int .i64 y87, .int .i64 y88, .int .i64 y89, .int .i64 y90, .int .i64 y91, .int .i64 y92, .int .i64 y93, .int .i64 y94, .int .i64 y95, .int .i64 y96, .int .i64 y97, .int .i64 y98, .int .i64 y99]) X8.out 0 #[.int .i64 y87, .int .i64 y88, .int .i64 y89, .int .i64 y90, .int .i64 y91, .int .i64 y92, .int .i64 y93, .int .i64 y94, .int .i64 y95, .int .i64 y96, .int .i64 y97, .int .i64 y98, .int .i64 y99] rfl rfl feluccalaw04_small.sz38 rfl
  refine ss F58 (run_guard rfl) rfl (r_store rfl (F58.ev rfl) (F58.ev rfl) hs) ?_
  clear hs
  replace X1 := Aside0.mk (hS.blk X1.out (Nat.ne_of_lt LTX1_X8.out))
  replace R1 := Aside0.mk (R_set1 R1.out X8.out (by decide) hS)
  replace X2 := Aside0.mk (hS.blk X2.out (Nat.ne_of_lt LTX2_X8.out))
  replace X3 := Aside0.mk (hS.blk X3.out (Nat.ne_of_lt LTX3_X8.out))
  replace R7 := Aside0.mk (R_set1 R7.out X8.out (by decide) hS)
  replace HB := Aside0.mk (HB.out.trans (hS.below _ GEX8.out))
  replace X8 := Aside0.mk hS.here
  clear hS
  refine sv (v := .int .i64 y100) F58 (run_guard rfl) rfl rfl (r_assign rfl (F58.ev rfl)) (fun ac59 F59 => ?_)
  clear F58 ac58
  refine c_end F59 ?_
  refine hK10 _ _ ?_
  refine wp_seq_k (fun K11 hK11 => ?_)
  clear R7 NE6
  refine wp_region_lit ?_
  refine sv (v := .slice Aq1 y1.length cq1) F59 (run_guard rfl) rfl rfl (r_move rfl (F59.ev rfl)) (fun ac60 F60 => ?_)
  clear F59 ac59
  refine sv (v := .slice (some ⟨w30.heap.size, 0, none⟩) 8 8) F60 (run_guard rfl) rfl rfl (r_buildSlice rfl (p8 ev_c ev_c ev_c ev_c ev_c ev_c ev_c ev_c) (feluccalaw04_small.bsl39_8 _ _ _ _ _ _ _ _ _)) (fun ac61 F61 => ?_)
  clear F60 ac60
  have hR := R_litM (w := w30) (d := Kd.string) (n := 8) ([(⟨#[97]⟩ : ByteArray), (⟨#[99, 111, 110, 116, 97, 99, 116]⟩ : ByteArray), (⟨#[55]⟩ : ByteArray), (⟨#[49]⟩ : ByteArray), (⟨#[50]⟩ : ByteArray), (⟨#[49, 48]⟩ : ByteArray), (⟨#[50, 48]⟩ : ByteArray), (⟨#[51]⟩ : ByteArray)] : List ByteArray) [.string (⟨#[97]⟩ : ByteArray), .string (⟨#[99, 111, 110, 116, 97, 99, 116]⟩ : ByteArray), .string (⟨#[55]⟩ : ByteArray), .string (⟨#[49]⟩ : ByteArray), .string (⟨#[50]⟩ : ByteArray), .string (⟨#[49, 48]⟩ : ByteArray), .string (⟨#[50, 48]⟩ : ByteArray), .string (⟨#[51]⟩ : ByteArray)] 9 rfl (by decide) (fun _ _ => (Reps.front (c := [.string (⟨#[97]⟩ : ByteArray)]) rfl rfl (Reps.front (c := [.string (⟨#[99, 111, 110, 116, 97, 99, 116]⟩ : ByteArray)]) rfl rfl (Reps.front (c := [.string (⟨#[55]⟩ : ByteArray)]) rfl rfl (Reps.front (c := [.string (⟨#[49]⟩ : ByteArray)]) rfl rfl (Reps.front (c := [.string (⟨#[50]⟩ : ByteArray)]) rfl rfl (Reps.front (c := [.string (⟨#[49, 48]⟩ : ByteArray)]) rfl rfl (Reps.front (c := [.string (⟨#[50, 48]⟩ : ByteArray)]) rfl rfl (Reps.front (c := [.string (⟨#[51]⟩ : ByteArray)]) rfl rfl reps_nil rfl) rfl) rfl) rfl) rfl) rfl) rfl) rfl))
  have hAR1 := apart_new R1.out hR
  replace hR := Kd.R_lower hR HB.out.size
  have hE := (Below.refl w30.heap.size w30).alloc (Nat.le_refl _) (.cells #[.string (⟨#[97]⟩ : ByteArray), .string (⟨#[99, 111, 110, 116, 97, 99, 116]⟩ : ByteArray), .string (⟨#[55]⟩ : ByteArray), .string (⟨#[49]⟩ : ByteArray), .string (⟨#[50]⟩ : ByteArray), .string (⟨#[49, 48]⟩ : ByteArray), .string (⟨#[50, 48]⟩ : ByteArray), .string (⟨#[51]⟩ : ByteArray)] 9)
  generalize w30.alloc (.cells #[.string (⟨#[97]⟩ : ByteArray), .string (⟨#[99, 111, 110, 116, 97, 99, 116]⟩ : ByteArray), .string (⟨#[55]⟩ : ByteArray), .string (⟨#[49]⟩ : ByteArray), .string (⟨#[50]⟩ : ByteArray), .string (⟨#[49, 48]⟩ : ByteArray), .string (⟨#[50, 48]⟩ : ByteArray), .string (⟨#[51]⟩ : ByteArray)] 9) = w31 at hR hE ⊢
  replace X1 := Aside0.mk (blk_below X1.out hE)
  replace R1 := Aside0.mk (Kd.R_below R1.out hE)
  replace X2 := Aside0.mk (blk_below X2.out hE)
  replace X3 := Aside0.mk (blk_below X3.out hE)
  replace X8 := Aside0.mk (blk_below X8.out hE)
  replace HB := Aside0.mk (below_step HB.out hE)
  generalize w30.heap.size = b15 at hR F61 hAR1
  have R8 := Aside0.mk hR
  clear hR hE
  have NE7 := Aside0.mk hAR1
  clear hAR1
  replace h := Option.bind_eq_some_iff.1 h
  obtain ⟨y101, hy, h⟩ := h
  refine sc F61 (run_guard rfl) rfl rfl (r_call rfl Tryd.func32 (by kernel_rfl) rfl rfl (m2 (F61.ev rfl) (F61.ev rfl))) ?_
  refine (feluccaref02_Same.calls k Aq1 cq1 y1 (some ⟨b15, 0, none⟩) 8 ([(⟨#[97]⟩ : ByteArray), (⟨#[99, 111, 110, 116, 97, 99, 116]⟩ : ByteArray), (⟨#[55]⟩ : ByteArray), (⟨#[49]⟩ : ByteArray), (⟨#[50]⟩ : ByteArray), (⟨#[49, 48]⟩ : ByteArray), (⟨#[50, 48]⟩ : ByteArray), (⟨#[51]⟩ : ByteArray)] : List ByteArray) _ _ (Kd.R_reads' R1.out).2.2 (Kd.R_reads' R1.out).2.1 (Kd.R_reads' R8.out).2.2 (Kd.R_reads' R8.out).2.1 hy).mono ?_
  rintro e w32 ⟨rfl, hE⟩
  clear hy
  replace X1 := Aside0.mk (blk_below X1.out hE)
  replace R1 := Aside0.mk (Kd.R_below R1.out hE)
  replace X2 := Aside0.mk (blk_below X2.out hE)
  replace X3 := Aside0.mk (blk_below X3.out hE)
  replace X8 := Aside0.mk (blk_below X8.out hE)
  replace R8 := Aside0.mk (Kd.R_below R8.out hE)
  replace HB := Aside0.mk (below_step HB.out hE)
  refine ⟨_, rfl, fun ac62 F62 => ?_⟩
  clear hE F61 ac61
  refine sv (v := .bool y101) F62 (run_guard rfl) rfl rfl (r_move rfl (F62.ev rfl)) (fun ac63 F63 => ?_)
  clear F62 ac62
  cases hT1 : y101 with
  | true =>
    replace h := cond_t hT1 h
    refine sv (v := .bool y2) F63 (g_on F63 rfl rfl rfl (lk rfl hT1)) rfl rfl (r_move rfl (F63.ev rfl)) (fun ac64 F64 => ?_)
    clear F63 ac63
    refine sv (v := .bool y2) F64 (run_guard rfl) rfl rfl (r_pick_t rfl (F64.ev (lk rfl hT1)) (F64.ev rfl)) (fun ac65 F65 => ?_)
    clear F64 ac64
    refine sv (v := .bool y2) F65 (run_guard rfl) rfl rfl (r_move rfl (F65.ev rfl)) (fun ac66 F66 => ?_)
    clear F65 ac65
    cases hT2 : y2 with
    | true =>
      replace h := cond_t hT2 h
      refine sv (v := .agg #[.int .i64 y3, .int .i64 y4, .int .i64 y5, .int .i64 y6, .int .i64 y7, .int .i64 y8, .int .i64 y9, .int .i64 y10, .int .i64 y11, .int .i64 y12, .int .i64 y13, .int .i64 y14, .int .i64 y15]) F66 (g_on F66 rfl rfl rfl (lk rfl hT2)) rfl rfl (r_load rfl (F66.ev rfl) (l_part X2.out 0 [.int .i64 y3, .int .i64 y4, .int .i64 y5, .int .i64 y6, .int .i64 y7, .int .i64 y8, .int .i64 y9, .int .i64 y10, .int .i64 y11, .int .i64 y12, .int .i64 y13, .int .i64 y14, .int .i64 y15] rfl Tryd.underlying38 rfl feluccalaw04_small.sz38)) (fun ac67 F67 => ?_)
      clear F66 ac66
      refine sv (v := .agg #[.int .i64 7, .int .i64 0, .int .i64 0, .int .i64 0, .int .i64 0, .int .i64 0]) F67 (g_on F67 rfl rfl rfl (lk rfl hT2)) rfl rfl (r_build rfl (p1 ev_c) (feluccalaw04_small.bld34_0 _ _)) (fun ac68 F68 => ?_)
      clear F67 ac67
      refine sv (v := .agg #[.int .i64 2, .int .i64 1, .int .i64 7, .int .i64 0, .int .i64 0, .int .i64 0, .int .i64 0, .int .i64 0, .int .i64 0, .int .i64 0, .int .i64 0, .int .i64 0, .int .i64 0]) F68 (g_on F68 rfl rfl rfl (lk rfl hT2)) rfl rfl (r_build rfl (p3 ev_c ev_c (F68.ev rfl)) (feluccalaw04_small.bld38_0_1_2 _ _ _ _ _ _ _ _ _)) (fun ac69 F69 => ?_)
      clear F68 ac68
      refine sv (v := .bool (y3 == 2 && (y4 == 1 && ((y5 == 7 && (y6 == 0 && (y7 == 0 && (y8 == 0 && (y9 == 0 && (y10 == 0)))))) && ((y11 == 0 && (y12 == 0 && (y13 == 0 && (y14 == 0 && (y15 == 0)))))))))) F69 (g_on F69 rfl rfl rfl (lk rfl hT2)) rfl rfl (r_bin rfl (F69.ev rfl) (F69.ev rfl) (eqg_no feluccalaw04_small.eg38 _) (feluccalaw04_small.eq38 _ _ _ _ _ _ _ _ _ _ _ _ _ _ _ _ _ _ _ _ _ _ _ _ _ _ _)) (fun ac70 F70 => ?_)
      clear F69 ac69
      refine sv (v := .bool (y3 == 2 && (y4 == 1 && ((y5 == 7 && (y6 == 0 && (y7 == 0 && (y8 == 0 && (y9 == 0 && (y10 == 0)))))) && ((y11 == 0 && (y12 == 0 && (y13 == 0 && (y14 == 0 && (y15 == 0)))))))))) F70 (run_guard rfl) rfl rfl (r_pick_t rfl (F70.ev (lk rfl hT2)) (F70.ev rfl)) (fun ac71 F71 => ?_)
      clear F70 ac70
      refine sv (v := .bool (y3 == 2 && (y4 == 1 && ((y5 == 7 && (y6 == 0 && (y7 == 0 && (y8 == 0 && (y9 == 0 && (y10 == 0)))))) && ((y11 == 0 && (y12 == 0 && (y13 == 0 && (y14 == 0 && (y15 == 0)))))))))) F71 (run_guard rfl) rfl rfl (r_move rfl (F71.ev rfl)) (fun ac72 F72 => ?_)
      clear F71 ac71
      cases hT3 : (y3 == 2 && (y4 == 1 && ((y5 == 7 && (y6 == 0 && (y7 == 0 && (y8 == 0 && (y9 == 0 && (y10 == 0)))))) && ((y11 == 0 && (y12 == 0 && (y13 == 0 && (y14 == 0 && (y15 == 0))))))))) with
      | true =>
        replace h := cond_t hT3 h
        refine sv (v := .int .i64 y16) F72 (g_on F72 rfl rfl rfl (lk rfl hT3)) rfl rfl (r_move rfl (F72.ev rfl)) (fun ac73 F73 => ?_)
        clear F72 ac72
        refine sv (v := .bool (decide (y16 = 0))) F73 (g_on F73 rfl rfl rfl (lk rfl hT3)) rfl rfl (r_eql rfl (F73.ev rfl) ev_c) (fun ac74 F74 => ?_)
        clear F73 ac73
        refine sv (v := .bool (decide (y16 = 0))) F74 (run_guard rfl) rfl rfl (r_pick_t rfl (F74.ev (lk rfl hT3)) (F74.ev rfl)) (fun ac75 F75 => ?_)
        clear F74 ac74
        refine sv (v := .bool (decide (y16 = 0))) F75 (run_guard rfl) rfl rfl (r_move rfl (F75.ev rfl)) (fun ac76 F76 => ?_)
        clear F75 ac75
        cases hT4 : decide (y16 = 0) with
        | true =>
          replace h := cond_t hT4 h
          refine sv (v := .pointer (some ⟨b5, 8, none⟩)) F76 (g_on F76 rfl rfl rfl (lk rfl hT4)) rfl rfl (r_fieldAddr rfl (F76.ev rfl) (feluccalaw04_small.fa38_3 _ _ _)) (fun ac77 F77 => ?_)
          clear F76 ac76
          refine sv (v := .agg #[.int .i64 y25, .int .i64 y26, .int .i64 y27, .int .i64 y28, .int .i64 y29]) F77 (g_on F77 rfl rfl rfl (lk rfl hT4)) rfl rfl (r_load rfl (F77.ev rfl) (l_part X3.out 8 [.int .i64 y25, .int .i64 y26, .int .i64 y27, .int .i64 y28, .int .i64 y29] rfl Tryd.underlying36 rfl feluccalaw04_small.sz36)) (fun ac78 F78 => ?_)
          clear F77 ac77
          refine sv (v := .agg #[.int .i64 1, .int .i64 2, .int .i64 0, .int .i64 9, .int .i64 4]) F78 (g_on F78 rfl rfl rfl (lk rfl hT4)) rfl rfl (r_build rfl (p4 ev_c ev_c ev_c ev_c) (feluccalaw04_small.bld36_0_1_3_4 _ _ _ _ _)) (fun ac79 F79 => ?_)
          clear F78 ac78
          refine sv (v := .bool (y25 == 1 && (y26 == 2 && (y27 == 0 && (y28 == 9 && (y29 == 4)))))) F79 (g_on F79 rfl rfl rfl (lk rfl hT4)) rfl rfl (r_bin rfl (F79.ev rfl) (F79.ev rfl) (eqg_no feluccalaw04_small.eg36 _) (feluccalaw04_small.eq36 _ _ _ _ _ _ _ _ _ _ _)) (fun ac80 F80 => ?_)
          clear F79 ac79
          refine sv (v := .bool (y25 == 1 && (y26 == 2 && (y27 == 0 && (y28 == 9 && (y29 == 4)))))) F80 (run_guard rfl) rfl rfl (r_pick_t rfl (F80.ev (lk rfl hT4)) (F80.ev rfl)) (fun ac81 F81 => ?_)
          clear F80 ac80
          refine sv (v := .bool (y25 == 1 && (y26 == 2 && (y27 == 0 && (y28 == 9 && (y29 == 4)))))) F81 (run_guard rfl) rfl rfl (r_move rfl (F81.ev rfl)) (fun ac82 F82 => ?_)
          clear F81 ac81
          cases hT5 : (y25 == 1 && (y26 == 2 && (y27 == 0 && (y28 == 9 && (y29 == 4))))) with
          | true =>
            replace h := cond_t hT5 h
            refine sv (v := .int .i64 y30) F82 (g_on F82 rfl rfl rfl (lk rfl hT5)) rfl rfl (r_move rfl (F82.ev rfl)) (fun ac83 F83 => ?_)
            clear F82 ac82
            refine sv (v := .bool (decide (y30 = 0))) F83 (g_on F83 rfl rfl rfl (lk rfl hT5)) rfl rfl (r_eql rfl (F83.ev rfl) ev_c) (fun ac84 F84 => ?_)
            clear F83 ac83
            refine sv (v := .bool (decide (y30 = 0))) F84 (run_guard rfl) rfl rfl (r_pick_t rfl (F84.ev (lk rfl hT5)) (F84.ev rfl)) (fun ac85 F85 => ?_)
            clear F84 ac84
            refine sv (v := .bool (decide (y30 = 0))) F85 (run_guard rfl) rfl rfl (r_move rfl (F85.ev rfl)) (fun ac86 F86 => ?_)
            clear F85 ac85
            cases hT6 : decide (y30 = 0) with
            | true =>
              replace h := cond_t hT6 h
              refine sv (v := .int .i64 y44) F86 (g_on F86 rfl rfl rfl (lk rfl hT6)) rfl rfl (r_move rfl (F86.ev rfl)) (fun ac87 F87 => ?_)
              clear F86 ac86
              refine sv (v := .bool (decide (y44 = 1))) F87 (g_on F87 rfl rfl rfl (lk rfl hT6)) rfl rfl (r_eql rfl (F87.ev rfl) ev_c) (fun ac88 F88 => ?_)
              clear F87 ac87
              refine sv (v := .bool (decide (y44 = 1))) F88 (run_guard rfl) rfl rfl (r_pick_t rfl (F88.ev (lk rfl hT6)) (F88.ev rfl)) (fun ac89 F89 => ?_)
              clear F88 ac88
              refine sv (v := .bool (decide (y44 = 1))) F89 (run_guard rfl) rfl rfl (r_move rfl (F89.ev rfl)) (fun ac90 F90 => ?_)
              clear F89 ac89
              cases hT7 : decide (y44 = 1) with
              | true =>
                replace h := cond_t hT7 h
                refine sv (v := .int .i64 y58) F90 (g_on F90 rfl rfl rfl (lk rfl hT7)) rfl rfl (r_move rfl (F90.ev rfl)) (fun ac91 F91 => ?_)
                clear F90 ac90
                refine sv (v := .bool (decide (y58 = 2))) F91 (g_on F91 rfl rfl rfl (lk rfl hT7)) rfl rfl (r_eql rfl (F91.ev rfl) ev_c) (fun ac92 F92 => ?_)
                clear F91 ac91
                refine sv (v := .bool (decide (y58 = 2))) F92 (run_guard rfl) rfl rfl (r_pick_t rfl (F92.ev (lk rfl hT7)) (F92.ev rfl)) (fun ac93 F93 => ?_)
                clear F92 ac92
                refine sv (v := .bool (decide (y58 = 2))) F93 (run_guard rfl) rfl rfl (r_move rfl (F93.ev rfl)) (fun ac94 F94 => ?_)
                clear F93 ac93
                cases hT8 : decide (y58 = 2) with
                | true =>
                  replace h := cond_t hT8 h
                  refine sv (v := .int .i64 y72) F94 (g_on F94 rfl rfl rfl (lk rfl hT8)) rfl rfl (r_move rfl (F94.ev rfl)) (fun ac95 F95 => ?_)
                  clear F94 ac94
                  refine sv (v := .bool (decide (y72 = 2))) F95 (g_on F95 rfl rfl rfl (lk rfl hT8)) rfl rfl (r_eql rfl (F95.ev rfl) ev_c) (fun ac96 F96 => ?_)
                  clear F95 ac95
                  refine sv (v := .bool (decide (y72 = 2))) F96 (run_guard rfl) rfl rfl (r_pick_t rfl (F96.ev (lk rfl hT8)) (F96.ev rfl)) (fun ac97 F97 => ?_)
                  clear F96 ac96
                  refine sv (v := .bool (decide (y72 = 2))) F97 (run_guard rfl) rfl rfl (r_move rfl (F97.ev rfl)) (fun ac98 F98 => ?_)
                  clear F97 ac97
                  cases hT9 : decide (y72 = 2) with
                  | true =>
                    replace h := cond_t hT9 h
                    refine sv (v := .int .i64 y86) F98 (g_on F98 rfl rfl rfl (lk rfl hT9)) rfl rfl (r_move rfl (F98.ev rfl)) (fun ac99 F99 => ?_)
                    clear F98 ac98
                    refine sv (v := .bool (decide (y86 = 2))) F99 (g_on F99 rfl rfl rfl (lk rfl hT9)) rfl rfl (r_eql rfl (F99.ev rfl) ev_c) (fun ac100 F100 => ?_)
                    clear F99 ac99
                    refine sv (v := .bool (decide (y86 = 2))) F100 (run_guard rfl) rfl rfl (r_pick_t rfl (F100.ev (lk rfl hT9)) (F100.ev rfl)) (fun ac101 F101 => ?_)
                    clear F100 ac100
                    refine sv (v := .bool (decide (y86 = 2))) F101 (run_guard rfl) rfl rfl (r_move rfl (F101.ev rfl)) (fun ac102 F102 => ?_)
                    clear F101 ac101
                    cases hT10 : decide (y86 = 2) with
                    | true =>
                      replace h := cond_t hT10 h
                      refine sv (v := .pointer (some ⟨b14, 0, none⟩)) F102 (g_on F102 rfl rfl rfl (lk rfl hT10)) rfl rfl (r_fieldAddr rfl (F102.ev rfl) (feluccalaw04_small.fa38_0 _ _ _)) (fun ac103 F103 => ?_)
                      clear F102 ac102
                      refine sv (v := .int .i64 y87) F103 (g_on F103 rfl rfl rfl (lk rfl hT10)) rfl rfl (r_load rfl (F103.ev rfl) (l_one X8.out 0 rfl (agg_no Tryd.underlying3 rfl))) (fun ac104 F104 => ?_)
                      clear F103 ac103
                      refine sv (v := .bool (decide (y87 = 3))) F104 (g_on F104 rfl rfl rfl (lk rfl hT10)) rfl rfl (r_eql rfl (F104.ev rfl) ev_c) (fun ac105 F105 => ?_)
                      clear F104 ac104
                      refine sv (v := .bool (decide (y87 = 3))) F105 (run_guard rfl) rfl rfl (r_pick_t rfl (F105.ev (lk rfl hT10)) (F105.ev rfl)) (fun ac106 F106 => ?_)
                      clear F105 ac105
                      refine sv (v := .bool (decide (y87 = 3))) F106 (run_guard rfl) rfl rfl (r_move rfl (F106.ev rfl)) (fun ac107 F107 => ?_)
                      clear F106 ac106
                      cases hT11 : decide (y87 = 3) with
                      | true =>
                        replace h := cond_t hT11 h
                        refine sv (v := .pointer (some ⟨b14, 8, none⟩)) F107 (g_on F107 rfl rfl rfl (lk rfl hT11)) rfl rfl (r_fieldAddr rfl (F107.ev rfl) (feluccalaw04_small.fa38_3 _ _ _)) (fun ac108 F108 => ?_)
                        clear F107 ac107
                        refine sv (v := .pointer (some ⟨b14, 12, none⟩)) F108 (g_on F108 rfl rfl rfl (lk rfl hT11)) rfl rfl (r_fieldAddr rfl (F108.ev rfl) (feluccalaw04_small.fa36_4 _ _ _)) (fun ac109 F109 => ?_)
                        clear F108 ac108
                        refine sv (v := .int .i64 y99) F109 (g_on F109 rfl rfl rfl (lk rfl hT11)) rfl rfl (r_load rfl (F109.ev rfl) (l_one X8.out 12 rfl (agg_no Tryd.underlying3 rfl))) (fun ac110 F110 => ?_)
                        clear F109 ac109
                        refine sv (v := .bool (decide (y99 = 5))) F110 (g_on F110 rfl rfl rfl (lk rfl hT11)) rfl rfl (r_eql rfl (F110.ev rfl) ev_c) (fun ac111 F111 => ?_)
                        clear F110 ac110
                        refine sv (v := .bool (decide (y99 = 5))) F111 (run_guard rfl) rfl rfl (r_pick_t rfl (F111.ev (lk rfl hT11)) (F111.ev rfl)) (fun ac112 F112 => ?_)
                        clear F111 ac111
                        refine sv (v := .bool (decide (y99 = 5))) F112 (run_guard rfl) rfl rfl (r_move rfl (F112.ev rfl)) (fun ac113 F113 => ?_)
                        clear F112 ac112
                        cases hT12 : decide (y99 = 5) with
                        | true =>
                          replace h := cond_t hT12 h
                          refine sv (v := .int .i64 y100) F113 (g_on F113 rfl rfl rfl (lk rfl hT12)) rfl rfl (r_move rfl (F113.ev rfl)) (fun ac114 F114 => ?_)
                          clear F113 ac113
                          refine sv (v := .bool (decide (y100 = 0))) F114 (g_on F114 rfl rfl rfl (lk rfl hT12)) rfl rfl (r_eql rfl (F114.ev rfl) ev_c) (fun ac115 F115 => ?_)
                          clear F114 ac114
                          refine sv (v := .bool (decide (y100 = 0))) F115 (run_guard rfl) rfl rfl (r_pick_t rfl (F115.ev (lk rfl hT12)) (F115.ev rfl)) (fun ac116 F116 => ?_)
                          clear F115 ac115
                          refine sv (v := .bool (decide (y100 = 0))) F116 (run_guard rfl) rfl rfl (r_move rfl (F116.ev rfl)) (fun ac117 F117 => ?_)
                          clear F116 ac116
                          cases hT13 : decide (y100 = 0) with
                          | true =>
                            replace h := cond_t hT13 h
                            refine sv (v := .agg #[.int .i64 1, .int .i64 1, .int .i64 7, .int .i64 1, .int .i64 2, .int .i64 10, .int .i64 20, .int .i64 3, .int .i64 0, .int .i64 0, .int .i64 0, .int .i64 0, .int .i64 0]) F117 (g_on F117 rfl rfl rfl (lk rfl hT13)) rfl rfl (r_load rfl (F117.ev rfl) (l_part X1.out 0 [.int .i64 1, .int .i64 1, .int .i64 7, .int .i64 1, .int .i64 2, .int .i64 10, .int .i64 20, .int .i64 3, .int .i64 0, .int .i64 0, .int .i64 0, .int .i64 0, .int .i64 0] rfl Tryd.underlying38 rfl feluccalaw04_small.sz38)) (fun ac118 F118 => ?_)
                            clear F117 ac117
                            replace h := Option.bind_eq_some_iff.1 h
                            obtain ⟨y102, hy, h⟩ := h
                            refine sc F118 (g_on F118 rfl rfl rfl (lk rfl hT13)) rfl rfl (r_call rfl Tryd.func30 (by kernel_rfl) rfl rfl (m1 (F118.ev rfl))) ?_
                            refine (direct_Right.calls 1 1 7 1 2 10 20 3 0 0 0 0 0 _ _ hy).mono ?_
                            rintro e w33 ⟨rfl, hE⟩
                            clear hy
                            replace X1 := Aside0.mk (blk_below X1.out hE)
                            replace R1 := Aside0.mk (Kd.R_below R1.out hE)
                            replace X2 := Aside0.mk (blk_below X2.out hE)
                            replace X3 := Aside0.mk (blk_below X3.out hE)
                            replace X8 := Aside0.mk (blk_below X8.out hE)
                            replace R8 := Aside0.mk (Kd.R_below R8.out hE)
                            replace HB := Aside0.mk (below_step HB.out hE)
                            refine ⟨_, rfl, fun ac119 F119 => ?_⟩
                            clear hE F118 ac118
                            refine sv (v := .bool y102) F119 (run_guard rfl) rfl rfl (r_pick_t rfl (F119.ev (lk rfl hT13)) (F119.ev rfl)) (fun ac120 F120 => ?_)
                            clear F119 ac119
                            refine sv (v := .bool y102) F120 (run_guard rfl) rfl rfl (r_move rfl (F120.ev rfl)) (fun ac121 F121 => ?_)
                            clear F120 ac120
                            cases hT14 : y102 with
                            | true =>
                              replace h := cond_t hT14 h
                              refine sv (v := .agg #[.int .i64 0, .int .i64 0, .int .i64 0, .int .i64 0, .int .i64 0, .int .i64 0, .int .i64 0, .int .i64 0, .int .i64 0, .int .i64 0, .int .i64 0, .int .i64 0, .int .i64 0]) F121 (g_on F121 rfl rfl rfl (lk rfl hT14)) rfl rfl (r_build rfl p0 (feluccalaw04_small.bld38_ _)) (fun ac122 F122 => ?_)
                              clear F121 ac121
                              replace h := Option.bind_eq_some_iff.1 h
                              obtain ⟨y103, hy, h⟩ := h
                              refine sc F122 (g_on F122 rfl rfl rfl (lk rfl hT14)) rfl rfl (r_call rfl Tryd.func30 (by kernel_rfl) rfl rfl (m1 (F122.ev rfl))) ?_
                              refine (direct_Right.calls 0 0 0 0 0 0 0 0 0 0 0 0 0 _ _ hy).mono ?_
                              rintro e w34 ⟨rfl, hE⟩
                              clear hy
                              replace X1 := Aside0.mk (blk_below X1.out hE)
                              replace R1 := Aside0.mk (Kd.R_below R1.out hE)
                              replace X2 := Aside0.mk (blk_below X2.out hE)
                              replace X3 := Aside0.mk (blk_below X3.out hE)
                              replace X8 := Aside0.mk (blk_below X8.out hE)
                              replace R8 := Aside0.mk (Kd.R_below R8.out hE)
                              replace HB := Aside0.mk (below_step HB.out hE)
                              refine ⟨_, rfl, fun ac123 F123 => ?_⟩
                              clear hE F122 ac122
                              refine sv (v := .bool (!y103)) F123 (g_on F123 rfl rfl rfl (lk rfl hT14)) rfl rfl (r_not (b := y103) rfl (F123.ev rfl)) (fun ac124 F124 => ?_)
                              clear F123 ac123
                              refine sv (v := .bool (!y103)) F124 (run_guard rfl) rfl rfl (r_pick_t rfl (F124.ev (lk rfl hT14)) (F124.ev rfl)) (fun ac125 F125 => ?_)
                              clear F124 ac124
                              refine sv (v := .bool (!y103)) F125 (run_guard rfl) rfl rfl (r_assign rfl (F125.ev rfl)) (fun ac126 F126 => ?_)
                              clear F125 ac125
                              refine c_end F126 ?_
                              refine hK11 _ _ ?_
                              refine wp_ret ?_
                              (try simp only [Exit.then, Exit.inBlock])
                              refine retx (fn := Tryd.f25) F126 (results1 (fn := Tryd.f25) rfl (rv_t (t := 0) (v := .bool (!y103)) F126 rfl)) ?_
                              cases h
                              exact ⟨rfl, HB.out⟩
                            | false =>
                              replace h := cond_f hT14 h
                              refine so F121 (g_off F121 rfl rfl rfl (lk rfl hT14)) rfl rfl (fun ac127 F127 => ?_)
                              clear F121 ac121
                              refine so F127 (g_off F127 rfl rfl rfl (lk rfl hT14)) rfl rfl (fun ac128 F128 => ?_)
                              clear F127 ac127
                              refine so F128 (g_off F128 rfl rfl rfl (lk rfl hT14)) rfl rfl (fun ac129 F129 => ?_)
                              clear F128 ac128
                              refine sv (v := .bool false) F129 (run_guard rfl) rfl rfl (r_pick_f rfl (F129.ev (lk rfl hT14)) ev_c) (fun ac130 F130 => ?_)
                              clear F129 ac129
                              refine sv (v := .bool false) F130 (run_guard rfl) rfl rfl (r_assign rfl (F130.ev rfl)) (fun ac131 F131 => ?_)
                              clear F130 ac130
                              refine c_end F131 ?_
                              refine hK11 _ _ ?_
                              refine wp_ret ?_
                              (try simp only [Exit.then, Exit.inBlock])
                              refine retx (fn := Tryd.f25) F131 (results1 (fn := Tryd.f25) rfl (rv_t (t := 0) (v := .bool false) F131 rfl)) ?_
                              cases h
                              exact ⟨rfl, HB.out⟩
                          | false =>
                            replace h := cond_f hT13 h
                            refine so F117 (g_off F117 rfl rfl rfl (lk rfl hT13)) rfl rfl (fun ac132 F132 => ?_)
                            clear F117 ac117
                            refine so F132 (g_off F132 rfl rfl rfl (lk rfl hT13)) rfl rfl (fun ac133 F133 => ?_)
                            clear F132 ac132
                            refine sv (v := .bool false) F133 (run_guard rfl) rfl rfl (r_pick_f rfl (F133.ev (lk rfl hT13)) ev_c) (fun ac134 F134 => ?_)
                            clear F133 ac133
                            refine sv (v := .bool false) F134 (run_guard rfl) rfl rfl (r_move rfl (F134.ev rfl)) (fun ac135 F135 => ?_)
                            clear F134 ac134
                            refine so F135 (g_off F135 rfl rfl rfl rfl) rfl rfl (fun ac136 F136 => ?_)
                            clear F135 ac135
                            refine so F136 (g_off F136 rfl rfl rfl rfl) rfl rfl (fun ac137 F137 => ?_)
                            clear F136 ac136
                            refine so F137 (g_off F137 rfl rfl rfl rfl) rfl rfl (fun ac138 F138 => ?_)
                            clear F137 ac137
                            refine sv (v := .bool false) F138 (run_guard rfl) rfl rfl (r_pick_f rfl (F138.ev rfl) ev_c) (fun ac139 F139 => ?_)
                            clear F138 ac138
                            refine sv (v := .bool false) F139 (run_guard rfl) rfl rfl (r_assign rfl (F139.ev rfl)) (fun ac140 F140 => ?_)
                            clear F139 ac139
                            refine c_end F140 ?_
                            refine hK11 _ _ ?_
                            refine wp_ret ?_
                            (try simp only [Exit.then, Exit.inBlock])
                            refine retx (fn := Tryd.f25) F140 (results1 (fn := Tryd.f25) rfl (rv_t (t := 0) (v := .bool false) F140 rfl)) ?_
                            cases h
                            exact ⟨rfl, HB.out⟩
                        | false =>
                          replace h := cond_f hT12 h
                          refine so F113 (g_off F113 rfl rfl rfl (lk rfl hT12)) rfl rfl (fun ac141 F141 => ?_)
                          clear F113 ac113
                          refine so F141 (g_off F141 rfl rfl rfl (lk rfl hT12)) rfl rfl (fun ac142 F142 => ?_)
                          clear F141 ac141
                          refine sv (v := .bool false) F142 (run_guard rfl) rfl rfl (r_pick_f rfl (F142.ev (lk rfl hT12)) ev_c) (fun ac143 F143 => ?_)
                          clear F142 ac142
                          refine sv (v := .bool false) F143 (run_guard rfl) rfl rfl (r_move rfl (F143.ev rfl)) (fun ac144 F144 => ?_)
                          clear F143 ac143
                          refine so F144 (g_off F144 rfl rfl rfl rfl) rfl rfl (fun ac145 F145 => ?_)
                          clear F144 ac144
                          refine so F145 (g_off F145 rfl rfl rfl rfl) rfl rfl (fun ac146 F146 => ?_)
                          clear F145 ac145
                          refine sv (v := .bool false) F146 (run_guard rfl) rfl rfl (r_pick_f rfl (F146.ev rfl) ev_c) (fun ac147 F147 => ?_)
                          clear F146 ac146
                          refine sv (v := .bool false) F147 (run_guard rfl) rfl rfl (r_move rfl (F147.ev rfl)) (fun ac148 F148 => ?_)
                          clear F147 ac147
                          refine so F148 (g_off F148 rfl rfl rfl rfl) rfl rfl (fun ac149 F149 => ?_)
                          clear F148 ac148
                          refine so F149 (g_off F149 rfl rfl rfl rfl) rfl rfl (fun ac150 F150 => ?_)
                          clear F149 ac149
                          refine so F150 (g_off F150 rfl rfl rfl rfl) rfl rfl (fun ac151 F151 => ?_)
                          clear F150 ac150
                          refine sv (v := .bool false) F151 (run_guard rfl) rfl rfl (r_pick_f rfl (F151.ev rfl) ev_c) (fun ac152 F152 => ?_)
                          clear F151 ac151
                          refine sv (v := .bool false) F152 (run_guard rfl) rfl rfl (r_assign rfl (F152.ev rfl)) (fun ac153 F153 => ?_)
                          clear F152 ac152
                          refine c_end F153 ?_
                          refine hK11 _ _ ?_
                          refine wp_ret ?_
                          (try simp only [Exit.then, Exit.inBlock])
                          refine retx (fn := Tryd.f25) F153 (results1 (fn := Tryd.f25) rfl (rv_t (t := 0) (v := .bool false) F153 rfl)) ?_
                          cases h
                          exact ⟨rfl, HB.out⟩
                      | false =>
                        replace h := cond_f hT11 h
                        refine so F107 (g_off F107 rfl rfl rfl (lk rfl hT11)) rfl rfl (fun ac154 F154 => ?_)
                        clear F107 ac107
                        refine so F154 (g_off F154 rfl rfl rfl (lk rfl hT11)) rfl rfl (fun ac155 F155 => ?_)
                        clear F154 ac154
                        refine so F155 (g_off F155 rfl rfl rfl (lk rfl hT11)) rfl rfl (fun ac156 F156 => ?_)
                        clear F155 ac155
                        refine so F156 (g_off F156 rfl rfl rfl (lk rfl hT11)) rfl rfl (fun ac157 F157 => ?_)
                        clear F156 ac156
                        refine sv (v := .bool false) F157 (run_guard rfl) rfl rfl (r_pick_f rfl (F157.ev (lk rfl hT11)) ev_c) (fun ac158 F158 => ?_)
                        clear F157 ac157
                        refine sv (v := .bool false) F158 (run_guard rfl) rfl rfl (r_move rfl (F158.ev rfl)) (fun ac159 F159 => ?_)
                        clear F158 ac158
                        refine so F159 (g_off F159 rfl rfl rfl rfl) rfl rfl (fun ac160 F160 => ?_)
                        clear F159 ac159
                        refine so F160 (g_off F160 rfl rfl rfl rfl) rfl rfl (fun ac161 F161 => ?_)
                        clear F160 ac160
                        refine sv (v := .bool false) F161 (run_guard rfl) rfl rfl (r_pick_f rfl (F161.ev rfl) ev_c) (fun ac162 F162 => ?_)
                        clear F161 ac161
                        refine sv (v := .bool false) F162 (run_guard rfl) rfl rfl (r_move rfl (F162.ev rfl)) (fun ac163 F163 => ?_)
                        clear F162 ac162
                        refine so F163 (g_off F163 rfl rfl rfl rfl) rfl rfl (fun ac164 F164 => ?_)
                        clear F163 ac163
                        refine so F164 (g_off F164 rfl rfl rfl rfl) rfl rfl (fun ac165 F165 => ?_)
                        clear F164 ac164
                        refine sv (v := .bool false) F165 (run_guard rfl) rfl rfl (r_pick_f rfl (F165.ev rfl) ev_c) (fun ac166 F166 => ?_)
                        clear F165 ac165
                        refine sv (v := .bool false) F166 (run_guard rfl) rfl rfl (r_move rfl (F166.ev rfl)) (fun ac167 F167 => ?_)
                        clear F166 ac166
                        refine so F167 (g_off F167 rfl rfl rfl rfl) rfl rfl (fun ac168 F168 => ?_)
                        clear F167 ac167
                        refine so F168 (g_off F168 rfl rfl rfl rfl) rfl rfl (fun ac169 F169 => ?_)
                        clear F168 ac168
                        refine so F169 (g_off F169 rfl rfl rfl rfl) rfl rfl (fun ac170 F170 => ?_)
                        clear F169 ac169
                        refine sv (v := .bool false) F170 (run_guard rfl) rfl rfl (r_pick_f rfl (F170.ev rfl) ev_c) (fun ac171 F171 => ?_)
                        clear F170 ac170
                        refine sv (v := .bool false) F171 (run_guard rfl) rfl rfl (r_assign rfl (F171.ev rfl)) (fun ac172 F172 => ?_)
                        clear F171 ac171
                        refine c_end F172 ?_
                        refine hK11 _ _ ?_
                        refine wp_ret ?_
                        (try simp only [Exit.then, Exit.inBlock])
                        refine retx (fn := Tryd.f25) F172 (results1 (fn := Tryd.f25) rfl (rv_t (t := 0) (v := .bool false) F172 rfl)) ?_
                        cases h
                        exact ⟨rfl, HB.out⟩
                    | false =>
                      replace h := cond_f hT10 h
                      refine so F102 (g_off F102 rfl rfl rfl (lk rfl hT10)) rfl rfl (fun ac173 F173 => ?_)
                      clear F102 ac102
                      refine so F173 (g_off F173 rfl rfl rfl (lk rfl hT10)) rfl rfl (fun ac174 F174 => ?_)
                      clear F173 ac173
                      refine so F174 (g_off F174 rfl rfl rfl (lk rfl hT10)) rfl rfl (fun ac175 F175 => ?_)
                      clear F174 ac174
                      refine sv (v := .bool false) F175 (run_guard rfl) rfl rfl (r_pick_f rfl (F175.ev (lk rfl hT10)) ev_c) (fun ac176 F176 => ?_)
                      clear F175 ac175
                      refine sv (v := .bool false) F176 (run_guard rfl) rfl rfl (r_move rfl (F176.ev rfl)) (fun ac177 F177 => ?_)
                      clear F176 ac176
                      refine so F177 (g_off F177 rfl rfl rfl rfl) rfl rfl (fun ac178 F178 => ?_)
                      clear F177 ac177
                      refine so F178 (g_off F178 rfl rfl rfl rfl) rfl rfl (fun ac179 F179 => ?_)
                      clear F178 ac178
                      refine so F179 (g_off F179 rfl rfl rfl rfl) rfl rfl (fun ac180 F180 => ?_)
                      clear F179 ac179
                      refine so F180 (g_off F180 rfl rfl rfl rfl) rfl rfl (fun ac181 F181 => ?_)
                      clear F180 ac180
                      refine sv (v := .bool false) F181 (run_guard rfl) rfl rfl (r_pick_f rfl (F181.ev rfl) ev_c) (fun ac182 F182 => ?_)
                      clear F181 ac181
                      refine sv (v := .bool false) F182 (run_guard rfl) rfl rfl (r_move rfl (F182.ev rfl)) (fun ac183 F183 => ?_)
                      clear F182 ac182
                      refine so F183 (g_off F183 rfl rfl rfl rfl) rfl rfl (fun ac184 F184 => ?_)
                      clear F183 ac183
                      refine so F184 (g_off F184 rfl rfl rfl rfl) rfl rfl (fun ac185 F185 => ?_)
                      clear F184 ac184
                      refine sv (v := .bool false) F185 (run_guard rfl) rfl rfl (r_pick_f rfl (F185.ev rfl) ev_c) (fun ac186 F186 => ?_)
                      clear F185 ac185
                      refine sv (v := .bool false) F186 (run_guard rfl) rfl rfl (r_move rfl (F186.ev rfl)) (fun ac187 F187 => ?_)
                      clear F186 ac186
                      refine so F187 (g_off F187 rfl rfl rfl rfl) rfl rfl (fun ac188 F188 => ?_)
                      clear F187 ac187
                      refine so F188 (g_off F188 rfl rfl rfl rfl) rfl rfl (fun ac189 F189 => ?_)
                      clear F188 ac188
                      refine sv (v := .bool false) F189 (run_guard rfl) rfl rfl (r_pick_f rfl (F189.ev rfl) ev_c) (fun ac190 F190 => ?_)
                      clear F189 ac189
                      refine sv (v := .bool false) F190 (run_guard rfl) rfl rfl (r_move rfl (F190.ev rfl)) (fun ac191 F191 => ?_)
                      clear F190 ac190
                      refine so F191 (g_off F191 rfl rfl rfl rfl) rfl rfl (fun ac192 F192 => ?_)
                      clear F191 ac191
                      refine so F192 (g_off F192 rfl rfl rfl rfl) rfl rfl (fun ac193 F193 => ?_)
                      clear F192 ac192
                      refine so F193 (g_off F193 rfl rfl rfl rfl) rfl rfl (fun ac194 F194 => ?_)
                      clear F193 ac193
                      refine sv (v := .bool false) F194 (run_guard rfl) rfl rfl (r_pick_f rfl (F194.ev rfl) ev_c) (fun ac195 F195 => ?_)
                      clear F194 ac194
                      refine sv (v := .bool false) F195 (run_guard rfl) rfl rfl (r_assign rfl (F195.ev rfl)) (fun ac196 F196 => ?_)
                      clear F195 ac195
                      refine c_end F196 ?_
                      refine hK11 _ _ ?_
                      refine wp_ret ?_
                      (try simp only [Exit.then, Exit.inBlock])
                      refine retx (fn := Tryd.f25) F196 (results1 (fn := Tryd.f25) rfl (rv_t (t := 0) (v := .bool false) F196 rfl)) ?_
                      cases h
                      exact ⟨rfl, HB.out⟩
                  | false =>
                    replace h := cond_f hT9 h
                    refine so F98 (g_off F98 rfl rfl rfl (lk rfl hT9)) rfl rfl (fun ac197 F197 => ?_)
                    clear F98 ac98
                    refine so F197 (g_off F197 rfl rfl rfl (lk rfl hT9)) rfl rfl (fun ac198 F198 => ?_)
                    clear F197 ac197
                    refine sv (v := .bool false) F198 (run_guard rfl) rfl rfl (r_pick_f rfl (F198.ev (lk rfl hT9)) ev_c) (fun ac199 F199 => ?_)
                    clear F198 ac198
                    refine sv (v := .bool false) F199 (run_guard rfl) rfl rfl (r_move rfl (F199.ev rfl)) (fun ac200 F200 => ?_)
                    clear F199 ac199
                    refine so F200 (g_off F200 rfl rfl rfl rfl) rfl rfl (fun ac201 F201 => ?_)
                    clear F200 ac200
                    refine so F201 (g_off F201 rfl rfl rfl rfl) rfl rfl (fun ac202 F202 => ?_)
                    clear F201 ac201
                    refine so F202 (g_off F202 rfl rfl rfl rfl) rfl rfl (fun ac203 F203 => ?_)
                    clear F202 ac202
                    refine sv (v := .bool false) F203 (run_guard rfl) rfl rfl (r_pick_f rfl (F203.ev rfl) ev_c) (fun ac204 F204 => ?_)
                    clear F203 ac203
                    refine sv (v := .bool false) F204 (run_guard rfl) rfl rfl (r_move rfl (F204.ev rfl)) (fun ac205 F205 => ?_)
                    clear F204 ac204
                    refine so F205 (g_off F205 rfl rfl rfl rfl) rfl rfl (fun ac206 F206 => ?_)
                    clear F205 ac205
                    refine so F206 (g_off F206 rfl rfl rfl rfl) rfl rfl (fun ac207 F207 => ?_)
                    clear F206 ac206
                    refine so F207 (g_off F207 rfl rfl rfl rfl) rfl rfl (fun ac208 F208 => ?_)
                    clear F207 ac207
                    refine so F208 (g_off F208 rfl rfl rfl rfl) rfl rfl (fun ac209 F209 => ?_)
                    clear F208 ac208
                    refine sv (v := .bool false) F209 (run_guard rfl) rfl rfl (r_pick_f rfl (F209.ev rfl) ev_c) (fun ac210 F210 => ?_)
                    clear F209 ac209
                    refine sv (v := .bool false) F210 (run_guard rfl) rfl rfl (r_move rfl (F210.ev rfl)) (fun ac211 F211 => ?_)
                    clear F210 ac210
                    refine so F211 (g_off F211 rfl rfl rfl rfl) rfl rfl (fun ac212 F212 => ?_)
                    clear F211 ac211
                    refine so F212 (g_off F212 rfl rfl rfl rfl) rfl rfl (fun ac213 F213 => ?_)
                    clear F212 ac212
                    refine sv (v := .bool false) F213 (run_guard rfl) rfl rfl (r_pick_f rfl (F213.ev rfl) ev_c) (fun ac214 F214 => ?_)
                    clear F213 ac213
                    refine sv (v := .bool false) F214 (run_guard rfl) rfl rfl (r_move rfl (F214.ev rfl)) (fun ac215 F215 => ?_)
                    clear F214 ac214
                    refine so F215 (g_off F215 rfl rfl rfl rfl) rfl rfl (fun ac216 F216 => ?_)
                    clear F215 ac215
                    refine so F216 (g_off F216 rfl rfl rfl rfl) rfl rfl (fun ac217 F217 => ?_)
                    clear F216 ac216
                    refine sv (v := .bool false) F217 (run_guard rfl) rfl rfl (r_pick_f rfl (F217.ev rfl) ev_c) (fun ac218 F218 => ?_)
                    clear F217 ac217
                    refine sv (v := .bool false) F218 (run_guard rfl) rfl rfl (r_move rfl (F218.ev rfl)) (fun ac219 F219 => ?_)
                    clear F218 ac218
                    refine so F219 (g_off F219 rfl rfl rfl rfl) rfl rfl (fun ac220 F220 => ?_)
                    clear F219 ac219
                    refine so F220 (g_off F220 rfl rfl rfl rfl) rfl rfl (fun ac221 F221 => ?_)
                    clear F220 ac220
                    refine so F221 (g_off F221 rfl rfl rfl rfl) rfl rfl (fun ac222 F222 => ?_)
                    clear F221 ac221
                    refine sv (v := .bool false) F222 (run_guard rfl) rfl rfl (r_pick_f rfl (F222.ev rfl) ev_c) (fun ac223 F223 => ?_)
                    clear F222 ac222
                    refine sv (v := .bool false) F223 (run_guard rfl) rfl rfl (r_assign rfl (F223.ev rfl)) (fun ac224 F224 => ?_)
                    clear F223 ac223
                    refine c_end F224 ?_
                    refine hK11 _ _ ?_
                    refine wp_ret ?_
                    (try simp only [Exit.then, Exit.inBlock])
                    refine retx (fn := Tryd.f25) F224 (results1 (fn := Tryd.f25) rfl (rv_t (t := 0) (v := .bool false) F224 rfl)) ?_
                    cases h
                    exact ⟨rfl, HB.out⟩
                | false =>
                  replace h := cond_f hT8 h
                  refine so F94 (g_off F94 rfl rfl rfl (lk rfl hT8)) rfl rfl (fun ac225 F225 => ?_)
                  clear F94 ac94
                  refine so F225 (g_off F225 rfl rfl rfl (lk rfl hT8)) rfl rfl (fun ac226 F226 => ?_)
                  clear F225 ac225
                  refine sv (v := .bool false) F226 (run_guard rfl) rfl rfl (r_pick_f rfl (F226.ev (lk rfl hT8)) ev_c) (fun ac227 F227 => ?_)
                  clear F226 ac226
                  refine sv (v := .bool false) F227 (run_guard rfl) rfl rfl (r_move rfl (F227.ev rfl)) (fun ac228 F228 => ?_)
                  clear F227 ac227
                  refine so F228 (g_off F228 rfl rfl rfl rfl) rfl rfl (fun ac229 F229 => ?_)
                  clear F228 ac228
                  refine so F229 (g_off F229 rfl rfl rfl rfl) rfl rfl (fun ac230 F230 => ?_)
                  clear F229 ac229
                  refine sv (v := .bool false) F230 (run_guard rfl) rfl rfl (r_pick_f rfl (F230.ev rfl) ev_c) (fun ac231 F231 => ?_)
                  clear F230 ac230
                  refine sv (v := .bool false) F231 (run_guard rfl) rfl rfl (r_move rfl (F231.ev rfl)) (fun ac232 F232 => ?_)
                  clear F231 ac231
                  refine so F232 (g_off F232 rfl rfl rfl rfl) rfl rfl (fun ac233 F233 => ?_)
                  clear F232 ac232
                  refine so F233 (g_off F233 rfl rfl rfl rfl) rfl rfl (fun ac234 F234 => ?_)
                  clear F233 ac233
                  refine so F234 (g_off F234 rfl rfl rfl rfl) rfl rfl (fun ac235 F235 => ?_)
                  clear F234 ac234
                  refine sv (v := .bool false) F235 (run_guard rfl) rfl rfl (r_pick_f rfl (F235.ev rfl) ev_c) (fun ac236 F236 => ?_)
                  clear F235 ac235
                  refine sv (v := .bool false) F236 (run_guard rfl) rfl rfl (r_move rfl (F236.ev rfl)) (fun ac237 F237 => ?_)
                  clear F236 ac236
                  refine so F237 (g_off F237 rfl rfl rfl rfl) rfl rfl (fun ac238 F238 => ?_)
                  clear F237 ac237
                  refine so F238 (g_off F238 rfl rfl rfl rfl) rfl rfl (fun ac239 F239 => ?_)
                  clear F238 ac238
                  refine so F239 (g_off F239 rfl rfl rfl rfl) rfl rfl (fun ac240 F240 => ?_)
                  clear F239 ac239
                  refine so F240 (g_off F240 rfl rfl rfl rfl) rfl rfl (fun ac241 F241 => ?_)
                  clear F240 ac240
                  refine sv (v := .bool false) F241 (run_guard rfl) rfl rfl (r_pick_f rfl (F241.ev rfl) ev_c) (fun ac242 F242 => ?_)
                  clear F241 ac241
                  refine sv (v := .bool false) F242 (run_guard rfl) rfl rfl (r_move rfl (F242.ev rfl)) (fun ac243 F243 => ?_)
                  clear F242 ac242
                  refine so F243 (g_off F243 rfl rfl rfl rfl) rfl rfl (fun ac244 F244 => ?_)
                  clear F243 ac243
                  refine so F244 (g_off F244 rfl rfl rfl rfl) rfl rfl (fun ac245 F245 => ?_)
                  clear F244 ac244
                  refine sv (v := .bool false) F245 (run_guard rfl) rfl rfl (r_pick_f rfl (F245.ev rfl) ev_c) (fun ac246 F246 => ?_)
                  clear F245 ac245
                  refine sv (v := .bool false) F246 (run_guard rfl) rfl rfl (r_move rfl (F246.ev rfl)) (fun ac247 F247 => ?_)
                  clear F246 ac246
                  refine so F247 (g_off F247 rfl rfl rfl rfl) rfl rfl (fun ac248 F248 => ?_)
                  clear F247 ac247
                  refine so F248 (g_off F248 rfl rfl rfl rfl) rfl rfl (fun ac249 F249 => ?_)
                  clear F248 ac248
                  refine sv (v := .bool false) F249 (run_guard rfl) rfl rfl (r_pick_f rfl (F249.ev rfl) ev_c) (fun ac250 F250 => ?_)
                  clear F249 ac249
                  refine sv (v := .bool false) F250 (run_guard rfl) rfl rfl (r_move rfl (F250.ev rfl)) (fun ac251 F251 => ?_)
                  clear F250 ac250
                  refine so F251 (g_off F251 rfl rfl rfl rfl) rfl rfl (fun ac252 F252 => ?_)
                  clear F251 ac251
                  refine so F252 (g_off F252 rfl rfl rfl rfl) rfl rfl (fun ac253 F253 => ?_)
                  clear F252 ac252
                  refine so F253 (g_off F253 rfl rfl rfl rfl) rfl rfl (fun ac254 F254 => ?_)
                  clear F253 ac253
                  refine sv (v := .bool false) F254 (run_guard rfl) rfl rfl (r_pick_f rfl (F254.ev rfl) ev_c) (fun ac255 F255 => ?_)
                  clear F254 ac254
                  refine sv (v := .bool false) F255 (run_guard rfl) rfl rfl (r_assign rfl (F255.ev rfl)) (fun ac256 F256 => ?_)
                  clear F255 ac255
                  refine c_end F256 ?_
                  refine hK11 _ _ ?_
                  refine wp_ret ?_
                  (try simp only [Exit.then, Exit.inBlock])
                  refine retx (fn := Tryd.f25) F256 (results1 (fn := Tryd.f25) rfl (rv_t (t := 0) (v := .bool false) F256 rfl)) ?_
                  cases h
                  exact ⟨rfl, HB.out⟩
              | false =>
                replace h := cond_f hT7 h
                refine so F90 (g_off F90 rfl rfl rfl (lk rfl hT7)) rfl rfl (fun ac257 F257 => ?_)
                clear F90 ac90
                refine so F257 (g_off F257 rfl rfl rfl (lk rfl hT7)) rfl rfl (fun ac258 F258 => ?_)
                clear F257 ac257
                refine sv (v := .bool false) F258 (run_guard rfl) rfl rfl (r_pick_f rfl (F258.ev (lk rfl hT7)) ev_c) (fun ac259 F259 => ?_)
                clear F258 ac258
                refine sv (v := .bool false) F259 (run_guard rfl) rfl rfl (r_move rfl (F259.ev rfl)) (fun ac260 F260 => ?_)
                clear F259 ac259
                refine so F260 (g_off F260 rfl rfl rfl rfl) rfl rfl (fun ac261 F261 => ?_)
                clear F260 ac260
                refine so F261 (g_off F261 rfl rfl rfl rfl) rfl rfl (fun ac262 F262 => ?_)
                clear F261 ac261
                refine sv (v := .bool false) F262 (run_guard rfl) rfl rfl (r_pick_f rfl (F262.ev rfl) ev_c) (fun ac263 F263 => ?_)
                clear F262 ac262
                refine sv (v := .bool false) F263 (run_guard rfl) rfl rfl (r_move rfl (F263.ev rfl)) (fun ac264 F264 => ?_)
                clear F263 ac263
                refine so F264 (g_off F264 rfl rfl rfl rfl) rfl rfl (fun ac265 F265 => ?_)
                clear F264 ac264
                refine so F265 (g_off F265 rfl rfl rfl rfl) rfl rfl (fun ac266 F266 => ?_)
                clear F265 ac265
                refine sv (v := .bool false) F266 (run_guard rfl) rfl rfl (r_pick_f rfl (F266.ev rfl) ev_c) (fun ac267 F267 => ?_)
                clear F266 ac266
                refine sv (v := .bool false) F267 (run_guard rfl) rfl rfl (r_move rfl (F267.ev rfl)) (fun ac268 F268 => ?_)
                clear F267 ac267
                refine so F268 (g_off F268 rfl rfl rfl rfl) rfl rfl (fun ac269 F269 => ?_)
                clear F268 ac268
                refine so F269 (g_off F269 rfl rfl rfl rfl) rfl rfl (fun ac270 F270 => ?_)
                clear F269 ac269
                refine so F270 (g_off F270 rfl rfl rfl rfl) rfl rfl (fun ac271 F271 => ?_)
                clear F270 ac270
                refine sv (v := .bool false) F271 (run_guard rfl) rfl rfl (r_pick_f rfl (F271.ev rfl) ev_c) (fun ac272 F272 => ?_)
                clear F271 ac271
                refine sv (v := .bool false) F272 (run_guard rfl) rfl rfl (r_move rfl (F272.ev rfl)) (fun ac273 F273 => ?_)
                clear F272 ac272
                refine so F273 (g_off F273 rfl rfl rfl rfl) rfl rfl (fun ac274 F274 => ?_)
                clear F273 ac273
                refine so F274 (g_off F274 rfl rfl rfl rfl) rfl rfl (fun ac275 F275 => ?_)
                clear F274 ac274
                refine so F275 (g_off F275 rfl rfl rfl rfl) rfl rfl (fun ac276 F276 => ?_)
                clear F275 ac275
                refine so F276 (g_off F276 rfl rfl rfl rfl) rfl rfl (fun ac277 F277 => ?_)
                clear F276 ac276
                refine sv (v := .bool false) F277 (run_guard rfl) rfl rfl (r_pick_f rfl (F277.ev rfl) ev_c) (fun ac278 F278 => ?_)
                clear F277 ac277
                refine sv (v := .bool false) F278 (run_guard rfl) rfl rfl (r_move rfl (F278.ev rfl)) (fun ac279 F279 => ?_)
                clear F278 ac278
                refine so F279 (g_off F279 rfl rfl rfl rfl) rfl rfl (fun ac280 F280 => ?_)
                clear F279 ac279
                refine so F280 (g_off F280 rfl rfl rfl rfl) rfl rfl (fun ac281 F281 => ?_)
                clear F280 ac280
                refine sv (v := .bool false) F281 (run_guard rfl) rfl rfl (r_pick_f rfl (F281.ev rfl) ev_c) (fun ac282 F282 => ?_)
                clear F281 ac281
                refine sv (v := .bool false) F282 (run_guard rfl) rfl rfl (r_move rfl (F282.ev rfl)) (fun ac283 F283 => ?_)
                clear F282 ac282
                refine so F283 (g_off F283 rfl rfl rfl rfl) rfl rfl (fun ac284 F284 => ?_)
                clear F283 ac283
                refine so F284 (g_off F284 rfl rfl rfl rfl) rfl rfl (fun ac285 F285 => ?_)
                clear F284 ac284
                refine sv (v := .bool false) F285 (run_guard rfl) rfl rfl (r_pick_f rfl (F285.ev rfl) ev_c) (fun ac286 F286 => ?_)
                clear F285 ac285
                refine sv (v := .bool false) F286 (run_guard rfl) rfl rfl (r_move rfl (F286.ev rfl)) (fun ac287 F287 => ?_)
                clear F286 ac286
                refine so F287 (g_off F287 rfl rfl rfl rfl) rfl rfl (fun ac288 F288 => ?_)
                clear F287 ac287
                refine so F288 (g_off F288 rfl rfl rfl rfl) rfl rfl (fun ac289 F289 => ?_)
                clear F288 ac288
                refine so F289 (g_off F289 rfl rfl rfl rfl) rfl rfl (fun ac290 F290 => ?_)
                clear F289 ac289
                refine sv (v := .bool false) F290 (run_guard rfl) rfl rfl (r_pick_f rfl (F290.ev rfl) ev_c) (fun ac291 F291 => ?_)
                clear F290 ac290
                refine sv (v := .bool false) F291 (run_guard rfl) rfl rfl (r_assign rfl (F291.ev rfl)) (fun ac292 F292 => ?_)
                clear F291 ac291
                refine c_end F292 ?_
                refine hK11 _ _ ?_
                refine wp_ret ?_
                (try simp only [Exit.then, Exit.inBlock])
                refine retx (fn := Tryd.f25) F292 (results1 (fn := Tryd.f25) rfl (rv_t (t := 0) (v := .bool false) F292 rfl)) ?_
                cases h
                exact ⟨rfl, HB.out⟩
            | false =>
              replace h := cond_f hT6 h
              refine so F86 (g_off F86 rfl rfl rfl (lk rfl hT6)) rfl rfl (fun ac293 F293 => ?_)
              clear F86 ac86
              refine so F293 (g_off F293 rfl rfl rfl (lk rfl hT6)) rfl rfl (fun ac294 F294 => ?_)
              clear F293 ac293
              refine sv (v := .bool false) F294 (run_guard rfl) rfl rfl (r_pick_f rfl (F294.ev (lk rfl hT6)) ev_c) (fun ac295 F295 => ?_)
              clear F294 ac294
              refine sv (v := .bool false) F295 (run_guard rfl) rfl rfl (r_move rfl (F295.ev rfl)) (fun ac296 F296 => ?_)
              clear F295 ac295
              refine so F296 (g_off F296 rfl rfl rfl rfl) rfl rfl (fun ac297 F297 => ?_)
              clear F296 ac296
              refine so F297 (g_off F297 rfl rfl rfl rfl) rfl rfl (fun ac298 F298 => ?_)
              clear F297 ac297
              refine sv (v := .bool false) F298 (run_guard rfl) rfl rfl (r_pick_f rfl (F298.ev rfl) ev_c) (fun ac299 F299 => ?_)
              clear F298 ac298
              refine sv (v := .bool false) F299 (run_guard rfl) rfl rfl (r_move rfl (F299.ev rfl)) (fun ac300 F300 => ?_)
              clear F299 ac299
              refine so F300 (g_off F300 rfl rfl rfl rfl) rfl rfl (fun ac301 F301 => ?_)
              clear F300 ac300
              refine so F301 (g_off F301 rfl rfl rfl rfl) rfl rfl (fun ac302 F302 => ?_)
              clear F301 ac301
              refine sv (v := .bool false) F302 (run_guard rfl) rfl rfl (r_pick_f rfl (F302.ev rfl) ev_c) (fun ac303 F303 => ?_)
              clear F302 ac302
              refine sv (v := .bool false) F303 (run_guard rfl) rfl rfl (r_move rfl (F303.ev rfl)) (fun ac304 F304 => ?_)
              clear F303 ac303
              refine so F304 (g_off F304 rfl rfl rfl rfl) rfl rfl (fun ac305 F305 => ?_)
              clear F304 ac304
              refine so F305 (g_off F305 rfl rfl rfl rfl) rfl rfl (fun ac306 F306 => ?_)
              clear F305 ac305
              refine sv (v := .bool false) F306 (run_guard rfl) rfl rfl (r_pick_f rfl (F306.ev rfl) ev_c) (fun ac307 F307 => ?_)
              clear F306 ac306
              refine sv (v := .bool false) F307 (run_guard rfl) rfl rfl (r_move rfl (F307.ev rfl)) (fun ac308 F308 => ?_)
              clear F307 ac307
              refine so F308 (g_off F308 rfl rfl rfl rfl) rfl rfl (fun ac309 F309 => ?_)
              clear F308 ac308
              refine so F309 (g_off F309 rfl rfl rfl rfl) rfl rfl (fun ac310 F310 => ?_)
              clear F309 ac309
              refine so F310 (g_off F310 rfl rfl rfl rfl) rfl rfl (fun ac311 F311 => ?_)
              clear F310 ac310
              refine sv (v := .bool false) F311 (run_guard rfl) rfl rfl (r_pick_f rfl (F311.ev rfl) ev_c) (fun ac312 F312 => ?_)
              clear F311 ac311
              refine sv (v := .bool false) F312 (run_guard rfl) rfl rfl (r_move rfl (F312.ev rfl)) (fun ac313 F313 => ?_)
              clear F312 ac312
              refine so F313 (g_off F313 rfl rfl rfl rfl) rfl rfl (fun ac314 F314 => ?_)
              clear F313 ac313
              refine so F314 (g_off F314 rfl rfl rfl rfl) rfl rfl (fun ac315 F315 => ?_)
              clear F314 ac314
              refine so F315 (g_off F315 rfl rfl rfl rfl) rfl rfl (fun ac316 F316 => ?_)
              clear F315 ac315
              refine so F316 (g_off F316 rfl rfl rfl rfl) rfl rfl (fun ac317 F317 => ?_)
              clear F316 ac316
              refine sv (v := .bool false) F317 (run_guard rfl) rfl rfl (r_pick_f rfl (F317.ev rfl) ev_c) (fun ac318 F318 => ?_)
              clear F317 ac317
              refine sv (v := .bool false) F318 (run_guard rfl) rfl rfl (r_move rfl (F318.ev rfl)) (fun ac319 F319 => ?_)
              clear F318 ac318
              refine so F319 (g_off F319 rfl rfl rfl rfl) rfl rfl (fun ac320 F320 => ?_)
              clear F319 ac319
              refine so F320 (g_off F320 rfl rfl rfl rfl) rfl rfl (fun ac321 F321 => ?_)
              clear F320 ac320
              refine sv (v := .bool false) F321 (run_guard rfl) rfl rfl (r_pick_f rfl (F321.ev rfl) ev_c) (fun ac322 F322 => ?_)
              clear F321 ac321
              refine sv (v := .bool false) F322 (run_guard rfl) rfl rfl (r_move rfl (F322.ev rfl)) (fun ac323 F323 => ?_)
              clear F322 ac322
              refine so F323 (g_off F323 rfl rfl rfl rfl) rfl rfl (fun ac324 F324 => ?_)
              clear F323 ac323
              refine so F324 (g_off F324 rfl rfl rfl rfl) rfl rfl (fun ac325 F325 => ?_)
              clear F324 ac324
              refine sv (v := .bool false) F325 (run_guard rfl) rfl rfl (r_pick_f rfl (F325.ev rfl) ev_c) (fun ac326 F326 => ?_)
              clear F325 ac325
              refine sv (v := .bool false) F326 (run_guard rfl) rfl rfl (r_move rfl (F326.ev rfl)) (fun ac327 F327 => ?_)
              clear F326 ac326
              refine so F327 (g_off F327 rfl rfl rfl rfl) rfl rfl (fun ac328 F328 => ?_)
              clear F327 ac327
              refine so F328 (g_off F328 rfl rfl rfl rfl) rfl rfl (fun ac329 F329 => ?_)
              clear F328 ac328
              refine so F329 (g_off F329 rfl rfl rfl rfl) rfl rfl (fun ac330 F330 => ?_)
              clear F329 ac329
              refine sv (v := .bool false) F330 (run_guard rfl) rfl rfl (r_pick_f rfl (F330.ev rfl) ev_c) (fun ac331 F331 => ?_)
              clear F330 ac330
              refine sv (v := .bool false) F331 (run_guard rfl) rfl rfl (r_assign rfl (F331.ev rfl)) (fun ac332 F332 => ?_)
              clear F331 ac331
              refine c_end F332 ?_
              refine hK11 _ _ ?_
              refine wp_ret ?_
              (try simp only [Exit.then, Exit.inBlock])
              refine retx (fn := Tryd.f25) F332 (results1 (fn := Tryd.f25) rfl (rv_t (t := 0) (v := .bool false) F332 rfl)) ?_
              cases h
              exact ⟨rfl, HB.out⟩
          | false =>
            replace h := cond_f hT5 h
            refine so F82 (g_off F82 rfl rfl rfl (lk rfl hT5)) rfl rfl (fun ac333 F333 => ?_)
            clear F82 ac82
            refine so F333 (g_off F333 rfl rfl rfl (lk rfl hT5)) rfl rfl (fun ac334 F334 => ?_)
            clear F333 ac333
            refine sv (v := .bool false) F334 (run_guard rfl) rfl rfl (r_pick_f rfl (F334.ev (lk rfl hT5)) ev_c) (fun ac335 F335 => ?_)
            clear F334 ac334
            refine sv (v := .bool false) F335 (run_guard rfl) rfl rfl (r_move rfl (F335.ev rfl)) (fun ac336 F336 => ?_)
            clear F335 ac335
            refine so F336 (g_off F336 rfl rfl rfl rfl) rfl rfl (fun ac337 F337 => ?_)
            clear F336 ac336
            refine so F337 (g_off F337 rfl rfl rfl rfl) rfl rfl (fun ac338 F338 => ?_)
            clear F337 ac337
            refine sv (v := .bool false) F338 (run_guard rfl) rfl rfl (r_pick_f rfl (F338.ev rfl) ev_c) (fun ac339 F339 => ?_)
            clear F338 ac338
            refine sv (v := .bool false) F339 (run_guard rfl) rfl rfl (r_move rfl (F339.ev rfl)) (fun ac340 F340 => ?_)
            clear F339 ac339
            refine so F340 (g_off F340 rfl rfl rfl rfl) rfl rfl (fun ac341 F341 => ?_)
            clear F340 ac340
            refine so F341 (g_off F341 rfl rfl rfl rfl) rfl rfl (fun ac342 F342 => ?_)
            clear F341 ac341
            refine sv (v := .bool false) F342 (run_guard rfl) rfl rfl (r_pick_f rfl (F342.ev rfl) ev_c) (fun ac343 F343 => ?_)
            clear F342 ac342
            refine sv (v := .bool false) F343 (run_guard rfl) rfl rfl (r_move rfl (F343.ev rfl)) (fun ac344 F344 => ?_)
            clear F343 ac343
            refine so F344 (g_off F344 rfl rfl rfl rfl) rfl rfl (fun ac345 F345 => ?_)
            clear F344 ac344
            refine so F345 (g_off F345 rfl rfl rfl rfl) rfl rfl (fun ac346 F346 => ?_)
            clear F345 ac345
            refine sv (v := .bool false) F346 (run_guard rfl) rfl rfl (r_pick_f rfl (F346.ev rfl) ev_c) (fun ac347 F347 => ?_)
            clear F346 ac346
            refine sv (v := .bool false) F347 (run_guard rfl) rfl rfl (r_move rfl (F347.ev rfl)) (fun ac348 F348 => ?_)
            clear F347 ac347
            refine so F348 (g_off F348 rfl rfl rfl rfl) rfl rfl (fun ac349 F349 => ?_)
            clear F348 ac348
            refine so F349 (g_off F349 rfl rfl rfl rfl) rfl rfl (fun ac350 F350 => ?_)
            clear F349 ac349
            refine sv (v := .bool false) F350 (run_guard rfl) rfl rfl (r_pick_f rfl (F350.ev rfl) ev_c) (fun ac351 F351 => ?_)
            clear F350 ac350
            refine sv (v := .bool false) F351 (run_guard rfl) rfl rfl (r_move rfl (F351.ev rfl)) (fun ac352 F352 => ?_)
            clear F351 ac351
            refine so F352 (g_off F352 rfl rfl rfl rfl) rfl rfl (fun ac353 F353 => ?_)
            clear F352 ac352
            refine so F353 (g_off F353 rfl rfl rfl rfl) rfl rfl (fun ac354 F354 => ?_)
            clear F353 ac353
            refine so F354 (g_off F354 rfl rfl rfl rfl) rfl rfl (fun ac355 F355 => ?_)
            clear F354 ac354
            refine sv (v := .bool false) F355 (run_guard rfl) rfl rfl (r_pick_f rfl (F355.ev rfl) ev_c) (fun ac356 F356 => ?_)
            clear F355 ac355
            refine sv (v := .bool false) F356 (run_guard rfl) rfl rfl (r_move rfl (F356.ev rfl)) (fun ac357 F357 => ?_)
            clear F356 ac356
            refine so F357 (g_off F357 rfl rfl rfl rfl) rfl rfl (fun ac358 F358 => ?_)
            clear F357 ac357
            refine so F358 (g_off F358 rfl rfl rfl rfl) rfl rfl (fun ac359 F359 => ?_)
            clear F358 ac358
            refine so F359 (g_off F359 rfl rfl rfl rfl) rfl rfl (fun ac360 F360 => ?_)
            clear F359 ac359
            refine so F360 (g_off F360 rfl rfl rfl rfl) rfl rfl (fun ac361 F361 => ?_)
            clear F360 ac360
            refine sv (v := .bool false) F361 (run_guard rfl) rfl rfl (r_pick_f rfl (F361.ev rfl) ev_c) (fun ac362 F362 => ?_)
            clear F361 ac361
            refine sv (v := .bool false) F362 (run_guard rfl) rfl rfl (r_move rfl (F362.ev rfl)) (fun ac363 F363 => ?_)
            clear F362 ac362
            refine so F363 (g_off F363 rfl rfl rfl rfl) rfl rfl (fun ac364 F364 => ?_)
            clear F363 ac363
            refine so F364 (g_off F364 rfl rfl rfl rfl) rfl rfl (fun ac365 F365 => ?_)
            clear F364 ac364
            refine sv (v := .bool false) F365 (run_guard rfl) rfl rfl (r_pick_f rfl (F365.ev rfl) ev_c) (fun ac366 F366 => ?_)
            clear F365 ac365
            refine sv (v := .bool false) F366 (run_guard rfl) rfl rfl (r_move rfl (F366.ev rfl)) (fun ac367 F367 => ?_)
            clear F366 ac366
            refine so F367 (g_off F367 rfl rfl rfl rfl) rfl rfl (fun ac368 F368 => ?_)
            clear F367 ac367
            refine so F368 (g_off F368 rfl rfl rfl rfl) rfl rfl (fun ac369 F369 => ?_)
            clear F368 ac368
            refine sv (v := .bool false) F369 (run_guard rfl) rfl rfl (r_pick_f rfl (F369.ev rfl) ev_c) (fun ac370 F370 => ?_)
            clear F369 ac369
            refine sv (v := .bool false) F370 (run_guard rfl) rfl rfl (r_move rfl (F370.ev rfl)) (fun ac371 F371 => ?_)
            clear F370 ac370
            refine so F371 (g_off F371 rfl rfl rfl rfl) rfl rfl (fun ac372 F372 => ?_)
            clear F371 ac371
            refine so F372 (g_off F372 rfl rfl rfl rfl) rfl rfl (fun ac373 F373 => ?_)
            clear F372 ac372
            refine so F373 (g_off F373 rfl rfl rfl rfl) rfl rfl (fun ac374 F374 => ?_)
            clear F373 ac373
            refine sv (v := .bool false) F374 (run_guard rfl) rfl rfl (r_pick_f rfl (F374.ev rfl) ev_c) (fun ac375 F375 => ?_)
            clear F374 ac374
            refine sv (v := .bool false) F375 (run_guard rfl) rfl rfl (r_assign rfl (F375.ev rfl)) (fun ac376 F376 => ?_)
            clear F375 ac375
            refine c_end F376 ?_
            refine hK11 _ _ ?_
            refine wp_ret ?_
            (try simp only [Exit.then, Exit.inBlock])
            refine retx (fn := Tryd.f25) F376 (results1 (fn := Tryd.f25) rfl (rv_t (t := 0) (v := .bool false) F376 rfl)) ?_
            cases h
            exact ⟨rfl, HB.out⟩
        | false =>
          replace h := cond_f hT4 h
          refine so F76 (g_off F76 rfl rfl rfl (lk rfl hT4)) rfl rfl (fun ac377 F377 => ?_)
          clear F76 ac76
          refine so F377 (g_off F377 rfl rfl rfl (lk rfl hT4)) rfl rfl (fun ac378 F378 => ?_)
          clear F377 ac377
          refine so F378 (g_off F378 rfl rfl rfl (lk rfl hT4)) rfl rfl (fun ac379 F379 => ?_)
          clear F378 ac378
          refine so F379 (g_off F379 rfl rfl rfl (lk rfl hT4)) rfl rfl (fun ac380 F380 => ?_)
          clear F379 ac379
          refine sv (v := .bool false) F380 (run_guard rfl) rfl rfl (r_pick_f rfl (F380.ev (lk rfl hT4)) ev_c) (fun ac381 F381 => ?_)
          clear F380 ac380
          refine sv (v := .bool false) F381 (run_guard rfl) rfl rfl (r_move rfl (F381.ev rfl)) (fun ac382 F382 => ?_)
          clear F381 ac381
          refine so F382 (g_off F382 rfl rfl rfl rfl) rfl rfl (fun ac383 F383 => ?_)
          clear F382 ac382
          refine so F383 (g_off F383 rfl rfl rfl rfl) rfl rfl (fun ac384 F384 => ?_)
          clear F383 ac383
          refine sv (v := .bool false) F384 (run_guard rfl) rfl rfl (r_pick_f rfl (F384.ev rfl) ev_c) (fun ac385 F385 => ?_)
          clear F384 ac384
          refine sv (v := .bool false) F385 (run_guard rfl) rfl rfl (r_move rfl (F385.ev rfl)) (fun ac386 F386 => ?_)
          clear F385 ac385
          refine so F386 (g_off F386 rfl rfl rfl rfl) rfl rfl (fun ac387 F387 => ?_)
          clear F386 ac386
          refine so F387 (g_off F387 rfl rfl rfl rfl) rfl rfl (fun ac388 F388 => ?_)
          clear F387 ac387
          refine sv (v := .bool false) F388 (run_guard rfl) rfl rfl (r_pick_f rfl (F388.ev rfl) ev_c) (fun ac389 F389 => ?_)
          clear F388 ac388
          refine sv (v := .bool false) F389 (run_guard rfl) rfl rfl (r_move rfl (F389.ev rfl)) (fun ac390 F390 => ?_)
          clear F389 ac389
          refine so F390 (g_off F390 rfl rfl rfl rfl) rfl rfl (fun ac391 F391 => ?_)
          clear F390 ac390
          refine so F391 (g_off F391 rfl rfl rfl rfl) rfl rfl (fun ac392 F392 => ?_)
          clear F391 ac391
          refine sv (v := .bool false) F392 (run_guard rfl) rfl rfl (r_pick_f rfl (F392.ev rfl) ev_c) (fun ac393 F393 => ?_)
          clear F392 ac392
          refine sv (v := .bool false) F393 (run_guard rfl) rfl rfl (r_move rfl (F393.ev rfl)) (fun ac394 F394 => ?_)
          clear F393 ac393
          refine so F394 (g_off F394 rfl rfl rfl rfl) rfl rfl (fun ac395 F395 => ?_)
          clear F394 ac394
          refine so F395 (g_off F395 rfl rfl rfl rfl) rfl rfl (fun ac396 F396 => ?_)
          clear F395 ac395
          refine sv (v := .bool false) F396 (run_guard rfl) rfl rfl (r_pick_f rfl (F396.ev rfl) ev_c) (fun ac397 F397 => ?_)
          clear F396 ac396
          refine sv (v := .bool false) F397 (run_guard rfl) rfl rfl (r_move rfl (F397.ev rfl)) (fun ac398 F398 => ?_)
          clear F397 ac397
          refine so F398 (g_off F398 rfl rfl rfl rfl) rfl rfl (fun ac399 F399 => ?_)
          clear F398 ac398
          refine so F399 (g_off F399 rfl rfl rfl rfl) rfl rfl (fun ac400 F400 => ?_)
          clear F399 ac399
          refine sv (v := .bool false) F400 (run_guard rfl) rfl rfl (r_pick_f rfl (F400.ev rfl) ev_c) (fun ac401 F401 => ?_)
          clear F400 ac400
          refine sv (v := .bool false) F401 (run_guard rfl) rfl rfl (r_move rfl (F401.ev rfl)) (fun ac402 F402 => ?_)
          clear F401 ac401
          refine so F402 (g_off F402 rfl rfl rfl rfl) rfl rfl (fun ac403 F403 => ?_)
          clear F402 ac402
          refine so F403 (g_off F403 rfl rfl rfl rfl) rfl rfl (fun ac404 F404 => ?_)
          clear F403 ac403
          refine so F404 (g_off F404 rfl rfl rfl rfl) rfl rfl (fun ac405 F405 => ?_)
          clear F404 ac404
          refine sv (v := .bool false) F405 (run_guard rfl) rfl rfl (r_pick_f rfl (F405.ev rfl) ev_c) (fun ac406 F406 => ?_)
          clear F405 ac405
          refine sv (v := .bool false) F406 (run_guard rfl) rfl rfl (r_move rfl (F406.ev rfl)) (fun ac407 F407 => ?_)
          clear F406 ac406
          refine so F407 (g_off F407 rfl rfl rfl rfl) rfl rfl (fun ac408 F408 => ?_)
          clear F407 ac407
          refine so F408 (g_off F408 rfl rfl rfl rfl) rfl rfl (fun ac409 F409 => ?_)
          clear F408 ac408
          refine so F409 (g_off F409 rfl rfl rfl rfl) rfl rfl (fun ac410 F410 => ?_)
          clear F409 ac409
          refine so F410 (g_off F410 rfl rfl rfl rfl) rfl rfl (fun ac411 F411 => ?_)
          clear F410 ac410
          refine sv (v := .bool false) F411 (run_guard rfl) rfl rfl (r_pick_f rfl (F411.ev rfl) ev_c) (fun ac412 F412 => ?_)
          clear F411 ac411
          refine sv (v := .bool false) F412 (run_guard rfl) rfl rfl (r_move rfl (F412.ev rfl)) (fun ac413 F413 => ?_)
          clear F412 ac412
          refine so F413 (g_off F413 rfl rfl rfl rfl) rfl rfl (fun ac414 F414 => ?_)
          clear F413 ac413
          refine so F414 (g_off F414 rfl rfl rfl rfl) rfl rfl (fun ac415 F415 => ?_)
          clear F414 ac414
          refine sv (v := .bool false) F415 (run_guard rfl) rfl rfl (r_pick_f rfl (F415.ev rfl) ev_c) (fun ac416 F416 => ?_)
          clear F415 ac415
          refine sv (v := .bool false) F416 (run_guard rfl) rfl rfl (r_move rfl (F416.ev rfl)) (fun ac417 F417 => ?_)
          clear F416 ac416
          refine so F417 (g_off F417 rfl rfl rfl rfl) rfl rfl (fun ac418 F418 => ?_)
          clear F417 ac417
          refine so F418 (g_off F418 rfl rfl rfl rfl) rfl rfl (fun ac419 F419 => ?_)
          clear F418 ac418
          refine sv (v := .bool false) F419 (run_guard rfl) rfl rfl (r_pick_f rfl (F419.ev rfl) ev_c) (fun ac420 F420 => ?_)
          clear F419 ac419
          refine sv (v := .bool false) F420 (run_guard rfl) rfl rfl (r_move rfl (F420.ev rfl)) (fun ac421 F421 => ?_)
          clear F420 ac420
          refine so F421 (g_off F421 rfl rfl rfl rfl) rfl rfl (fun ac422 F422 => ?_)
          clear F421 ac421
          refine so F422 (g_off F422 rfl rfl rfl rfl) rfl rfl (fun ac423 F423 => ?_)
          clear F422 ac422
          refine so F423 (g_off F423 rfl rfl rfl rfl) rfl rfl (fun ac424 F424 => ?_)
          clear F423 ac423
          refine sv (v := .bool false) F424 (run_guard rfl) rfl rfl (r_pick_f rfl (F424.ev rfl) ev_c) (fun ac425 F425 => ?_)
          clear F424 ac424
          refine sv (v := .bool false) F425 (run_guard rfl) rfl rfl (r_assign rfl (F425.ev rfl)) (fun ac426 F426 => ?_)
          clear F425 ac425
          refine c_end F426 ?_
          refine hK11 _ _ ?_
          refine wp_ret ?_
          (try simp only [Exit.then, Exit.inBlock])
          refine retx (fn := Tryd.f25) F426 (results1 (fn := Tryd.f25) rfl (rv_t (t := 0) (v := .bool false) F426 rfl)) ?_
          cases h
          exact ⟨rfl, HB.out⟩
      | false =>
        replace h := cond_f hT3 h
        refine so F72 (g_off F72 rfl rfl rfl (lk rfl hT3)) rfl rfl (fun ac427 F427 => ?_)
        clear F72 ac72
        refine so F427 (g_off F427 rfl rfl rfl (lk rfl hT3)) rfl rfl (fun ac428 F428 => ?_)
        clear F427 ac427
        refine sv (v := .bool false) F428 (run_guard rfl) rfl rfl (r_pick_f rfl (F428.ev (lk rfl hT3)) ev_c) (fun ac429 F429 => ?_)
        clear F428 ac428
        refine sv (v := .bool false) F429 (run_guard rfl) rfl rfl (r_move rfl (F429.ev rfl)) (fun ac430 F430 => ?_)
        clear F429 ac429
        refine so F430 (g_off F430 rfl rfl rfl rfl) rfl rfl (fun ac431 F431 => ?_)
        clear F430 ac430
        refine so F431 (g_off F431 rfl rfl rfl rfl) rfl rfl (fun ac432 F432 => ?_)
        clear F431 ac431
        refine so F432 (g_off F432 rfl rfl rfl rfl) rfl rfl (fun ac433 F433 => ?_)
        clear F432 ac432
        refine so F433 (g_off F433 rfl rfl rfl rfl) rfl rfl (fun ac434 F434 => ?_)
        clear F433 ac433
        refine sv (v := .bool false) F434 (run_guard rfl) rfl rfl (r_pick_f rfl (F434.ev rfl) ev_c) (fun ac435 F435 => ?_)
        clear F434 ac434
        refine sv (v := .bool false) F435 (run_guard rfl) rfl rfl (r_move rfl (F435.ev rfl)) (fun ac436 F436 => ?_)
        clear F435 ac435
        refine so F436 (g_off F436 rfl rfl rfl rfl) rfl rfl (fun ac437 F437 => ?_)
        clear F436 ac436
        refine so F437 (g_off F437 rfl rfl rfl rfl) rfl rfl (fun ac438 F438 => ?_)
        clear F437 ac437
        refine sv (v := .bool false) F438 (run_guard rfl) rfl rfl (r_pick_f rfl (F438.ev rfl) ev_c) (fun ac439 F439 => ?_)
        clear F438 ac438
        refine sv (v := .bool false) F439 (run_guard rfl) rfl rfl (r_move rfl (F439.ev rfl)) (fun ac440 F440 => ?_)
        clear F439 ac439
        refine so F440 (g_off F440 rfl rfl rfl rfl) rfl rfl (fun ac441 F441 => ?_)
        clear F440 ac440
        refine so F441 (g_off F441 rfl rfl rfl rfl) rfl rfl (fun ac442 F442 => ?_)
        clear F441 ac441
        refine sv (v := .bool false) F442 (run_guard rfl) rfl rfl (r_pick_f rfl (F442.ev rfl) ev_c) (fun ac443 F443 => ?_)
        clear F442 ac442
        refine sv (v := .bool false) F443 (run_guard rfl) rfl rfl (r_move rfl (F443.ev rfl)) (fun ac444 F444 => ?_)
        clear F443 ac443
        refine so F444 (g_off F444 rfl rfl rfl rfl) rfl rfl (fun ac445 F445 => ?_)
        clear F444 ac444
        refine so F445 (g_off F445 rfl rfl rfl rfl) rfl rfl (fun ac446 F446 => ?_)
        clear F445 ac445
        refine sv (v := .bool false) F446 (run_guard rfl) rfl rfl (r_pick_f rfl (F446.ev rfl) ev_c) (fun ac447 F447 => ?_)
        clear F446 ac446
        refine sv (v := .bool false) F447 (run_guard rfl) rfl rfl (r_move rfl (F447.ev rfl)) (fun ac448 F448 => ?_)
        clear F447 ac447
        refine so F448 (g_off F448 rfl rfl rfl rfl) rfl rfl (fun ac449 F449 => ?_)
        clear F448 ac448
        refine so F449 (g_off F449 rfl rfl rfl rfl) rfl rfl (fun ac450 F450 => ?_)
        clear F449 ac449
        refine sv (v := .bool false) F450 (run_guard rfl) rfl rfl (r_pick_f rfl (F450.ev rfl) ev_c) (fun ac451 F451 => ?_)
        clear F450 ac450
        refine sv (v := .bool false) F451 (run_guard rfl) rfl rfl (r_move rfl (F451.ev rfl)) (fun ac452 F452 => ?_)
        clear F451 ac451
        refine so F452 (g_off F452 rfl rfl rfl rfl) rfl rfl (fun ac453 F453 => ?_)
        clear F452 ac452
        refine so F453 (g_off F453 rfl rfl rfl rfl) rfl rfl (fun ac454 F454 => ?_)
        clear F453 ac453
        refine sv (v := .bool false) F454 (run_guard rfl) rfl rfl (r_pick_f rfl (F454.ev rfl) ev_c) (fun ac455 F455 => ?_)
        clear F454 ac454
        refine sv (v := .bool false) F455 (run_guard rfl) rfl rfl (r_move rfl (F455.ev rfl)) (fun ac456 F456 => ?_)
        clear F455 ac455
        refine so F456 (g_off F456 rfl rfl rfl rfl) rfl rfl (fun ac457 F457 => ?_)
        clear F456 ac456
        refine so F457 (g_off F457 rfl rfl rfl rfl) rfl rfl (fun ac458 F458 => ?_)
        clear F457 ac457
        refine so F458 (g_off F458 rfl rfl rfl rfl) rfl rfl (fun ac459 F459 => ?_)
        clear F458 ac458
        refine sv (v := .bool false) F459 (run_guard rfl) rfl rfl (r_pick_f rfl (F459.ev rfl) ev_c) (fun ac460 F460 => ?_)
        clear F459 ac459
        refine sv (v := .bool false) F460 (run_guard rfl) rfl rfl (r_move rfl (F460.ev rfl)) (fun ac461 F461 => ?_)
        clear F460 ac460
        refine so F461 (g_off F461 rfl rfl rfl rfl) rfl rfl (fun ac462 F462 => ?_)
        clear F461 ac461
        refine so F462 (g_off F462 rfl rfl rfl rfl) rfl rfl (fun ac463 F463 => ?_)
        clear F462 ac462
        refine so F463 (g_off F463 rfl rfl rfl rfl) rfl rfl (fun ac464 F464 => ?_)
        clear F463 ac463
        refine so F464 (g_off F464 rfl rfl rfl rfl) rfl rfl (fun ac465 F465 => ?_)
        clear F464 ac464
        refine sv (v := .bool false) F465 (run_guard rfl) rfl rfl (r_pick_f rfl (F465.ev rfl) ev_c) (fun ac466 F466 => ?_)
        clear F465 ac465
        refine sv (v := .bool false) F466 (run_guard rfl) rfl rfl (r_move rfl (F466.ev rfl)) (fun ac467 F467 => ?_)
        clear F466 ac466
        refine so F467 (g_off F467 rfl rfl rfl rfl) rfl rfl (fun ac468 F468 => ?_)
        clear F467 ac467
        refine so F468 (g_off F468 rfl rfl rfl rfl) rfl rfl (fun ac469 F469 => ?_)
        clear F468 ac468
        refine sv (v := .bool false) F469 (run_guard rfl) rfl rfl (r_pick_f rfl (F469.ev rfl) ev_c) (fun ac470 F470 => ?_)
        clear F469 ac469
        refine sv (v := .bool false) F470 (run_guard rfl) rfl rfl (r_move rfl (F470.ev rfl)) (fun ac471 F471 => ?_)
        clear F470 ac470
        refine so F471 (g_off F471 rfl rfl rfl rfl) rfl rfl (fun ac472 F472 => ?_)
        clear F471 ac471
        refine so F472 (g_off F472 rfl rfl rfl rfl) rfl rfl (fun ac473 F473 => ?_)
        clear F472 ac472
        refine sv (v := .bool false) F473 (run_guard rfl) rfl rfl (r_pick_f rfl (F473.ev rfl) ev_c) (fun ac474 F474 => ?_)
        clear F473 ac473
        refine sv (v := .bool false) F474 (run_guard rfl) rfl rfl (r_move rfl (F474.ev rfl)) (fun ac475 F475 => ?_)
        clear F474 ac474
        refine so F475 (g_off F475 rfl rfl rfl rfl) rfl rfl (fun ac476 F476 => ?_)
        clear F475 ac475
        refine so F476 (g_off F476 rfl rfl rfl rfl) rfl rfl (fun ac477 F477 => ?_)
        clear F476 ac476
        refine so F477 (g_off F477 rfl rfl rfl rfl) rfl rfl (fun ac478 F478 => ?_)
        clear F477 ac477
        refine sv (v := .bool false) F478 (run_guard rfl) rfl rfl (r_pick_f rfl (F478.ev rfl) ev_c) (fun ac479 F479 => ?_)
        clear F478 ac478
        refine sv (v := .bool false) F479 (run_guard rfl) rfl rfl (r_assign rfl (F479.ev rfl)) (fun ac480 F480 => ?_)
        clear F479 ac479
        refine c_end F480 ?_
        refine hK11 _ _ ?_
        refine wp_ret ?_
        (try simp only [Exit.then, Exit.inBlock])
        refine retx (fn := Tryd.f25) F480 (results1 (fn := Tryd.f25) rfl (rv_t (t := 0) (v := .bool false) F480 rfl)) ?_
        cases h
        exact ⟨rfl, HB.out⟩
    | false =>
      replace h := cond_f hT2 h
      refine so F66 (g_off F66 rfl rfl rfl (lk rfl hT2)) rfl rfl (fun ac481 F481 => ?_)
      clear F66 ac66
      refine so F481 (g_off F481 rfl rfl rfl (lk rfl hT2)) rfl rfl (fun ac482 F482 => ?_)
      clear F481 ac481
      refine so F482 (g_off F482 rfl rfl rfl (lk rfl hT2)) rfl rfl (fun ac483 F483 => ?_)
      clear F482 ac482
      refine so F483 (g_off F483 rfl rfl rfl (lk rfl hT2)) rfl rfl (fun ac484 F484 => ?_)
      clear F483 ac483
      refine sv (v := .bool false) F484 (run_guard rfl) rfl rfl (r_pick_f rfl (F484.ev (lk rfl hT2)) ev_c) (fun ac485 F485 => ?_)
      clear F484 ac484
      refine sv (v := .bool false) F485 (run_guard rfl) rfl rfl (r_move rfl (F485.ev rfl)) (fun ac486 F486 => ?_)
      clear F485 ac485
      refine so F486 (g_off F486 rfl rfl rfl rfl) rfl rfl (fun ac487 F487 => ?_)
      clear F486 ac486
      refine so F487 (g_off F487 rfl rfl rfl rfl) rfl rfl (fun ac488 F488 => ?_)
      clear F487 ac487
      refine sv (v := .bool false) F488 (run_guard rfl) rfl rfl (r_pick_f rfl (F488.ev rfl) ev_c) (fun ac489 F489 => ?_)
      clear F488 ac488
      refine sv (v := .bool false) F489 (run_guard rfl) rfl rfl (r_move rfl (F489.ev rfl)) (fun ac490 F490 => ?_)
      clear F489 ac489
      refine so F490 (g_off F490 rfl rfl rfl rfl) rfl rfl (fun ac491 F491 => ?_)
      clear F490 ac490
      refine so F491 (g_off F491 rfl rfl rfl rfl) rfl rfl (fun ac492 F492 => ?_)
      clear F491 ac491
      refine so F492 (g_off F492 rfl rfl rfl rfl) rfl rfl (fun ac493 F493 => ?_)
      clear F492 ac492
      refine so F493 (g_off F493 rfl rfl rfl rfl) rfl rfl (fun ac494 F494 => ?_)
      clear F493 ac493
      refine sv (v := .bool false) F494 (run_guard rfl) rfl rfl (r_pick_f rfl (F494.ev rfl) ev_c) (fun ac495 F495 => ?_)
      clear F494 ac494
      refine sv (v := .bool false) F495 (run_guard rfl) rfl rfl (r_move rfl (F495.ev rfl)) (fun ac496 F496 => ?_)
      clear F495 ac495
      refine so F496 (g_off F496 rfl rfl rfl rfl) rfl rfl (fun ac497 F497 => ?_)
      clear F496 ac496
      refine so F497 (g_off F497 rfl rfl rfl rfl) rfl rfl (fun ac498 F498 => ?_)
      clear F497 ac497
      refine sv (v := .bool false) F498 (run_guard rfl) rfl rfl (r_pick_f rfl (F498.ev rfl) ev_c) (fun ac499 F499 => ?_)
      clear F498 ac498
      refine sv (v := .bool false) F499 (run_guard rfl) rfl rfl (r_move rfl (F499.ev rfl)) (fun ac500 F500 => ?_)
      clear F499 ac499
      refine so F500 (g_off F500 rfl rfl rfl rfl) rfl rfl (fun ac501 F501 => ?_)
      clear F500 ac500
      refine so F501 (g_off F501 rfl rfl rfl rfl) rfl rfl (fun ac502 F502 => ?_)
      clear F501 ac501
      refine sv (v := .bool false) F502 (run_guard rfl) rfl rfl (r_pick_f rfl (F502.ev rfl) ev_c) (fun ac503 F503 => ?_)
      clear F502 ac502
      refine sv (v := .bool false) F503 (run_guard rfl) rfl rfl (r_move rfl (F503.ev rfl)) (fun ac504 F504 => ?_)
      clear F503 ac503
      refine so F504 (g_off F504 rfl rfl rfl rfl) rfl rfl (fun ac505 F505 => ?_)
      clear F504 ac504
      refine so F505 (g_off F505 rfl rfl rfl rfl) rfl rfl (fun ac506 F506 => ?_)
      clear F505 ac505
      refine sv (v := .bool false) F506 (run_guard rfl) rfl rfl (r_pick_f rfl (F506.ev rfl) ev_c) (fun ac507 F507 => ?_)
      clear F506 ac506
      refine sv (v := .bool false) F507 (run_guard rfl) rfl rfl (r_move rfl (F507.ev rfl)) (fun ac508 F508 => ?_)
      clear F507 ac507
      refine so F508 (g_off F508 rfl rfl rfl rfl) rfl rfl (fun ac509 F509 => ?_)
      clear F508 ac508
      refine so F509 (g_off F509 rfl rfl rfl rfl) rfl rfl (fun ac510 F510 => ?_)
      clear F509 ac509
      refine sv (v := .bool false) F510 (run_guard rfl) rfl rfl (r_pick_f rfl (F510.ev rfl) ev_c) (fun ac511 F511 => ?_)
      clear F510 ac510
      refine sv (v := .bool false) F511 (run_guard rfl) rfl rfl (r_move rfl (F511.ev rfl)) (fun ac512 F512 => ?_)
      clear F511 ac511
      refine so F512 (g_off F512 rfl rfl rfl rfl) rfl rfl (fun ac513 F513 => ?_)
      clear F512 ac512
      refine so F513 (g_off F513 rfl rfl rfl rfl) rfl rfl (fun ac514 F514 => ?_)
      clear F513 ac513
      refine sv (v := .bool false) F514 (run_guard rfl) rfl rfl (r_pick_f rfl (F514.ev rfl) ev_c) (fun ac515 F515 => ?_)
      clear F514 ac514
      refine sv (v := .bool false) F515 (run_guard rfl) rfl rfl (r_move rfl (F515.ev rfl)) (fun ac516 F516 => ?_)
      clear F515 ac515
      refine so F516 (g_off F516 rfl rfl rfl rfl) rfl rfl (fun ac517 F517 => ?_)
      clear F516 ac516
      refine so F517 (g_off F517 rfl rfl rfl rfl) rfl rfl (fun ac518 F518 => ?_)
      clear F517 ac517
      refine so F518 (g_off F518 rfl rfl rfl rfl) rfl rfl (fun ac519 F519 => ?_)
      clear F518 ac518
      refine sv (v := .bool false) F519 (run_guard rfl) rfl rfl (r_pick_f rfl (F519.ev rfl) ev_c) (fun ac520 F520 => ?_)
      clear F519 ac519
      refine sv (v := .bool false) F520 (run_guard rfl) rfl rfl (r_move rfl (F520.ev rfl)) (fun ac521 F521 => ?_)
      clear F520 ac520
      refine so F521 (g_off F521 rfl rfl rfl rfl) rfl rfl (fun ac522 F522 => ?_)
      clear F521 ac521
      refine so F522 (g_off F522 rfl rfl rfl rfl) rfl rfl (fun ac523 F523 => ?_)
      clear F522 ac522
      refine so F523 (g_off F523 rfl rfl rfl rfl) rfl rfl (fun ac524 F524 => ?_)
      clear F523 ac523
      refine so F524 (g_off F524 rfl rfl rfl rfl) rfl rfl (fun ac525 F525 => ?_)
      clear F524 ac524
      refine sv (v := .bool false) F525 (run_guard rfl) rfl rfl (r_pick_f rfl (F525.ev rfl) ev_c) (fun ac526 F526 => ?_)
      clear F525 ac525
      refine sv (v := .bool false) F526 (run_guard rfl) rfl rfl (r_move rfl (F526.ev rfl)) (fun ac527 F527 => ?_)
      clear F526 ac526
      refine so F527 (g_off F527 rfl rfl rfl rfl) rfl rfl (fun ac528 F528 => ?_)
      clear F527 ac527
      refine so F528 (g_off F528 rfl rfl rfl rfl) rfl rfl (fun ac529 F529 => ?_)
      clear F528 ac528
      refine sv (v := .bool false) F529 (run_guard rfl) rfl rfl (r_pick_f rfl (F529.ev rfl) ev_c) (fun ac530 F530 => ?_)
      clear F529 ac529
      refine sv (v := .bool false) F530 (run_guard rfl) rfl rfl (r_move rfl (F530.ev rfl)) (fun ac531 F531 => ?_)
      clear F530 ac530
      refine so F531 (g_off F531 rfl rfl rfl rfl) rfl rfl (fun ac532 F532 => ?_)
      clear F531 ac531
      refine so F532 (g_off F532 rfl rfl rfl rfl) rfl rfl (fun ac533 F533 => ?_)
      clear F532 ac532
      refine sv (v := .bool false) F533 (run_guard rfl) rfl rfl (r_pick_f rfl (F533.ev rfl) ev_c) (fun ac534 F534 => ?_)
      clear F533 ac533
      refine sv (v := .bool false) F534 (run_guard rfl) rfl rfl (r_move rfl (F534.ev rfl)) (fun ac535 F535 => ?_)
      clear F534 ac534
      refine so F535 (g_off F535 rfl rfl rfl rfl) rfl rfl (fun ac536 F536 => ?_)
      clear F535 ac535
      refine so F536 (g_off F536 rfl rfl rfl rfl) rfl rfl (fun ac537 F537 => ?_)
      clear F536 ac536
      refine so F537 (g_off F537 rfl rfl rfl rfl) rfl rfl (fun ac538 F538 => ?_)
      clear F537 ac537
      refine sv (v := .bool false) F538 (run_guard rfl) rfl rfl (r_pick_f rfl (F538.ev rfl) ev_c) (fun ac539 F539 => ?_)
      clear F538 ac538
      refine sv (v := .bool false) F539 (run_guard rfl) rfl rfl (r_assign rfl (F539.ev rfl)) (fun ac540 F540 => ?_)
      clear F539 ac539
      refine c_end F540 ?_
      refine hK11 _ _ ?_
      refine wp_ret ?_
      (try simp only [Exit.then, Exit.inBlock])
      refine retx (fn := Tryd.f25) F540 (results1 (fn := Tryd.f25) rfl (rv_t (t := 0) (v := .bool false) F540 rfl)) ?_
      cases h
      exact ⟨rfl, HB.out⟩
  | false =>
    replace h := cond_f hT1 h
    refine so F63 (g_off F63 rfl rfl rfl (lk rfl hT1)) rfl rfl (fun ac541 F541 => ?_)
    clear F63 ac63
    refine sv (v := .bool false) F541 (run_guard rfl) rfl rfl (r_pick_f rfl (F541.ev (lk rfl hT1)) ev_c) (fun ac542 F542 => ?_)
    clear F541 ac541
    refine sv (v := .bool false) F542 (run_guard rfl) rfl rfl (r_move rfl (F542.ev rfl)) (fun ac543 F543 => ?_)
    clear F542 ac542
    refine so F543 (g_off F543 rfl rfl rfl rfl) rfl rfl (fun ac544 F544 => ?_)
    clear F543 ac543
    refine so F544 (g_off F544 rfl rfl rfl rfl) rfl rfl (fun ac545 F545 => ?_)
    clear F544 ac544
    refine so F545 (g_off F545 rfl rfl rfl rfl) rfl rfl (fun ac546 F546 => ?_)
    clear F545 ac545
    refine so F546 (g_off F546 rfl rfl rfl rfl) rfl rfl (fun ac547 F547 => ?_)
    clear F546 ac546
    refine sv (v := .bool false) F547 (run_guard rfl) rfl rfl (r_pick_f rfl (F547.ev rfl) ev_c) (fun ac548 F548 => ?_)
    clear F547 ac547
    refine sv (v := .bool false) F548 (run_guard rfl) rfl rfl (r_move rfl (F548.ev rfl)) (fun ac549 F549 => ?_)
    clear F548 ac548
    refine so F549 (g_off F549 rfl rfl rfl rfl) rfl rfl (fun ac550 F550 => ?_)
    clear F549 ac549
    refine so F550 (g_off F550 rfl rfl rfl rfl) rfl rfl (fun ac551 F551 => ?_)
    clear F550 ac550
    refine sv (v := .bool false) F551 (run_guard rfl) rfl rfl (r_pick_f rfl (F551.ev rfl) ev_c) (fun ac552 F552 => ?_)
    clear F551 ac551
    refine sv (v := .bool false) F552 (run_guard rfl) rfl rfl (r_move rfl (F552.ev rfl)) (fun ac553 F553 => ?_)
    clear F552 ac552
    refine so F553 (g_off F553 rfl rfl rfl rfl) rfl rfl (fun ac554 F554 => ?_)
    clear F553 ac553
    refine so F554 (g_off F554 rfl rfl rfl rfl) rfl rfl (fun ac555 F555 => ?_)
    clear F554 ac554
    refine so F555 (g_off F555 rfl rfl rfl rfl) rfl rfl (fun ac556 F556 => ?_)
    clear F555 ac555
    refine so F556 (g_off F556 rfl rfl rfl rfl) rfl rfl (fun ac557 F557 => ?_)
    clear F556 ac556
    refine sv (v := .bool false) F557 (run_guard rfl) rfl rfl (r_pick_f rfl (F557.ev rfl) ev_c) (fun ac558 F558 => ?_)
    clear F557 ac557
    refine sv (v := .bool false) F558 (run_guard rfl) rfl rfl (r_move rfl (F558.ev rfl)) (fun ac559 F559 => ?_)
    clear F558 ac558
    refine so F559 (g_off F559 rfl rfl rfl rfl) rfl rfl (fun ac560 F560 => ?_)
    clear F559 ac559
    refine so F560 (g_off F560 rfl rfl rfl rfl) rfl rfl (fun ac561 F561 => ?_)
    clear F560 ac560
    refine sv (v := .bool false) F561 (run_guard rfl) rfl rfl (r_pick_f rfl (F561.ev rfl) ev_c) (fun ac562 F562 => ?_)
    clear F561 ac561
    refine sv (v := .bool false) F562 (run_guard rfl) rfl rfl (r_move rfl (F562.ev rfl)) (fun ac563 F563 => ?_)
    clear F562 ac562
    refine so F563 (g_off F563 rfl rfl rfl rfl) rfl rfl (fun ac564 F564 => ?_)
    clear F563 ac563
    refine so F564 (g_off F564 rfl rfl rfl rfl) rfl rfl (fun ac565 F565 => ?_)
    clear F564 ac564
    refine sv (v := .bool false) F565 (run_guard rfl) rfl rfl (r_pick_f rfl (F565.ev rfl) ev_c) (fun ac566 F566 => ?_)
    clear F565 ac565
    refine sv (v := .bool false) F566 (run_guard rfl) rfl rfl (r_move rfl (F566.ev rfl)) (fun ac567 F567 => ?_)
    clear F566 ac566
    refine so F567 (g_off F567 rfl rfl rfl rfl) rfl rfl (fun ac568 F568 => ?_)
    clear F567 ac567
    refine so F568 (g_off F568 rfl rfl rfl rfl) rfl rfl (fun ac569 F569 => ?_)
    clear F568 ac568
    refine sv (v := .bool false) F569 (run_guard rfl) rfl rfl (r_pick_f rfl (F569.ev rfl) ev_c) (fun ac570 F570 => ?_)
    clear F569 ac569
    refine sv (v := .bool false) F570 (run_guard rfl) rfl rfl (r_move rfl (F570.ev rfl)) (fun ac571 F571 => ?_)
    clear F570 ac570
    refine so F571 (g_off F571 rfl rfl rfl rfl) rfl rfl (fun ac572 F572 => ?_)
    clear F571 ac571
    refine so F572 (g_off F572 rfl rfl rfl rfl) rfl rfl (fun ac573 F573 => ?_)
    clear F572 ac572
    refine sv (v := .bool false) F573 (run_guard rfl) rfl rfl (r_pick_f rfl (F573.ev rfl) ev_c) (fun ac574 F574 => ?_)
    clear F573 ac573
    refine sv (v := .bool false) F574 (run_guard rfl) rfl rfl (r_move rfl (F574.ev rfl)) (fun ac575 F575 => ?_)
    clear F574 ac574
    refine so F575 (g_off F575 rfl rfl rfl rfl) rfl rfl (fun ac576 F576 => ?_)
    clear F575 ac575
    refine so F576 (g_off F576 rfl rfl rfl rfl) rfl rfl (fun ac577 F577 => ?_)
    clear F576 ac576
    refine sv (v := .bool false) F577 (run_guard rfl) rfl rfl (r_pick_f rfl (F577.ev rfl) ev_c) (fun ac578 F578 => ?_)
    clear F577 ac577
    refine sv (v := .bool false) F578 (run_guard rfl) rfl rfl (r_move rfl (F578.ev rfl)) (fun ac579 F579 => ?_)
    clear F578 ac578
    refine so F579 (g_off F579 rfl rfl rfl rfl) rfl rfl (fun ac580 F580 => ?_)
    clear F579 ac579
    refine so F580 (g_off F580 rfl rfl rfl rfl) rfl rfl (fun ac581 F581 => ?_)
    clear F580 ac580
    refine so F581 (g_off F581 rfl rfl rfl rfl) rfl rfl (fun ac582 F582 => ?_)
    clear F581 ac581
    refine sv (v := .bool false) F582 (run_guard rfl) rfl rfl (r_pick_f rfl (F582.ev rfl) ev_c) (fun ac583 F583 => ?_)
    clear F582 ac582
    refine sv (v := .bool false) F583 (run_guard rfl) rfl rfl (r_move rfl (F583.ev rfl)) (fun ac584 F584 => ?_)
    clear F583 ac583
    refine so F584 (g_off F584 rfl rfl rfl rfl) rfl rfl (fun ac585 F585 => ?_)
    clear F584 ac584
    refine so F585 (g_off F585 rfl rfl rfl rfl) rfl rfl (fun ac586 F586 => ?_)
    clear F585 ac585
    refine so F586 (g_off F586 rfl rfl rfl rfl) rfl rfl (fun ac587 F587 => ?_)
    clear F586 ac586
    refine so F587 (g_off F587 rfl rfl rfl rfl) rfl rfl (fun ac588 F588 => ?_)
    clear F587 ac587
    refine sv (v := .bool false) F588 (run_guard rfl) rfl rfl (r_pick_f rfl (F588.ev rfl) ev_c) (fun ac589 F589 => ?_)
    clear F588 ac588
    refine sv (v := .bool false) F589 (run_guard rfl) rfl rfl (r_move rfl (F589.ev rfl)) (fun ac590 F590 => ?_)
    clear F589 ac589
    refine so F590 (g_off F590 rfl rfl rfl rfl) rfl rfl (fun ac591 F591 => ?_)
    clear F590 ac590
    refine so F591 (g_off F591 rfl rfl rfl rfl) rfl rfl (fun ac592 F592 => ?_)
    clear F591 ac591
    refine sv (v := .bool false) F592 (run_guard rfl) rfl rfl (r_pick_f rfl (F592.ev rfl) ev_c) (fun ac593 F593 => ?_)
    clear F592 ac592
    refine sv (v := .bool false) F593 (run_guard rfl) rfl rfl (r_move rfl (F593.ev rfl)) (fun ac594 F594 => ?_)
    clear F593 ac593
    refine so F594 (g_off F594 rfl rfl rfl rfl) rfl rfl (fun ac595 F595 => ?_)
    clear F594 ac594
    refine so F595 (g_off F595 rfl rfl rfl rfl) rfl rfl (fun ac596 F596 => ?_)
    clear F595 ac595
    refine sv (v := .bool false) F596 (run_guard rfl) rfl rfl (r_pick_f rfl (F596.ev rfl) ev_c) (fun ac597 F597 => ?_)
    clear F596 ac596
    refine sv (v := .bool false) F597 (run_guard rfl) rfl rfl (r_move rfl (F597.ev rfl)) (fun ac598 F598 => ?_)
    clear F597 ac597
    refine so F598 (g_off F598 rfl rfl rfl rfl) rfl rfl (fun ac599 F599 => ?_)
    clear F598 ac598
    refine so F599 (g_off F599 rfl rfl rfl rfl) rfl rfl (fun ac600 F600 => ?_)
    clear F599 ac599
    refine so F600 (g_off F600 rfl rfl rfl rfl) rfl rfl (fun ac601 F601 => ?_)
    clear F600 ac600
    refine sv (v := .bool false) F601 (run_guard rfl) rfl rfl (r_pick_f rfl (F601.ev rfl) ev_c) (fun ac602 F602 => ?_)
    clear F601 ac601
    refine sv (v := .bool false) F602 (run_guard rfl) rfl rfl (r_assign rfl (F602.ev rfl)) (fun ac603 F603 => ?_)
    clear F602 ac602
    refine c_end F603 ?_
    refine hK11 _ _ ?_
    refine wp_ret ?_
    (try simp only [Exit.then, Exit.inBlock])
    refine retx (fn := Tryd.f25) F603 (results1 (fn := Tryd.f25) rfl (rv_t (t := 0) (v := .bool false) F603 rfl)) ?_
    cases h
    exact ⟨rfl, HB.out⟩
end Go.Proofs.YtndijkndllpkgaaDoor.Pr
