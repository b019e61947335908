/- The walk of feluccalaw04.DirectShort by explicit steps (wip/xw.py). -/
import Derived.Test.YtndijkndllpkgaaDoorWalkAC
namespace Go.Proofs.YtndijkndllpkgaaDoor.Pr
open Go.RowKit Go.Proofs.YtndijkndllpkgaaDoorW.PrintWords Go.Proofs.YtndijkndllpkgaaDoorW.PrintLast Go.Proofs.YtndijkndllpkgaaDoorW.PrintMore Go.Proofs.YtndijkndllpkgaaDoor.X
set_option linter.unusedVariables false
set_option linter.unusedSimpArgs false
theorem feluccalaw04_DirectShort.sz38 : (Tryd.prog.info? 38).map (·.size) = some 13 := by
  kernel_rfl
theorem feluccalaw04_DirectShort.sz9 : (Tryd.prog.info? 9).map (·.size) = some 1 := by
  kernel_rfl
theorem feluccalaw04_DirectShort.zv38 (w : World) : (zeroValue 38).run Tryd.prog w = .ok (.agg #[.int .i64 0, .int .i64 0, .int .i64 0, .int .i64 0, .int .i64 0, .int .i64 0, .int .i64 0, .int .i64 0, .int .i64 0, .int .i64 0, .int .i64 0, .int .i64 0, .int .i64 0]) w := by
  first | (go_simp; done) | (go_simp; rfl) | rfl
theorem feluccalaw04_DirectShort.bsl39_0  (w : World) : (Instr.buildSlice 39 0 #[]).run Tryd.prog w = .ok (.slice (some ⟨w.heap.size, 0, none⟩) 0 0) (w.alloc (.cells #[] 9)) := by
  first | (go_simp; done) | (go_simp; rfl) | rfl
theorem feluccalaw04_DirectShort.info9 : (Tryd.prog.info? 9).map (fun i => (i.zero, i.size, i.bytes)) = some (some (.string (⟨#[]⟩ : ByteArray)), 1, 16) := by
  kernel_rfl
def feluccalaw04_DirectShort.f (k : Nat) (a0_0 : Int) (a0_1 : Int) (a0_2 : Int) (a0_3 : Int) (a0_4 : Int) (a0_5 : Int) (a0_6 : Int) (a0_7 : Int) (a0_8 : Int) (a0_9 : Int) (a0_10 : Int) (a0_11 : Int) (a0_12 : Int) (a1 : Int) (l2 : List ByteArray) : Option (Bool) := (feluccalaw04_small.f k).bind fun y1 => ((direct_Words.f k a0_0 a0_1 a0_2 a0_3 a0_4 a0_5 a0_6 a0_7 a0_8 a0_9 a0_10 a0_11 a0_12).bind fun ⟨y2, y3⟩ => (bif (!y3) then (some y1) else (bif decide (a1 < 0) then (some y1) else (bif decide ((y2.length : Int) ≤ a1) then (some y1) else (bif decide (20 < (l2.length : Int)) then (some y1) else (bif decide (0 ≤ a1) then (bif decide (a1 ≤ (y2.length : Int)) then ((direct_Parse.f k (y2.take (a1 : Int).toNat)).bind fun ⟨y4, y5, y6, y7, y8, y9, y10, y11, y12, y13, y14, y15, y16, y17⟩ => (bif decide (([] : List ByteArray).length + y2.length < 8796093022208) then (bif decide ((([] : List ByteArray) ++ y2).length + l2.length < 8796093022208) then ((direct_Parse.f k ((([] : List ByteArray) ++ y2) ++ l2)).bind fun ⟨y18, y19, y20, y21, y22, y23, y24, y25, y26, y27, y28, y29, y30, y31⟩ => (bif y1 then (bif decide (y17 = 2) then (bif ((decide ((l2.length : Int) = 0)) == (decide (y31 = 0))) then (bif decide ((l2.length : Int) = 0) then (some true) else (some (decide (y31 = 2)))) else (some false)) else (some false)) else (some false))) else (none)) else (none))) else (none)) else (none)))))))
set_option maxHeartbeats 4000000 in
set_option maxRecDepth 100000 in
theorem feluccalaw04_DirectShort.calls (k : Nat) (a0_0 : Int) (a0_1 : Int) (a0_2 : Int) (a0_3 : Int) (a0_4 : Int) (a0_5 : Int) (a0_6 : Int) (a0_7 : Int) (a0_8 : Int) (a0_9 : Int) (a0_10 : Int) (a0_11 : Int) (a0_12 : Int) (a1 : Int) (A2 : Option Addr) (c2 : Nat) (l2 : List ByteArray) (r : Bool) (w : World) (hr2 : Kd.C Kd.string w A2 l2.length l2) (hc2 : l2.length ≤ c2) (hTabP : TabP w) (h : feluccalaw04_DirectShort.f k a0_0 a0_1 a0_2 a0_3 a0_4 a0_5 a0_6 a0_7 a0_8 a0_9 a0_10 a0_11 a0_12 a1 l2 = some r) :
    Calls Tryd.prog 13 #[.agg #[.int .i64 a0_0, .int .i64 a0_1, .int .i64 a0_2, .int .i64 a0_3, .int .i64 a0_4, .int .i64 a0_5, .int .i64 a0_6, .int .i64 a0_7, .int .i64 a0_8, .int .i64 a0_9, .int .i64 a0_10, .int .i64 a0_11, .int .i64 a0_12], .int .i64 a1, .slice A2 l2.length c2] w fun e w' => e = .returned (.bool r) ∧ Below w.heap.size w w' := by
  unfold feluccalaw04_DirectShort.f at h
  have XTabP := Aside0.mk hTabP
  clear hTabP
  have HB := Aside0.mk (Below.refl w.heap.size w)
  have HR2 := Aside0.mk hr2
  have HC2 := Aside0.mk hc2
  clear hr2 hc2
  refine calls_x (args := [.agg #[.int .i64 a0_0, .int .i64 a0_1, .int .i64 a0_2, .int .i64 a0_3, .int .i64 a0_4, .int .i64 a0_5, .int .i64 a0_6, .int .i64 a0_7, .int .i64 a0_8, .int .i64 a0_9, .int .i64 a0_10, .int .i64 a0_11, .int .i64 a0_12], .int .i64 a1, .slice A2 l2.length c2]) Tryd.func13 rfl 76 76 rfl rfl (fun ac0 F0 => ?_)
  refine wp_seq_k (fun K1 hK1 => ?_)
  refine wp_region_lit ?_
  refine s_new (cs := #[.int .i64 a0_0, .int .i64 a0_1, .int .i64 a0_2, .int .i64 a0_3, .int .i64 a0_4, .int .i64 a0_5, .int .i64 a0_6, .int .i64 a0_7, .int .i64 a0_8, .int .i64 a0_9, .int .i64 a0_10, .int .i64 a0_11, .int .i64 a0_12]) F0 (run_guard rfl) rfl rfl (r_box rfl (F0.ev rfl) rfl) (fun ac1 w1 b1 hb hge hlt hE F1 => ?_)
  clear F0 ac0
  have GEX1 := Aside0.mk (Nat.le_trans HB.out.size hge)
  replace HB := Aside0.mk (below_step HB.out hE)
  have X1 := Aside0.mk hb
  clear hb hge hlt hE
  refine sv (v := .bool false) F1 (run_guard rfl) rfl rfl (r_assign rfl ev_c) (fun ac2 F2 => ?_)
  clear F1 ac1
  refine c_end F2 ?_
  refine hK1 _ _ ?_
  refine wp_seq_k (fun K2 hK2 => ?_)
  refine wp_region_lit ?_
  replace h := Option.bind_eq_some_iff.1 h
  obtain ⟨y1, hy, h⟩ := h
  refine sc F2 (run_guard rfl) rfl rfl (r_call rfl Tryd.func25 (by kernel_rfl) rfl rfl m0) ?_
  refine (feluccalaw04_small.calls k _ _ (TabP.below XTabP.out HB.out) hy).mono ?_
  rintro e w2 ⟨rfl, hE⟩
  clear hy
  replace X1 := Aside0.mk (blk_below X1.out hE)
  replace HB := Aside0.mk (below_step HB.out hE)
  refine ⟨_, rfl, fun ac3 F3 => ?_⟩
  clear hE F2 ac2
  refine sv (v := .bool y1) F3 (run_guard rfl) rfl rfl (r_assign rfl (F3.ev rfl)) (fun ac4 F4 => ?_)
  clear F3 ac3
  refine c_end F4 ?_
  refine hK2 _ _ ?_
  refine wp_seq_k (fun K3 hK3 => ?_)
  refine wp_region_lit ?_
  refine sv (v := .agg #[.int .i64 a0_0, .int .i64 a0_1, .int .i64 a0_2, .int .i64 a0_3, .int .i64 a0_4, .int .i64 a0_5, .int .i64 a0_6, .int .i64 a0_7, .int .i64 a0_8, .int .i64 a0_9, .int .i64 a0_10, .int .i64 a0_11, .int .i64 a0_12]) F4 (run_guard rfl) rfl rfl (r_load rfl (F4.ev rfl) (l_part X1.out 0 [.int .i64 a0_0, .int .i64 a0_1, .int .i64 a0_2, .int .i64 a0_3, .int .i64 a0_4, .int .i64 a0_5, .int .i64 a0_6, .int .i64 a0_7, .int .i64 a0_8, .int .i64 a0_9, .int .i64 a0_10, .int .i64 a0_11, .int .i64 a0_12] rfl Tryd.underlying38 rfl feluccalaw04_DirectShort.sz38)) (fun ac5 F5 => ?_)
  clear F4 ac4
  replace h := Option.bind_eq_some_iff.1 h
  obtain ⟨⟨y2, y3⟩, hy, h⟩ := h
  refine sc F5 (run_guard rfl) rfl rfl (r_call rfl Tryd.func26 (by kernel_rfl) rfl rfl (m1 (F5.ev rfl))) ?_
  refine (direct_Words.calls k a0_0 a0_1 a0_2 a0_3 a0_4 a0_5 a0_6 a0_7 a0_8 a0_9 a0_10 a0_11 a0_12 _ _ _ (TabP.below XTabP.out HB.out) hy).mono ?_
  rintro e w3 ⟨v1, rfl, hR0, hE⟩
  clear hy
  replace hR0 := Kd.R_lower hR0 HB.out.size
  replace X1 := Aside0.mk (blk_below X1.out hE)
  replace HB := Aside0.mk (below_step HB.out hE)
  obtain ⟨Aq1, cq1, rfl⟩ := Kd.R_slice hR0
  have R1 := Aside0.mk hR0
  clear hR0
  refine ⟨_, rfl, fun ac6 F6 => ?_⟩
  clear hE F5 ac5
  refine sv (v := .tuple #[.slice Aq1 y2.length cq1, .bool y3]) F6 (run_guard rfl) rfl rfl (r_move rfl (F6.ev rfl)) (fun ac7 F7 => ?_)
  clear F6 ac6
  refine sv (v := .slice Aq1 y2.length cq1) F7 (run_guard rfl) rfl rfl (r_extract rfl (F7.ev rfl) rfl) (fun ac8 F8 => ?_)
  clear F7 ac7
  refine sv (v := .bool y3) F8 (run_guard rfl) rfl rfl (r_extract rfl (F8.ev rfl) rfl) (fun ac9 F9 => ?_)
  clear F8 ac8
  refine sv (v := .slice Aq1 y2.length cq1) F9 (run_guard rfl) rfl rfl (r_assign rfl (F9.ev rfl)) (fun ac10 F10 => ?_)
  clear F9 ac9
  refine sv (v := .bool y3) F10 (run_guard rfl) rfl rfl (r_assign rfl (F10.ev rfl)) (fun ac11 F11 => ?_)
  clear F10 ac10
  refine c_end F11 ?_
  refine hK3 _ _ ?_
  refine wp_seq_k (fun K4 hK4 => ?_)
  refine wp_seq_k (fun K5 hK5 => ?_)
  clear X1
  refine wp_region_lit ?_
  refine sv (v := .bool y3) F11 (run_guard rfl) rfl rfl (r_move rfl (F11.ev rfl)) (fun ac12 F12 => ?_)
  clear F11 ac11
  refine sv (v := .bool (!y3)) F12 (run_guard rfl) rfl rfl (r_not (b := y3) rfl (F12.ev rfl)) (fun ac13 F13 => ?_)
  clear F12 ac12
  refine sv (v := .bool (!y3)) F13 (run_guard rfl) rfl rfl (r_move rfl (F13.ev rfl)) (fun ac14 F14 => ?_)
  clear F13 ac13
  cases hT1 : (!y3) with
  | true =>
    replace h := cond_t hT1 h
    refine so F14 (g_off F14 rfl rfl rfl (lk rfl hT1)) rfl rfl (fun ac15 F15 => ?_)
    clear F14 ac14
    refine so F15 (g_off F15 rfl rfl rfl (lk rfl hT1)) rfl rfl (fun ac16 F16 => ?_)
    clear F15 ac15
    refine sv (v := .bool true) F16 (run_guard rfl) rfl rfl (r_pick_t rfl (F16.ev (lk rfl hT1)) ev_c) (fun ac17 F17 => ?_)
    clear F16 ac16
    refine sv (v := .bool true) F17 (run_guard rfl) rfl rfl (r_move rfl (F17.ev rfl)) (fun ac18 F18 => ?_)
    clear F17 ac17
    refine so F18 (g_off F18 rfl rfl rfl rfl) rfl rfl (fun ac19 F19 => ?_)
    clear F18 ac18
    refine so F19 (g_off F19 rfl rfl rfl rfl) rfl rfl (fun ac20 F20 => ?_)
    clear F19 ac19
    refine so F20 (g_off F20 rfl rfl rfl rfl) rfl rfl (fun ac21 F21 => ?_)
    clear F20 ac20
    refine so F21 (g_off F21 rfl rfl rfl rfl) rfl rfl (fun ac22 F22 => ?_)
    clear F21 ac21
    refine sv (v := .bool true) F22 (run_guard rfl) rfl rfl (r_pick_t rfl (F22.ev rfl) ev_c) (fun ac23 F23 => ?_)
    clear F22 ac22
    refine sv (v := .bool true) F23 (run_guard rfl) rfl rfl (r_move rfl (F23.ev rfl)) (fun ac24 F24 => ?_)
    clear F23 ac23
    refine so F24 (g_off F24 rfl rfl rfl rfl) rfl rfl (fun ac25 F25 => ?_)
    clear F24 ac24
    refine so F25 (g_off F25 rfl rfl rfl rfl) rfl rfl (fun ac26 F26 => ?_)
    clear F25 ac25
    refine so F26 (g_off F26 rfl rfl rfl rfl) rfl rfl (fun ac27 F27 => ?_)
    clear F26 ac26
    refine sv (v := .bool true) F27 (run_guard rfl) rfl rfl (r_pick_t rfl (F27.ev rfl) ev_c) (fun ac28 F28 => ?_)
    clear F27 ac27
    refine c_end F28 ?_
    refine hK5 _ _ ?_
    refine wp_cond_true (F28.ev rfl) ?_
    refine wp_seq_k (fun K6 hK6 => ?_)
    clear R1
    refine wp_region_lit ?_
    refine sv (v := .bool y1) F28 (run_guard rfl) rfl rfl (r_move rfl (F28.ev rfl)) (fun ac29 F29 => ?_)
    clear F28 ac28
    refine sv (v := .bool y1) F29 (run_guard rfl) rfl rfl (r_assign rfl (F29.ev rfl)) (fun ac30 F30 => ?_)
    clear F29 ac29
    refine c_end F30 ?_
    refine hK6 _ _ ?_
    refine wp_ret ?_
    (try simp only [Exit.then, Exit.inBlock])
    refine retx (fn := Tryd.f13) F30 (results1 (fn := Tryd.f13) rfl (rv_t (t := 6) (v := .bool y1) F30 rfl)) ?_
    cases h
    exact ⟨rfl, HB.out⟩
  | false =>
    replace h := cond_f hT1 h
    refine sv (v := .int .i64 a1) F14 (g_on F14 rfl rfl rfl (lk rfl hT1)) rfl rfl (r_move rfl (F14.ev rfl)) (fun ac31 F31 => ?_)
    clear F14 ac14
    refine sv (v := .bool (decide (a1 < 0))) F31 (g_on F31 rfl rfl rfl (lk rfl hT1)) rfl rfl (r_lss rfl (F31.ev rfl) ev_c) (fun ac32 F32 => ?_)
    clear F31 ac31
    refine sv (v := .bool (decide (a1 < 0))) F32 (run_guard rfl) rfl rfl (r_pick_f rfl (F32.ev (lk rfl hT1)) (F32.ev rfl)) (fun ac33 F33 => ?_)
    clear F32 ac32
    refine sv (v := .bool (decide (a1 < 0))) F33 (run_guard rfl) rfl rfl (r_move rfl (F33.ev rfl)) (fun ac34 F34 => ?_)
    clear F33 ac33
    cases hT2 : decide (a1 < 0) with
    | true =>
      replace h := cond_t hT2 h
      refine so F34 (g_off F34 rfl rfl rfl (lk rfl hT2)) rfl rfl (fun ac35 F35 => ?_)
      clear F34 ac34
      refine so F35 (g_off F35 rfl rfl rfl (lk rfl hT2)) rfl rfl (fun ac36 F36 => ?_)
      clear F35 ac35
      refine so F36 (g_off F36 rfl rfl rfl (lk rfl hT2)) rfl rfl (fun ac37 F37 => ?_)
      clear F36 ac36
      refine so F37 (g_off F37 rfl rfl rfl (lk rfl hT2)) rfl rfl (fun ac38 F38 => ?_)
      clear F37 ac37
      refine sv (v := .bool true) F38 (run_guard rfl) rfl rfl (r_pick_t rfl (F38.ev (lk rfl hT2)) ev_c) (fun ac39 F39 => ?_)
      clear F38 ac38
      refine sv (v := .bool true) F39 (run_guard rfl) rfl rfl (r_move rfl (F39.ev rfl)) (fun ac40 F40 => ?_)
      clear F39 ac39
      refine so F40 (g_off F40 rfl rfl rfl rfl) rfl rfl (fun ac41 F41 => ?_)
      clear F40 ac40
      refine so F41 (g_off F41 rfl rfl rfl rfl) rfl rfl (fun ac42 F42 => ?_)
      clear F41 ac41
      refine so F42 (g_off F42 rfl rfl rfl rfl) rfl rfl (fun ac43 F43 => ?_)
      clear F42 ac42
      refine sv (v := .bool true) F43 (run_guard rfl) rfl rfl (r_pick_t rfl (F43.ev rfl) ev_c) (fun ac44 F44 => ?_)
      clear F43 ac43
      refine c_end F44 ?_
      refine hK5 _ _ ?_
      refine wp_cond_true (F44.ev rfl) ?_
      refine wp_seq_k (fun K7 hK7 => ?_)
      clear R1
      refine wp_region_lit ?_
      refine sv (v := .bool y1) F44 (run_guard rfl) rfl rfl (r_move rfl (F44.ev rfl)) (fun ac45 F45 => ?_)
      clear F44 ac44
      refine sv (v := .bool y1) F45 (run_guard rfl) rfl rfl (r_assign rfl (F45.ev rfl)) (fun ac46 F46 => ?_)
      clear F45 ac45
      refine c_end F46 ?_
      refine hK7 _ _ ?_
      refine wp_ret ?_
      (try simp only [Exit.then, Exit.inBlock])
      refine retx (fn := Tryd.f13) F46 (results1 (fn := Tryd.f13) rfl (rv_t (t := 6) (v := .bool y1) F46 rfl)) ?_
      cases h
      exact ⟨rfl, HB.out⟩
    | false =>
      replace h := cond_f hT2 h
      refine sv (v := .int .i64 a1) F34 (g_on F34 rfl rfl rfl (lk rfl hT2)) rfl rfl (r_move rfl (F34.ev rfl)) (fun ac47 F47 => ?_)
      clear F34 ac34
      refine sv (v := .slice Aq1 y2.length cq1) F47 (g_on F47 rfl rfl rfl (lk rfl hT2)) rfl rfl (r_move rfl (F47.ev rfl)) (fun ac48 F48 => ?_)
      clear F47 ac47
      refine sv (v := .int .i64 (y2.length : Int)) F48 (g_on F48 rfl rfl rfl (lk rfl hT2)) rfl rfl (r_len rfl rfl Tryd.underlying39 (F48.ev rfl)) (fun ac49 F49 => ?_)
      clear F48 ac48
      refine sv (v := .bool (decide ((y2.length : Int) ≤ a1))) F49 (g_on F49 rfl rfl rfl (lk rfl hT2)) rfl rfl (r_geq rfl (F49.ev rfl) (F49.ev rfl)) (fun ac50 F50 => ?_)
      clear F49 ac49
      refine sv (v := .bool (decide ((y2.length : Int) ≤ a1))) F50 (run_guard rfl) rfl rfl (r_pick_f rfl (F50.ev (lk rfl hT2)) (F50.ev rfl)) (fun ac51 F51 => ?_)
      clear F50 ac50
      refine sv (v := .bool (decide ((y2.length : Int) ≤ a1))) F51 (run_guard rfl) rfl rfl (r_move rfl (F51.ev rfl)) (fun ac52 F52 => ?_)
      clear F51 ac51
      cases hT3 : decide ((y2.length : Int) ≤ a1) with
      | true =>
        replace h := cond_t hT3 h
        refine so F52 (g_off F52 rfl rfl rfl (lk rfl hT3)) rfl rfl (fun ac53 F53 => ?_)
        clear F52 ac52
        refine so F53 (g_off F53 rfl rfl rfl (lk rfl hT3)) rfl rfl (fun ac54 F54 => ?_)
        clear F53 ac53
        refine so F54 (g_off F54 rfl rfl rfl (lk rfl hT3)) rfl rfl (fun ac55 F55 => ?_)
        clear F54 ac54
        refine sv (v := .bool true) F55 (run_guard rfl) rfl rfl (r_pick_t rfl (F55.ev (lk rfl hT3)) ev_c) (fun ac56 F56 => ?_)
        clear F55 ac55
        refine c_end F56 ?_
        refine hK5 _ _ ?_
        refine wp_cond_true (F56.ev rfl) ?_
        refine wp_seq_k (fun K8 hK8 => ?_)
        clear R1
        refine wp_region_lit ?_
        refine sv (v := .bool y1) F56 (run_guard rfl) rfl rfl (r_move rfl (F56.ev rfl)) (fun ac57 F57 => ?_)
        clear F56 ac56
        refine sv (v := .bool y1) F57 (run_guard rfl) rfl rfl (r_assign rfl (F57.ev rfl)) (fun ac58 F58 => ?_)
        clear F57 ac57
        refine c_end F58 ?_
        refine hK8 _ _ ?_
        refine wp_ret ?_
        (try simp only [Exit.then, Exit.inBlock])
        refine retx (fn := Tryd.f13) F58 (results1 (fn := Tryd.f13) rfl (rv_t (t := 6) (v := .bool y1) F58 rfl)) ?_
        cases h
        exact ⟨rfl, HB.out⟩
      | false =>
        replace h := cond_f hT3 h
        refine sv (v := .slice A2 l2.length c2) F52 (g_on F52 rfl rfl rfl (lk rfl hT3)) rfl rfl (r_move rfl (F52.ev rfl)) (fun ac59 F59 => ?_)
        clear F52 ac52
        refine sv (v := .int .i64 (l2.length : Int)) F59 (g_on F59 rfl rfl rfl (lk rfl hT3)) rfl rfl (r_len rfl rfl Tryd.underlying39 (F59.ev rfl)) (fun ac60 F60 => ?_)
        clear F59 ac59
        refine sv (v := .bool (decide (20 < (l2.length : Int)))) F60 (g_on F60 rfl rfl rfl (lk rfl hT3)) rfl rfl (r_gtr rfl (F60.ev rfl) ev_c) (fun ac61 F61 => ?_)
        clear F60 ac60
        refine sv (v := .bool (decide (20 < (l2.length : Int)))) F61 (run_guard rfl) rfl rfl (r_pick_f rfl (F61.ev (lk rfl hT3)) (F61.ev rfl)) (fun ac62 F62 => ?_)
        clear F61 ac61
        refine c_end F62 ?_
        refine hK5 _ _ ?_
        cases hT4 : decide (20 < (l2.length : Int)) with
        | true =>
          replace h := cond_t hT4 h
          refine wp_cond_true (F62.ev (lk rfl hT4)) ?_
          refine wp_seq_k (fun K9 hK9 => ?_)
          clear R1
          refine wp_region_lit ?_
          refine sv (v := .bool y1) F62 (run_guard rfl) rfl rfl (r_move rfl (F62.ev rfl)) (fun ac63 F63 => ?_)
          clear F62 ac62
          refine sv (v := .bool y1) F63 (run_guard rfl) rfl rfl (r_assign rfl (F63.ev rfl)) (fun ac64 F64 => ?_)
          clear F63 ac63
          refine c_end F64 ?_
          refine hK9 _ _ ?_
          refine wp_ret ?_
          (try simp only [Exit.then, Exit.inBlock])
          refine retx (fn := Tryd.f13) F64 (results1 (fn := Tryd.f13) rfl (rv_t (t := 6) (v := .bool y1) F64 rfl)) ?_
          cases h
          exact ⟨rfl, HB.out⟩
        | false =>
          replace h := cond_f hT4 h
          refine wp_cond_false (F62.ev (lk rfl hT4)) ?_
          refine wp_skip ?_
          refine hK4 _ _ ?_
          refine wp_seq_k (fun K10 hK10 => ?_)
          refine wp_region_lit ?_
          refine sv (v := .slice Aq1 y2.length cq1) F62 (run_guard rfl) rfl rfl (r_move rfl (F62.ev rfl)) (fun ac65 F65 => ?_)
          clear F62 ac62
          refine sv (v := .int .i64 a1) F65 (run_guard rfl) rfl rfl (r_move rfl (F65.ev rfl)) (fun ac66 F66 => ?_)
          clear F65 ac65
          cases hT5 : decide (0 ≤ a1) with
          | true =>
            replace h := cond_t hT5 h
            cases hT6 : decide (a1 ≤ (y2.length : Int)) with
            | true =>
              replace h := cond_t hT6 h
              refine sv (v := .slice Aq1 ((y2.take (a1 : Int).toNat).length) cq1) F66 (run_guard rfl) rfl rfl (r_cut_to (xs := y2) rfl (F66.ev rfl) (F66.ev rfl) Tryd.underlying39 feluccalaw04_DirectShort.sz9 (of_decide_eq_true hT5) (of_decide_eq_true hT6) (Kd.R_reads' R1.out).2.1) (fun ac67 F67 => ?_)
              clear F66 ac66
              replace h := Option.bind_eq_some_iff.1 h
              obtain ⟨⟨y4, y5, y6, y7, y8, y9, y10, y11, y12, y13, y14, y15, y16, y17⟩, hy, h⟩ := h
              refine sc F67 (run_guard rfl) rfl rfl (r_call rfl Tryd.func28 (by kernel_rfl) rfl rfl (m1 (F67.ev rfl))) ?_
              refine (direct_Parse.calls k Aq1 cq1 (y2.take (a1 : Int).toNat) _ _ _ _ _ _ _ _ _ _ _ _ _ _ _ (Kd.C_take (Kd.R_reads' R1.out).2.2 (toN_le (of_decide_eq_true hT6))) (le_take (Kd.R_reads' R1.out).2.1 _) hy).mono ?_
              rintro e w4 ⟨rfl, hE⟩
              clear hy
              replace R1 := Aside0.mk (Kd.R_below R1.out hE)
              replace HB := Aside0.mk (below_step HB.out hE)
              refine ⟨_, rfl, fun ac68 F68 => ?_⟩
              clear hE F67 ac67
              refine sv (v := .tuple #[.agg #[.int .i64 y4, .int .i64 y5, .int .i64 y6, .int .i64 y7, .int .i64 y8, .int .i64 y9, .int .i64 y10, .int .i64 y11, .int .i64 y12, .int .i64 y13, .int .i64 y14, .int .i64 y15, .int .i64 y16], .int .i64 y17]) F68 (run_guard rfl) rfl rfl (r_move rfl (F68.ev rfl)) (fun ac69 F69 => ?_)
              clear F68 ac68
              refine sv (v := .agg #[.int .i64 y4, .int .i64 y5, .int .i64 y6, .int .i64 y7, .int .i64 y8, .int .i64 y9, .int .i64 y10, .int .i64 y11, .int .i64 y12, .int .i64 y13, .int .i64 y14, .int .i64 y15, .int .i64 y16]) F69 (run_guard rfl) rfl rfl (r_extract rfl (F69.ev rfl) rfl) (fun ac70 F70 => ?_)
              clear F69 ac69
              refine sv (v := .int .i64 y17) F70 (run_guard rfl) rfl rfl (r_extract rfl (F70.ev rfl) rfl) (fun ac71 F71 => ?_)
              clear F70 ac70
              refine s_new (cs := #[.int .i64 0, .int .i64 0, .int .i64 0, .int .i64 0, .int .i64 0, .int .i64 0, .int .i64 0, .int .i64 0, .int .i64 0, .int .i64 0, .int .i64 0, .int .i64 0, .int .i64 0]) F71 (run_guard rfl) rfl rfl (r_alloc rfl (feluccalaw04_DirectShort.zv38 _) rfl) (fun ac72 w5 b2 hb hge hlt hE F72 => ?_)
              clear F71 ac71
              have GEX2 := Aside0.mk (Nat.le_trans HB.out.size hge)
              replace R1 := Aside0.mk (Kd.R_below R1.out hE)
              replace HB := Aside0.mk (below_step HB.out hE)
              have X2 := Aside0.mk hb
              clear hb hge hlt hE
              obtain ⟨w6, hs, hS⟩ := s_part (P := Tryd.prog) (t := 38) (l' := [.int .i64 y4, .int .i64 y5, .int .i64 y6, .int .i64 y7, .int .i64 y8, .int .i64 y9, .int .i64 y10, .int .i64 y11, .int .i64 y12, .int .i64 y13, .int .i64 y14, .int .i64 y15, .int .i64 y16]) X2.out 0 #[.int .i64 y4, .int .i64 y5, .int .i64 y6, .int .i64 y7, .int .i64 y8, .int .i64 y9, .int .i64 y10, .int .i64 y11, .int .i64 y12, .int .i64 y13, .int .i64 y14, .int .i64 y15, .int .i64 y16] rfl rfl feluccalaw04_DirectShort.sz38 rfl
              refine ss F72 (run_guard rfl) rfl (r_store rfl (F72.ev rfl) (F72.ev rfl) hs) ?_
              clear hs
              replace R1 := Aside0.mk (R_set1 R1.out X2.out (by decide) hS)
              replace HB := Aside0.mk (HB.out.trans (hS.below _ GEX2.out))
              replace X2 := Aside0.mk hS.here
              clear hS
              refine sv (v := .int .i64 y17) F72 (run_guard rfl) rfl rfl (r_assign rfl (F72.ev rfl)) (fun ac73 F73 => ?_)
              clear F72 ac72
              refine c_end F73 ?_
              refine hK10 _ _ ?_
              refine wp_seq_k (fun K11 hK11 => ?_)
              clear X2
              refine wp_region_lit ?_
              refine sv (v := .slice (some ⟨w6.heap.size, 0, none⟩) 0 0) F73 (run_guard rfl) rfl rfl (r_buildSlice rfl p0 (feluccalaw04_DirectShort.bsl39_0 _)) (fun ac74 F74 => ?_)
              clear F73 ac73
              have hR := R_litM (w := w6) (d := Kd.string) (n := 0) ([] : List ByteArray) [] 9 rfl (by decide) (fun _ _ => reps_nil)
              have hAR1 := apart_new R1.out hR
              replace hR := Kd.R_lower hR HB.out.size
              have hE := (Below.refl w6.heap.size w6).alloc (Nat.le_refl _) (.cells #[] 9)
              generalize w6.alloc (.cells #[] 9) = w7 at hR hE ⊢
              replace R1 := Aside0.mk (Kd.R_below R1.out hE)
              replace HB := Aside0.mk (below_step HB.out hE)
              generalize w6.heap.size = b3 at hR F74 hAR1
              have R2 := Aside0.mk hR
              clear hR hE
              have NE1 := Aside0.mk hAR1
              clear hAR1
              refine sv (v := .slice Aq1 y2.length cq1) F74 (run_guard rfl) rfl rfl (r_move rfl (F74.ev rfl)) (fun ac75 F75 => ?_)
              clear F74 ac74
              cases hT7 : decide (([] : List ByteArray).length + y2.length < 8796093022208) with
              | true =>
                replace h := cond_t hT7 h
                refine s_appendr Kd.string (w0 := w) (W := w7) F75 (run_guard rfl) rfl rfl _ _ 39 9 (.string (⟨#[]⟩ : ByteArray)) 16 rfl Tryd.underlying39 feluccalaw04_DirectShort.info9 rfl (by decide) (by decide) ([] : List ByteArray) y2 (F75.ev rfl) (F75.ev rfl) R2.out (Kd.R_reads' R1.out).2.2 KM_scalar HB.out (lim2_of (of_decide_eq_true hT7) (by decide)) ?_
                intro ac76 v2 w8 hR hB2 hG hO F76
                clear F75 ac75
                have hAR1 := apart_app NE1.out R1.out hO
                replace R1 := Aside0.mk (R_grownA R1.out rfl NE1.out hG)
                clear R2
                replace HB := Aside0.mk hB2
                obtain ⟨Aq2, cq2, rfl⟩ := Kd.R_slice hR
                have R3 := Aside0.mk hR
                clear hR hB2 hG hO
                have NE2 := Aside0.mk hAR1
                clear hAR1
                clear NE1
                refine sv (v := .slice A2 l2.length c2) F76 (run_guard rfl) rfl rfl (r_move rfl (F76.ev rfl)) (fun ac77 F77 => ?_)
                clear F76 ac76
                cases hT8 : decide ((([] : List ByteArray) ++ y2).length + l2.length < 8796093022208) with
                | true =>
                  replace h := cond_t hT8 h
                  refine s_appendr Kd.string (w0 := w) (W := w8) F77 (run_guard rfl) rfl rfl _ _ 39 9 (.string (⟨#[]⟩ : ByteArray)) 16 rfl Tryd.underlying39 feluccalaw04_DirectShort.info9 rfl (by decide) (by decide) (([] : List ByteArray) ++ y2) l2 (F77.ev rfl) (F77.ev rfl) R3.out (Kd.C_below HR2.out HB.out) KM_scalar HB.out (lim2_of (of_decide_eq_true hT8) (by decide)) ?_
                  intro ac78 v3 w9 hR hB2 hG hO F78
                  clear F77 ac77
                  have hAR1 := apart_app NE2.out R1.out hO
                  replace R1 := Aside0.mk (R_grownA R1.out rfl NE2.out hG)
                  clear R3
                  replace HB := Aside0.mk hB2
                  obtain ⟨Aq3, cq3, rfl⟩ := Kd.R_slice hR
                  have R4 := Aside0.mk hR
                  clear hR hB2 hG hO
                  have NE3 := Aside0.mk hAR1
                  clear hAR1
                  clear NE2
                  replace h := Option.bind_eq_some_iff.1 h
                  obtain ⟨⟨y18, y19, y20, y21, y22, y23, y24, y25, y26, y27, y28, y29, y30, y31⟩, hy, h⟩ := h
                  refine sc F78 (run_guard rfl) rfl rfl (r_call rfl Tryd.func28 (by kernel_rfl) rfl rfl (m1 (F78.ev rfl))) ?_
                  refine (direct_Parse.calls k Aq3 cq3 ((([] : List ByteArray) ++ y2) ++ l2) _ _ _ _ _ _ _ _ _ _ _ _ _ _ _ (Kd.R_reads' R4.out).2.2 (Kd.R_reads' R4.out).2.1 hy).mono ?_
                  rintro e w10 ⟨rfl, hE⟩
                  clear hy
                  replace R1 := Aside0.mk (Kd.R_below R1.out hE)
                  replace R4 := Aside0.mk (Kd.R_below R4.out hE)
                  replace HB := Aside0.mk (below_step HB.out hE)
                  refine ⟨_, rfl, fun ac79 F79 => ?_⟩
                  clear hE F78 ac78
                  refine sv (v := .tuple #[.agg #[.int .i64 y18, .int .i64 y19, .int .i64 y20, .int .i64 y21, .int .i64 y22, .int .i64 y23, .int .i64 y24, .int .i64 y25, .int .i64 y26, .int .i64 y27, .int .i64 y28, .int .i64 y29, .int .i64 y30], .int .i64 y31]) F79 (run_guard rfl) rfl rfl (r_move rfl (F79.ev rfl)) (fun ac80 F80 => ?_)
                  clear F79 ac79
                  refine sv (v := .agg #[.int .i64 y18, .int .i64 y19, .int .i64 y20, .int .i64 y21, .int .i64 y22, .int .i64 y23, .int .i64 y24, .int .i64 y25, .int .i64 y26, .int .i64 y27, .int .i64 y28, .int .i64 y29, .int .i64 y30]) F80 (run_guard rfl) rfl rfl (r_extract rfl (F80.ev rfl) rfl) (fun ac81 F81 => ?_)
                  clear F80 ac80
                  refine sv (v := .int .i64 y31) F81 (run_guard rfl) rfl rfl (r_extract rfl (F81.ev rfl) rfl) (fun ac82 F82 => ?_)
                  clear F81 ac81
                  refine s_new (cs := #[.int .i64 0, .int .i64 0, .int .i64 0, .int .i64 0, .int .i64 0, .int .i64 0, .int .i64 0, .int .i64 0, .int .i64 0, .int .i64 0, .int .i64 0, .int .i64 0, .int .i64 0]) F82 (run_guard rfl) rfl rfl (r_alloc rfl (feluccalaw04_DirectShort.zv38 _) rfl) (fun ac83 w11 b4 hb hge hlt hE F83 => ?_)
                  clear F82 ac82
                  have GEX3 := Aside0.mk (Nat.le_trans HB.out.size hge)
                  replace R1 := Aside0.mk (Kd.R_below R1.out hE)
                  replace R4 := Aside0.mk (Kd.R_below R4.out hE)
                  replace HB := Aside0.mk (below_step HB.out hE)
                  have X3 := Aside0.mk hb
                  clear hb hge hlt hE
                  obtain ⟨w12, hs, hS⟩ := s_part (P := Tryd.prog) (t := 38) (l' := [.int .i64 y18, .int .i64 y19, .int .i64 y20, .int .i64 y21, .int .i64 y22, .int .i64 y23, .int .i64 y24, .int .i64 y25, .int .i64 y26, .int .i64 y27, .int .i64 y28, .int .i64 y29, .int .i64 y30]) X3.out 0 #[.int .i64 y18, .int .i64 y19, .int .i64 y20, .int .i64 y21, .int .i64 y22, .int .i64 y23, .int .i64 y24, .int .i64 y25, .int .i64 y26, .int .i64 y27, .int .i64 y28, .int .i64 y29, .int .i64 y30] rfl rfl feluccalaw04_DirectShort.sz38 rfl
                  refine ss F83 (run_guard rfl) rfl (r_store rfl (F83.ev rfl) (F83.ev rfl) hs) ?_
                  clear hs
                  replace R1 := Aside0.mk (R_set1 R1.out X3.out (by decide) hS)
                  replace R4 := Aside0.mk (R_set1 R4.out X3.out (by decide) hS)
                  replace HB := Aside0.mk (HB.out.trans (hS.below _ GEX3.out))
                  replace X3 := Aside0.mk hS.here
                  clear hS
                  refine sv (v := .int .i64 y31) F83 (run_guard rfl) rfl rfl (r_assign rfl (F83.ev rfl)) (fun ac84 F84 => ?_)
                  clear F83 ac83
                  refine c_end F84 ?_
                  refine hK11 _ _ ?_
                  refine wp_seq_k (fun K12 hK12 => ?_)
                  clear R1 R4 X3 NE3
                  refine wp_region_lit ?_
                  refine sv (v := .bool y1) F84 (run_guard rfl) rfl rfl (r_move rfl (F84.ev rfl)) (fun ac85 F85 => ?_)
                  clear F84 ac84
                  refine sv (v := .bool y1) F85 (run_guard rfl) rfl rfl (r_move rfl (F85.ev rfl)) (fun ac86 F86 => ?_)
                  clear F85 ac85
                  cases hT9 : y1 with
                  | true =>
                    replace h := cond_t hT9 h
                    refine sv (v := .int .i64 y17) F86 (g_on F86 rfl rfl rfl (lk rfl hT9)) rfl rfl (r_move rfl (F86.ev rfl)) (fun ac87 F87 => ?_)
                    clear F86 ac86
                    refine sv (v := .bool (decide (y17 = 2))) F87 (g_on F87 rfl rfl rfl (lk rfl hT9)) rfl rfl (r_eql rfl (F87.ev rfl) ev_c) (fun ac88 F88 => ?_)
                    clear F87 ac87
                    refine sv (v := .bool (decide (y17 = 2))) F88 (run_guard rfl) rfl rfl (r_pick_t rfl (F88.ev (lk rfl hT9)) (F88.ev rfl)) (fun ac89 F89 => ?_)
                    clear F88 ac88
                    refine sv (v := .bool (decide (y17 = 2))) F89 (run_guard rfl) rfl rfl (r_move rfl (F89.ev rfl)) (fun ac90 F90 => ?_)
                    clear F89 ac89
                    cases hT10 : decide (y17 = 2) with
                    | true =>
                      replace h := cond_t hT10 h
                      refine sv (v := .slice A2 l2.length c2) F90 (g_on F90 rfl rfl rfl (lk rfl hT10)) rfl rfl (r_move rfl (F90.ev rfl)) (fun ac91 F91 => ?_)
                      clear F90 ac90
                      refine sv (v := .int .i64 (l2.length : Int)) F91 (g_on F91 rfl rfl rfl (lk rfl hT10)) rfl rfl (r_len rfl rfl Tryd.underlying39 (F91.ev rfl)) (fun ac92 F92 => ?_)
                      clear F91 ac91
                      refine sv (v := .bool (decide ((l2.length : Int) = 0))) F92 (g_on F92 rfl rfl rfl (lk rfl hT10)) rfl rfl (r_eql rfl (F92.ev rfl) ev_c) (fun ac93 F93 => ?_)
                      clear F92 ac92
                      refine sv (v := .int .i64 y31) F93 (g_on F93 rfl rfl rfl (lk rfl hT10)) rfl rfl (r_move rfl (F93.ev rfl)) (fun ac94 F94 => ?_)
                      clear F93 ac93
                      refine sv (v := .bool (decide (y31 = 0))) F94 (g_on F94 rfl rfl rfl (lk rfl hT10)) rfl rfl (r_eql rfl (F94.ev rfl) ev_c) (fun ac95 F95 => ?_)
                      clear F94 ac94
                      refine sv (v := .bool ((decide ((l2.length : Int) = 0)) == (decide (y31 = 0)))) F95 (g_on F95 rfl rfl rfl (lk rfl hT10)) rfl rfl (r_beq rfl Tryd.underlying4 (F95.ev rfl) (F95.ev rfl)) (fun ac96 F96 => ?_)
                      clear F95 ac95
                      refine sv (v := .bool ((decide ((l2.length : Int) = 0)) == (decide (y31 = 0)))) F96 (run_guard rfl) rfl rfl (r_pick_t rfl (F96.ev (lk rfl hT10)) (F96.ev rfl)) (fun ac97 F97 => ?_)
                      clear F96 ac96
                      refine sv (v := .bool ((decide ((l2.length : Int) = 0)) == (decide (y31 = 0)))) F97 (run_guard rfl) rfl rfl (r_move rfl (F97.ev rfl)) (fun ac98 F98 => ?_)
                      clear F97 ac97
                      cases hT11 : ((decide ((l2.length : Int) = 0)) == (decide (y31 = 0))) with
                      | true =>
                        replace h := cond_t hT11 h
                        refine sv (v := .slice A2 l2.length c2) F98 (g_on F98 rfl rfl rfl (lk rfl hT11)) rfl rfl (r_move rfl (F98.ev rfl)) (fun ac99 F99 => ?_)
                        clear F98 ac98
                        refine sv (v := .int .i64 (l2.length : Int)) F99 (g_on F99 rfl rfl rfl (lk rfl hT11)) rfl rfl (r_len rfl rfl Tryd.underlying39 (F99.ev rfl)) (fun ac100 F100 => ?_)
                        clear F99 ac99
                        refine sv (v := .bool (decide ((l2.length : Int) = 0))) F100 (g_on F100 rfl rfl rfl (lk rfl hT11)) rfl rfl (r_eql rfl (F100.ev rfl) ev_c) (fun ac101 F101 => ?_)
                        clear F100 ac100
                        refine sv (v := .bool (decide ((l2.length : Int) = 0))) F101 (g_on F101 rfl rfl rfl (lk rfl hT11)) rfl rfl (r_move rfl (F101.ev rfl)) (fun ac102 F102 => ?_)
                        clear F101 ac101
                        cases hT12 : decide ((l2.length : Int) = 0) with
                        | true =>
                          replace h := cond_t hT12 h
                          refine so F102 (g_off F102 rfl rfl rfl (lk rfl hT12)) rfl rfl (fun ac103 F103 => ?_)
                          clear F102 ac102
                          refine so F103 (g_off F103 rfl rfl rfl (lk rfl hT12)) rfl rfl (fun ac104 F104 => ?_)
                          clear F103 ac103
                          refine sv (v := .bool true) F104 (g_on F104 rfl rfl rfl (lk rfl hT11)) rfl rfl (r_pick_t rfl (F104.ev (lk rfl hT12)) ev_c) (fun ac105 F105 => ?_)
                          clear F104 ac104
                          refine sv (v := .bool true) F105 (run_guard rfl) rfl rfl (r_pick_t rfl (F105.ev (lk rfl hT11)) (F105.ev rfl)) (fun ac106 F106 => ?_)
                          clear F105 ac105
                          refine sv (v := .bool true) F106 (run_guard rfl) rfl rfl (r_assign rfl (F106.ev rfl)) (fun ac107 F107 => ?_)
                          clear F106 ac106
                          refine c_end F107 ?_
                          refine hK12 _ _ ?_
                          refine wp_ret ?_
                          (try simp only [Exit.then, Exit.inBlock])
                          refine retx (fn := Tryd.f13) F107 (results1 (fn := Tryd.f13) rfl (rv_t (t := 6) (v := .bool true) F107 rfl)) ?_
                          cases h
                          exact ⟨rfl, HB.out⟩
                        | false =>
                          replace h := cond_f hT12 h
                          refine sv (v := .int .i64 y31) F102 (g_on F102 rfl rfl rfl (lk rfl hT12)) rfl rfl (r_move rfl (F102.ev rfl)) (fun ac108 F108 => ?_)
                          clear F102 ac102
                          refine sv (v := .bool (decide (y31 = 2))) F108 (g_on F108 rfl rfl rfl (lk rfl hT12)) rfl rfl (r_eql rfl (F108.ev rfl) ev_c) (fun ac109 F109 => ?_)
                          clear F108 ac108
                          refine sv (v := .bool (decide (y31 = 2))) F109 (g_on F109 rfl rfl rfl (lk rfl hT11)) rfl rfl (r_pick_f rfl (F109.ev (lk rfl hT12)) (F109.ev rfl)) (fun ac110 F110 => ?_)
                          clear F109 ac109
                          refine sv (v := .bool (decide (y31 = 2))) F110 (run_guard rfl) rfl rfl (r_pick_t rfl (F110.ev (lk rfl hT11)) (F110.ev rfl)) (fun ac111 F111 => ?_)
                          clear F110 ac110
                          refine sv (v := .bool (decide (y31 = 2))) F111 (run_guard rfl) rfl rfl (r_assign rfl (F111.ev rfl)) (fun ac112 F112 => ?_)
                          clear F111 ac111
                          refine c_end F112 ?_
                          refine hK12 _ _ ?_
                          refine wp_ret ?_
                          (try simp only [Exit.then, Exit.inBlock])
                          refine retx (fn := Tryd.f13) F112 (results1 (fn := Tryd.f13) rfl (rv_t (t := 6) (v := .bool (decide (y31 = 2))) F112 rfl)) ?_
                          cases h
                          exact ⟨rfl, HB.out⟩
                      | false =>
                        replace h := cond_f hT11 h
                        refine so F98 (g_off F98 rfl rfl rfl (lk rfl hT11)) rfl rfl (fun ac113 F113 => ?_)
                        clear F98 ac98
                        refine so F113 (g_off F113 rfl rfl rfl (lk rfl hT11)) rfl rfl (fun ac114 F114 => ?_)
                        clear F113 ac113
                        refine so F114 (g_off F114 rfl rfl rfl (lk rfl hT11)) rfl rfl (fun ac115 F115 => ?_)
                        clear F114 ac114
                        refine so F115 (g_off F115 rfl rfl rfl (lk rfl hT11)) rfl rfl (fun ac116 F116 => ?_)
                        clear F115 ac115
                        refine so F116 (g_none F116 rfl rfl rfl rfl) rfl rfl (fun ac117 F117 => ?_)
                        clear F116 ac116
                        refine so F117 (g_none F117 rfl rfl rfl rfl) rfl rfl (fun ac118 F118 => ?_)
                        clear F117 ac117
                        refine so F118 (g_off F118 rfl rfl rfl (lk rfl hT11)) rfl rfl (fun ac119 F119 => ?_)
                        clear F118 ac118
                        refine sv (v := .bool false) F119 (run_guard rfl) rfl rfl (r_pick_f rfl (F119.ev (lk rfl hT11)) ev_c) (fun ac120 F120 => ?_)
                        clear F119 ac119
                        refine sv (v := .bool false) F120 (run_guard rfl) rfl rfl (r_assign rfl (F120.ev rfl)) (fun ac121 F121 => ?_)
                        clear F120 ac120
                        refine c_end F121 ?_
                        refine hK12 _ _ ?_
                        refine wp_ret ?_
                        (try simp only [Exit.then, Exit.inBlock])
                        refine retx (fn := Tryd.f13) F121 (results1 (fn := Tryd.f13) rfl (rv_t (t := 6) (v := .bool false) F121 rfl)) ?_
                        cases h
                        exact ⟨rfl, HB.out⟩
                    | false =>
                      replace h := cond_f hT10 h
                      refine so F90 (g_off F90 rfl rfl rfl (lk rfl hT10)) rfl rfl (fun ac122 F122 => ?_)
                      clear F90 ac90
                      refine so F122 (g_off F122 rfl rfl rfl (lk rfl hT10)) rfl rfl (fun ac123 F123 => ?_)
                      clear F122 ac122
                      refine so F123 (g_off F123 rfl rfl rfl (lk rfl hT10)) rfl rfl (fun ac124 F124 => ?_)
                      clear F123 ac123
                      refine so F124 (g_off F124 rfl rfl rfl (lk rfl hT10)) rfl rfl (fun ac125 F125 => ?_)
                      clear F124 ac124
                      refine so F125 (g_off F125 rfl rfl rfl (lk rfl hT10)) rfl rfl (fun ac126 F126 => ?_)
                      clear F125 ac125
                      refine so F126 (g_off F126 rfl rfl rfl (lk rfl hT10)) rfl rfl (fun ac127 F127 => ?_)
                      clear F126 ac126
                      refine sv (v := .bool false) F127 (run_guard rfl) rfl rfl (r_pick_f rfl (F127.ev (lk rfl hT10)) ev_c) (fun ac128 F128 => ?_)
                      clear F127 ac127
                      refine sv (v := .bool false) F128 (run_guard rfl) rfl rfl (r_move rfl (F128.ev rfl)) (fun ac129 F129 => ?_)
                      clear F128 ac128
                      refine so F129 (g_off F129 rfl rfl rfl rfl) rfl rfl (fun ac130 F130 => ?_)
                      clear F129 ac129
                      refine so F130 (g_off F130 rfl rfl rfl rfl) rfl rfl (fun ac131 F131 => ?_)
                      clear F130 ac130
                      refine so F131 (g_off F131 rfl rfl rfl rfl) rfl rfl (fun ac132 F132 => ?_)
                      clear F131 ac131
                      refine so F132 (g_off F132 rfl rfl rfl rfl) rfl rfl (fun ac133 F133 => ?_)
                      clear F132 ac132
                      refine so F133 (g_none F133 rfl rfl rfl rfl) rfl rfl (fun ac134 F134 => ?_)
                      clear F133 ac133
                      refine so F134 (g_none F134 rfl rfl rfl rfl) rfl rfl (fun ac135 F135 => ?_)
                      clear F134 ac134
                      refine so F135 (g_off F135 rfl rfl rfl rfl) rfl rfl (fun ac136 F136 => ?_)
                      clear F135 ac135
                      refine sv (v := .bool false) F136 (run_guard rfl) rfl rfl (r_pick_f rfl (F136.ev rfl) ev_c) (fun ac137 F137 => ?_)
                      clear F136 ac136
                      refine sv (v := .bool false) F137 (run_guard rfl) rfl rfl (r_assign rfl (F137.ev rfl)) (fun ac138 F138 => ?_)
                      clear F137 ac137
                      refine c_end F138 ?_
                      refine hK12 _ _ ?_
                      refine wp_ret ?_
                      (try simp only [Exit.then, Exit.inBlock])
                      refine retx (fn := Tryd.f13) F138 (results1 (fn := Tryd.f13) rfl (rv_t (t := 6) (v := .bool false) F138 rfl)) ?_
                      cases h
                      exact ⟨rfl, HB.out⟩
                  | false =>
                    replace h := cond_f hT9 h
                    refine so F86 (g_off F86 rfl rfl rfl (lk rfl hT9)) rfl rfl (fun ac139 F139 => ?_)
                    clear F86 ac86
                    refine so F139 (g_off F139 rfl rfl rfl (lk rfl hT9)) rfl rfl (fun ac140 F140 => ?_)
                    clear F139 ac139
                    refine sv (v := .bool false) F140 (run_guard rfl) rfl rfl (r_pick_f rfl (F140.ev (lk rfl hT9)) ev_c) (fun ac141 F141 => ?_)
                    clear F140 ac140
                    refine sv (v := .bool false) F141 (run_guard rfl) rfl rfl (r_move rfl (F141.ev rfl)) (fun ac142 F142 => ?_)
                    clear F141 ac141
                    refine so F142 (g_off F142 rfl rfl rfl rfl) rfl rfl (fun ac143 F143 => ?_)
                    clear F142 ac142
                    refine so F143 (g_off F143 rfl rfl rfl rfl) rfl rfl (fun ac144 F144 => ?_)
                    clear F143 ac143
                    refine so F144 (g_off F144 rfl rfl rfl rfl) rfl rfl (fun ac145 F145 => ?_)
                    clear F144 ac144
                    refine so F145 (g_off F145 rfl rfl rfl rfl) rfl rfl (fun ac146 F146 => ?_)
                    clear F145 ac145
                    refine so F146 (g_off F146 rfl rfl rfl rfl) rfl rfl (fun ac147 F147 => ?_)
                    clear F146 ac146
                    refine so F147 (g_off F147 rfl rfl rfl rfl) rfl rfl (fun ac148 F148 => ?_)
                    clear F147 ac147
                    refine sv (v := .bool false) F148 (run_guard rfl) rfl rfl (r_pick_f rfl (F148.ev rfl) ev_c) (fun ac149 F149 => ?_)
                    clear F148 ac148
                    refine sv (v := .bool false) F149 (run_guard rfl) rfl rfl (r_move rfl (F149.ev rfl)) (fun ac150 F150 => ?_)
                    clear F149 ac149
                    refine so F150 (g_off F150 rfl rfl rfl rfl) rfl rfl (fun ac151 F151 => ?_)
                    clear F150 ac150
                    refine so F151 (g_off F151 rfl rfl rfl rfl) rfl rfl (fun ac152 F152 => ?_)
                    clear F151 ac151
                    refine so F152 (g_off F152 rfl rfl rfl rfl) rfl rfl (fun ac153 F153 => ?_)
                    clear F152 ac152
                    refine so F153 (g_off F153 rfl rfl rfl rfl) rfl rfl (fun ac154 F154 => ?_)
                    clear F153 ac153
                    refine so F154 (g_none F154 rfl rfl rfl rfl) rfl rfl (fun ac155 F155 => ?_)
                    clear F154 ac154
                    refine so F155 (g_none F155 rfl rfl rfl rfl) rfl rfl (fun ac156 F156 => ?_)
                    clear F155 ac155
                    refine so F156 (g_off F156 rfl rfl rfl rfl) rfl rfl (fun ac157 F157 => ?_)
                    clear F156 ac156
                    refine sv (v := .bool false) F157 (run_guard rfl) rfl rfl (r_pick_f rfl (F157.ev rfl) ev_c) (fun ac158 F158 => ?_)
                    clear F157 ac157
                    refine sv (v := .bool false) F158 (run_guard rfl) rfl rfl (r_assign rfl (F158.ev rfl)) (fun ac159 F159 => ?_)
                    clear F158 ac158
                    refine c_end F159 ?_
                    refine hK12 _ _ ?_
                    refine wp_ret ?_
                    (try simp only [Exit.then, Exit.inBlock])
                    refine retx (fn := Tryd.f13) F159 (results1 (fn := Tryd.f13) rfl (rv_t (t := 6) (v := .bool false) F159 rfl)) ?_
                    cases h
                    exact ⟨rfl, HB.out⟩
                | false =>
                  replace h := cond_f hT8 h
                  cases h
              | false =>
                replace h := cond_f hT7 h
                cases h
            | false =>
              replace h := cond_f hT6 h
              cases h
          | false =>
            replace h := cond_f hT5 h
            cases h
end Go.Proofs.YtndijkndllpkgaaDoor.Pr
