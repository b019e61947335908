/- The walk of feluccalaw04.DirectApart by explicit steps (wip/xw.py). -/
import Derived.Test.YtndijkndllpkgaaDoorWalkAC
namespace Go.Proofs.YtndijkndllpkgaaDoor.Pr
open Go.RowKit Go.Proofs.YtndijkndllpkgaaDoorW.PrintWords Go.Proofs.YtndijkndllpkgaaDoorW.PrintLast Go.Proofs.YtndijkndllpkgaaDoorW.PrintMore Go.Proofs.YtndijkndllpkgaaDoor.X
set_option linter.unusedVariables false
set_option linter.unusedSimpArgs false
theorem feluccalaw04_DirectApart.sz38 : (Tryd.prog.info? 38).map (·.size) = some 13 := by
  kernel_rfl
def feluccalaw04_DirectApart.T4 : Bool × List (List Nat × List Nat) := (true, [([], []), ([0], [0]), ([1], [1]), ([2, 1], [1, 2]), ([3, 1, 1], [1, 3]), ([4], [4]), ([5, 4], [4, 5]), ([4, 6, 1], [1, 4, 6]), ([7, 4, 1], [1, 7]), ([8], [8]), ([8], [8]), ([9, 10, 8, 8], [8, 9, 10]), ([8], [8]), ([8], [8]), ([12, 13, 8], [8, 12, 13]), ([11, 14, 8], [8, 11, 14]), ([8, 15, 1], [1, 8, 15]), ([1, 16], [1, 16]), ([17, 11, 0, 1, 2, 3, 4, 5, 6, 7, 8, 9, 10, 11, 12, 13, 14, 15, 16, 17], [17])])
def feluccalaw04_DirectApart.B4 : List Nat := [0, 1, 3, 7, 15, 31, 63, 127, 255, 511, 511, 2047, 511, 511, 12799, 32767, 65535, 131071, 262143]
theorem feluccalaw04_DirectApart.tab4 : rtab .any (opsOf Tryd.f11 4) = feluccalaw04_DirectApart.T4 := by kernel_rfl
theorem feluccalaw04_DirectApart.bits4 : waitsOk feluccalaw04_DirectApart.T4.2 feluccalaw04_DirectApart.B4 = true := by kernel_rfl
theorem feluccalaw04_DirectApart.eqA34 (d : Nat) (w : World) (x0 y0 : Int) (x1 y1 : Int) (x2 y2 : Int) (x3 y3 : Int) (x4 y4 : Int) (x5 y5 : Int) : (Op.equalIn (d + 2) 34 (.agg #[.int .i64 x0, .int .i64 x1, .int .i64 x2, .int .i64 x3, .int .i64 x4, .int .i64 x5]) (.agg #[.int .i64 y0, .int .i64 y1, .int .i64 y2, .int .i64 y3, .int .i64 y4, .int .i64 y5])).run Tryd.prog w = .ok (x0 == y0 && (x1 == y1 && (x2 == y2 && (x3 == y3 && (x4 == y4 && (x5 == y5)))))) w := by
  refine eqA_of Tryd.underlying34 (by kernel_rfl) ?_
  refine eqf_cons (by rfl) (by go_simp; rfl) (by go_simp; rfl) (by go_simp) ?_
  refine eqf_cons (by rfl) (by go_simp; rfl) (by go_simp; rfl) (by go_simp) ?_
  refine eqf_cons (by rfl) (by go_simp; rfl) (by go_simp; rfl) (by go_simp) ?_
  refine eqf_cons (by rfl) (by go_simp; rfl) (by go_simp; rfl) (by go_simp) ?_
  refine eqf_cons (by rfl) (by go_simp; rfl) (by go_simp; rfl) (by go_simp) ?_
  exact eqf_last (by rfl) (by go_simp; rfl) (by go_simp; rfl) (by go_simp)
theorem feluccalaw04_DirectApart.eqA36 (d : Nat) (w : World) (x0 y0 : Int) (x1 y1 : Int) (x2 y2 : Int) (x3 y3 : Int) (x4 y4 : Int) : (Op.equalIn (d + 2) 36 (.agg #[.int .i64 x0, .int .i64 x1, .int .i64 x2, .int .i64 x3, .int .i64 x4]) (.agg #[.int .i64 y0, .int .i64 y1, .int .i64 y2, .int .i64 y3, .int .i64 y4])).run Tryd.prog w = .ok (x0 == y0 && (x1 == y1 && (x2 == y2 && (x3 == y3 && (x4 == y4))))) w := by
  refine eqA_of Tryd.underlying36 (by kernel_rfl) ?_
  refine eqf_cons (by rfl) (by go_simp; rfl) (by go_simp; rfl) (by go_simp) ?_
  refine eqf_cons (by rfl) (by go_simp; rfl) (by go_simp; rfl) (by go_simp) ?_
  refine eqf_cons (by rfl) (by go_simp; rfl) (by go_simp; rfl) (by go_simp) ?_
  refine eqf_cons (by rfl) (by go_simp; rfl) (by go_simp; rfl) (by go_simp) ?_
  exact eqf_last (by rfl) (by go_simp; rfl) (by go_simp; rfl) (by go_simp)
theorem feluccalaw04_DirectApart.eqA38 (d : Nat) (w : World) (x0 y0 : Int) (x1 y1 : Int) (x2 y2 : Int) (x3 y3 : Int) (x4 y4 : Int) (x5 y5 : Int) (x6 y6 : Int) (x7 y7 : Int) (x8 y8 : Int) (x9 y9 : Int) (x10 y10 : Int) (x11 y11 : Int) (x12 y12 : Int) : (Op.equalIn (d + 3) 38 (.agg #[.int .i64 x0, .int .i64 x1, .int .i64 x2, .int .i64 x3, .int .i64 x4, .int .i64 x5, .int .i64 x6, .int .i64 x7, .int .i64 x8, .int .i64 x9, .int .i64 x10, .int .i64 x11, .int .i64 x12]) (.agg #[.int .i64 y0, .int .i64 y1, .int .i64 y2, .int .i64 y3, .int .i64 y4, .int .i64 y5, .int .i64 y6, .int .i64 y7, .int .i64 y8, .int .i64 y9, .int .i64 y10, .int .i64 y11, .int .i64 y12])).run Tryd.prog w = .ok (x0 == y0 && (x1 == y1 && ((x2 == y2 && (x3 == y3 && (x4 == y4 && (x5 == y5 && (x6 == y6 && (x7 == y7)))))) && ((x8 == y8 && (x9 == y9 && (x10 == y10 && (x11 == y11 && (x12 == y12))))))))) w := by
  refine eqA_of Tryd.underlying38 (by kernel_rfl) ?_
  refine eqf_cons (by rfl) (by go_simp; rfl) (by go_simp; rfl) (by go_simp) ?_
  refine eqf_cons (by rfl) (by go_simp; rfl) (by go_simp; rfl) (by go_simp) ?_
  refine eqf_cons (by rfl) (by go_simp) (by go_simp) (feluccalaw04_DirectApart.eqA34 (d + 0) w _ _ _ _ _ _ _ _ _ _ _ _) ?_
  exact eqf_last (by rfl) (by go_simp) (by go_simp) (feluccalaw04_DirectApart.eqA36 (d + 0) w _ _ _ _ _ _ _ _ _ _)
theorem feluccalaw04_DirectApart.eq38 (x0 y0 : Int) (x1 y1 : Int) (x2 y2 : Int) (x3 y3 : Int) (x4 y4 : Int) (x5 y5 : Int) (x6 y6 : Int) (x7 y7 : Int) (x8 y8 : Int) (x9 y9 : Int) (x10 y10 : Int) (x11 y11 : Int) (x12 y12 : Int) (w : World) : (binOp .eql 38 (.agg #[.int .i64 x0, .int .i64 x1, .int .i64 x2, .int .i64 x3, .int .i64 x4, .int .i64 x5, .int .i64 x6, .int .i64 x7, .int .i64 x8, .int .i64 x9, .int .i64 x10, .int .i64 x11, .int .i64 x12]) (.agg #[.int .i64 y0, .int .i64 y1, .int .i64 y2, .int .i64 y3, .int .i64 y4, .int .i64 y5, .int .i64 y6, .int .i64 y7, .int .i64 y8, .int .i64 y9, .int .i64 y10, .int .i64 y11, .int .i64 y12])).run Tryd.prog w = .ok (.bool (x0 == y0 && (x1 == y1 && ((x2 == y2 && (x3 == y3 && (x4 == y4 && (x5 == y5 && (x6 == y6 && (x7 == y7)))))) && ((x8 == y8 && (x9 == y9 && (x10 == y10 && (x11 == y11 && (x12 == y12)))))))))) w := by
  have h := feluccalaw04_DirectApart.eqA38 9997 w x0 y0 x1 y1 x2 y2 x3 y3 x4 y4 x5 y5 x6 y6 x7 y7 x8 y8 x9 y9 x10 y10 x11 y11 x12 y12
  simp [binOp, Op.equal, Op.maxDepth, Sem.run_bind, h]
theorem feluccalaw04_DirectApart.eg38 : Tryd.prog.eqGuardType Tryd.prog.depth 38 = false := by
  kernel_rfl
def feluccalaw04_DirectApart.f (k : Nat) (a0_0 : Int) (a0_1 : Int) (a0_2 : Int) (a0_3 : Int) (a0_4 : Int) (a0_5 : Int) (a0_6 : Int) (a0_7 : Int) (a0_8 : Int) (a0_9 : Int) (a0_10 : Int) (a0_11 : Int) (a0_12 : Int) (a1_0 : Int) (a1_1 : Int) (a1_2 : Int) (a1_3 : Int) (a1_4 : Int) (a1_5 : Int) (a1_6 : Int) (a1_7 : Int) (a1_8 : Int) (a1_9 : Int) (a1_10 : Int) (a1_11 : Int) (a1_12 : Int) : Option (Bool) := (feluccalaw04_small.f k).bind fun y1 => ((direct_Words.f k a0_0 a0_1 a0_2 a0_3 a0_4 a0_5 a0_6 a0_7 a0_8 a0_9 a0_10 a0_11 a0_12).bind fun ⟨y2, y3⟩ => ((direct_Words.f k a1_0 a1_1 a1_2 a1_3 a1_4 a1_5 a1_6 a1_7 a1_8 a1_9 a1_10 a1_11 a1_12).bind fun ⟨y4, y5⟩ => (bif y1 then (bif (!y3) then (some true) else (bif (!y5) then (some true) else ((feluccaref02_Same.f k y2 y4).bind fun y6 => (some (y6 == (a0_0 == a1_0 && (a0_1 == a1_1 && ((a0_2 == a1_2 && (a0_3 == a1_3 && (a0_4 == a1_4 && (a0_5 == a1_5 && (a0_6 == a1_6 && (a0_7 == a1_7)))))) && ((a0_8 == a1_8 && (a0_9 == a1_9 && (a0_10 == a1_10 && (a0_11 == a1_11 && (a0_12 == a1_12)))))))))))))) else (some false))))
set_option maxHeartbeats 4000000 in
set_option maxRecDepth 100000 in
theorem feluccalaw04_DirectApart.calls (k : Nat) (a0_0 : Int) (a0_1 : Int) (a0_2 : Int) (a0_3 : Int) (a0_4 : Int) (a0_5 : Int) (a0_6 : Int) (a0_7 : Int) (a0_8 : Int) (a0_9 : Int) (a0_10 : Int) (a0_11 : Int) (a0_12 : Int) (a1_0 : Int) (a1_1 : Int) (a1_2 : Int) (a1_3 : Int) (a1_4 : Int) (a1_5 : Int) (a1_6 : Int) (a1_7 : Int) (a1_8 : Int) (a1_9 : Int) (a1_10 : Int) (a1_11 : Int) (a1_12 : Int) (r : Bool) (w : World) (hTabP : TabP w) (h : feluccalaw04_DirectApart.f k a0_0 a0_1 a0_2 a0_3 a0_4 a0_5 a0_6 a0_7 a0_8 a0_9 a0_10 a0_11 a0_12 a1_0 a1_1 a1_2 a1_3 a1_4 a1_5 a1_6 a1_7 a1_8 a1_9 a1_10 a1_11 a1_12 = some r) :
    Calls Tryd.prog 11 #[.agg #[.int .i64 a0_0, .int .i64 a0_1, .int .i64 a0_2, .int .i64 a0_3, .int .i64 a0_4, .int .i64 a0_5, .int .i64 a0_6, .int .i64 a0_7, .int .i64 a0_8, .int .i64 a0_9, .int .i64 a0_10, .int .i64 a0_11, .int .i64 a0_12], .agg #[.int .i64 a1_0, .int .i64 a1_1, .int .i64 a1_2, .int .i64 a1_3, .int .i64 a1_4, .int .i64 a1_5, .int .i64 a1_6, .int .i64 a1_7, .int .i64 a1_8, .int .i64 a1_9, .int .i64 a1_10, .int .i64 a1_11, .int .i64 a1_12]] w fun e w' => e = .returned (.bool r) ∧ Below w.heap.size w w' := by
  unfold feluccalaw04_DirectApart.f at h
  have XTabP := Aside0.mk hTabP
  clear hTabP
  have HB := Aside0.mk (Below.refl w.heap.size w)
  refine calls_x (args := [.agg #[.int .i64 a0_0, .int .i64 a0_1, .int .i64 a0_2, .int .i64 a0_3, .int .i64 a0_4, .int .i64 a0_5, .int .i64 a0_6, .int .i64 a0_7, .int .i64 a0_8, .int .i64 a0_9, .int .i64 a0_10, .int .i64 a0_11, .int .i64 a0_12], .agg #[.int .i64 a1_0, .int .i64 a1_1, .int .i64 a1_2, .int .i64 a1_3, .int .i64 a1_4, .int .i64 a1_5, .int .i64 a1_6, .int .i64 a1_7, .int .i64 a1_8, .int .i64 a1_9, .int .i64 a1_10, .int .i64 a1_11, .int .i64 a1_12]]) Tryd.func11 rfl 39 39 rfl rfl (fun ac0 F0 => ?_)
  refine wp_seq_k (fun K1 hK1 => ?_)
  refine wp_region_lit ?_
  refine s_new (cs := #[.int .i64 a0_0, .int .i64 a0_1, .int .i64 a0_2, .int .i64 a0_3, .int .i64 a0_4, .int .i64 a0_5, .int .i64 a0_6, .int .i64 a0_7, .int .i64 a0_8, .int .i64 a0_9, .int .i64 a0_10, .int .i64 a0_11, .int .i64 a0_12]) F0 (run_guard rfl) rfl rfl (r_box rfl (F0.ev rfl) rfl) (fun ac1 w1 b1 hb hge hlt hE F1 => ?_)
  clear F0 ac0
  have GEX1 := Aside0.mk (Nat.le_trans HB.out.size hge)
  replace HB := Aside0.mk (below_step HB.out hE)
  have X1 := Aside0.mk hb
  clear hb hge hlt hE
  refine s_new (cs := #[.int .i64 a1_0, .int .i64 a1_1, .int .i64 a1_2, .int .i64 a1_3, .int .i64 a1_4, .int .i64 a1_5, .int .i64 a1_6, .int .i64 a1_7, .int .i64 a1_8, .int .i64 a1_9, .int .i64 a1_10, .int .i64 a1_11, .int .i64 a1_12]) F1 (run_guard rfl) rfl rfl (r_box rfl (F1.ev rfl) rfl) (fun ac2 w2 b2 hb hge hlt hE F2 => ?_)
  clear F1 ac1
  have GEX2 := Aside0.mk (Nat.le_trans HB.out.size hge)
  have LTX1_X2 := Aside0.mk (Nat.lt_of_lt_of_le (blk_lt X1.out) hge)
  replace X1 := Aside0.mk (blk_below X1.out hE)
  replace HB := Aside0.mk (below_step HB.out hE)
  have X2 := Aside0.mk hb
  clear hb hge hlt hE
  refine sv (v := .bool false) F2 (run_guard rfl) rfl rfl (r_assign rfl ev_c) (fun ac3 F3 => ?_)
  clear F2 ac2
  refine c_end F3 ?_
  refine hK1 _ _ ?_
  refine wp_seq_k (fun K2 hK2 => ?_)
  refine wp_region_lit ?_
  replace h := Option.bind_eq_some_iff.1 h
  obtain ⟨y1, hy, h⟩ := h
  refine sc F3 (run_guard rfl) rfl rfl (r_call rfl Tryd.func25 (by kernel_rfl) rfl rfl m0) ?_
  refine (feluccalaw04_small.calls k _ _ (TabP.below XTabP.out HB.out) hy).mono ?_
  rintro e w3 ⟨rfl, hE⟩
  clear hy
  replace X1 := Aside0.mk (blk_below X1.out hE)
  replace X2 := Aside0.mk (blk_below X2.out hE)
  replace HB := Aside0.mk (below_step HB.out hE)
  refine ⟨_, rfl, fun ac4 F4 => ?_⟩
  clear hE F3 ac3
  refine sv (v := .bool y1) F4 (run_guard rfl) rfl rfl (r_assign rfl (F4.ev rfl)) (fun ac5 F5 => ?_)
  clear F4 ac4
  refine c_end F5 ?_
  refine hK2 _ _ ?_
  refine wp_seq_k (fun K3 hK3 => ?_)
  refine wp_region_lit ?_
  refine sv (v := .agg #[.int .i64 a0_0, .int .i64 a0_1, .int .i64 a0_2, .int .i64 a0_3, .int .i64 a0_4, .int .i64 a0_5, .int .i64 a0_6, .int .i64 a0_7, .int .i64 a0_8, .int .i64 a0_9, .int .i64 a0_10, .int .i64 a0_11, .int .i64 a0_12]) F5 (run_guard rfl) rfl rfl (r_load rfl (F5.ev rfl) (l_part X1.out 0 [.int .i64 a0_0, .int .i64 a0_1, .int .i64 a0_2, .int .i64 a0_3, .int .i64 a0_4, .int .i64 a0_5, .int .i64 a0_6, .int .i64 a0_7, .int .i64 a0_8, .int .i64 a0_9, .int .i64 a0_10, .int .i64 a0_11, .int .i64 a0_12] rfl Tryd.underlying38 rfl feluccalaw04_DirectApart.sz38)) (fun ac6 F6 => ?_)
  clear F5 ac5
  replace h := Option.bind_eq_some_iff.1 h
  obtain ⟨⟨y2, y3⟩, hy, h⟩ := h
  refine sc F6 (run_guard rfl) rfl rfl (r_call rfl Tryd.func26 (by kernel_rfl) rfl rfl (m1 (F6.ev rfl))) ?_
  refine (direct_Words.calls k a0_0 a0_1 a0_2 a0_3 a0_4 a0_5 a0_6 a0_7 a0_8 a0_9 a0_10 a0_11 a0_12 _ _ _ (TabP.below XTabP.out HB.out) hy).mono ?_
  rintro e w4 ⟨v1, rfl, hR0, hE⟩
  clear hy
  replace hR0 := Kd.R_lower hR0 HB.out.size
  replace X1 := Aside0.mk (blk_below X1.out hE)
  replace X2 := Aside0.mk (blk_below X2.out hE)
  replace HB := Aside0.mk (below_step HB.out hE)
  obtain ⟨Aq1, cq1, rfl⟩ := Kd.R_slice hR0
  have R1 := Aside0.mk hR0
  clear hR0
  refine ⟨_, rfl, fun ac7 F7 => ?_⟩
  clear hE F6 ac6
  refine sv (v := .tuple #[.slice Aq1 y2.length cq1, .bool y3]) F7 (run_guard rfl) rfl rfl (r_move rfl (F7.ev rfl)) (fun ac8 F8 => ?_)
  clear F7 ac7
  refine sv (v := .slice Aq1 y2.length cq1) F8 (run_guard rfl) rfl rfl (r_extract rfl (F8.ev rfl) rfl) (fun ac9 F9 => ?_)
  clear F8 ac8
  refine sv (v := .bool y3) F9 (run_guard rfl) rfl rfl (r_extract rfl (F9.ev rfl) rfl) (fun ac10 F10 => ?_)
  clear F9 ac9
  refine sv (v := .slice Aq1 y2.length cq1) F10 (run_guard rfl) rfl rfl (r_assign rfl (F10.ev rfl)) (fun ac11 F11 => ?_)
  clear F10 ac10
  refine sv (v := .bool y3) F11 (run_guard rfl) rfl rfl (r_assign rfl (F11.ev rfl)) (fun ac12 F12 => ?_)
  clear F11 ac11
  refine c_end F12 ?_
  refine hK3 _ _ ?_
  refine wp_seq_k (fun K4 hK4 => ?_)
  refine wp_region_lit ?_
  refine sv (v := .agg #[.int .i64 a1_0, .int .i64 a1_1, .int .i64 a1_2, .int .i64 a1_3, .int .i64 a1_4, .int .i64 a1_5, .int .i64 a1_6, .int .i64 a1_7, .int .i64 a1_8, .int .i64 a1_9, .int .i64 a1_10, .int .i64 a1_11, .int .i64 a1_12]) F12 (run_guard rfl) rfl rfl (r_load rfl (F12.ev rfl) (l_part X2.out 0 [.int .i64 a1_0, .int .i64 a1_1, .int .i64 a1_2, .int .i64 a1_3, .int .i64 a1_4, .int .i64 a1_5, .int .i64 a1_6, .int .i64 a1_7, .int .i64 a1_8, .int .i64 a1_9, .int .i64 a1_10, .int .i64 a1_11, .int .i64 a1_12] rfl Tryd.underlying38 rfl feluccalaw04_DirectApart.sz38)) (fun ac13 F13 => ?_)
  clear F12 ac12
  replace h := Option.bind_eq_some_iff.1 h
  obtain ⟨⟨y4, y5⟩, hy, h⟩ := h
  refine sc F13 (run_guard rfl) rfl rfl (r_call rfl Tryd.func26 (by kernel_rfl) rfl rfl (m1 (F13.ev rfl))) ?_
  refine (direct_Words.calls k a1_0 a1_1 a1_2 a1_3 a1_4 a1_5 a1_6 a1_7 a1_8 a1_9 a1_10 a1_11 a1_12 _ _ _ (TabP.below XTabP.out HB.out) hy).mono ?_
  rintro e w5 ⟨v2, rfl, hR0, hE⟩
  clear hy
  have hAhR0R1 := apart_new R1.out hR0
  replace hR0 := Kd.R_lower hR0 HB.out.size
  replace X1 := Aside0.mk (blk_below X1.out hE)
  replace X2 := Aside0.mk (blk_below X2.out hE)
  replace R1 := Aside0.mk (Kd.R_below R1.out hE)
  replace HB := Aside0.mk (below_step HB.out hE)
  obtain ⟨Aq2, cq2, rfl⟩ := Kd.R_slice hR0
  have R2 := Aside0.mk hR0
  clear hR0
  have NE1 := Aside0.mk hAhR0R1
  clear hAhR0R1
  refine ⟨_, rfl, fun ac14 F14 => ?_⟩
  clear hE F13 ac13
  refine sv (v := .tuple #[.slice Aq2 y4.length cq2, .bool y5]) F14 (run_guard rfl) rfl rfl (r_move rfl (F14.ev rfl)) (fun ac15 F15 => ?_)
  clear F14 ac14
  refine sv (v := .slice Aq2 y4.length cq2) F15 (run_guard rfl) rfl rfl (r_extract rfl (F15.ev rfl) rfl) (fun ac16 F16 => ?_)
  clear F15 ac15
  refine sv (v := .bool y5) F16 (run_guard rfl) rfl rfl (r_extract rfl (F16.ev rfl) rfl) (fun ac17 F17 => ?_)
  clear F16 ac16
  refine sv (v := .slice Aq2 y4.length cq2) F17 (run_guard rfl) rfl rfl (r_assign rfl (F17.ev rfl)) (fun ac18 F18 => ?_)
  clear F17 ac17
  refine sv (v := .bool y5) F18 (run_guard rfl) rfl rfl (r_assign rfl (F18.ev rfl)) (fun ac19 F19 => ?_)
  clear F18 ac18
  refine c_end F19 ?_
  refine hK4 _ _ ?_
  refine wp_seq_k (fun K5 hK5 => ?_)
  cases hT1 : y1 with
  | true =>
    replace h := cond_t hT1 h
    cases hT2 : (!y3) with
    | true =>
      replace h := cond_t hT2 h
      refine start_ (n := 19) (S := fun _ => True) (ds := []) #[false, false, false, false, false, false, false, false, false, false, false, false, false, false, false, false, false, false, false] (by kernel_rfl) rfl rfl trivial (fun _ => ?_)
      refine with_tabW feluccalaw04_DirectApart.tab4 feluccalaw04_DirectApart.bits4 (fun HT_ HW_ => ?_)
      have hE := below_drew (Below.refl w5.heap.size w5)
      generalize w5.drew = w6 at hE ⊢
      replace X1 := Aside0.mk (blk_below X1.out hE)
      replace X2 := Aside0.mk (blk_below X2.out hE)
      replace R1 := Aside0.mk (Kd.R_below R1.out hE)
      replace R2 := Aside0.mk (Kd.R_below R2.out hE)
      replace HB := Aside0.mk (below_step HB.out hE)
      clear hE
      refine inv_at [0, 1, 2, 3, 4, 5, 6, 7, 8, 9, 10, 11, 12, 13, 14, 15, 16, 17, 18] (fun (a0_ : Act) (b : Nat → Bool) (a : Act) (w' : World) => FrB a 39 b [(2, .pointer (some ⟨b1, 0, none⟩)), (3, .pointer (some ⟨b2, 0, none⟩)), (5, .bool y1), (6, .slice Aq1 y2.length cq1), (7, .bool y3), (8, .slice Aq2 y4.length cq2), (9, .bool y5)] [(0, 21, .bool y1), (1, 22, .bool y1), (2, 23, .bool y3), (3, 24, .bool (!y3)), (4, 25, .bool (!y3)), (5, 26, undef), (6, 27, undef), (7, 28, .bool true), (8, 29, .bool true), (9, 30, undef), (10, 31, undef), (11, 32, undef), (12, 33, undef), (13, 34, undef), (14, 35, undef), (15, 36, undef), (16, 37, .bool true), (17, 38, .bool true), (18, 4, .bool true)] [] ∧ (Aside0 (Below w.heap.size w w')) ∧ (Aside0 (w'.heap[b1]? = some (.cells #[.int .i64 a0_0, .int .i64 a0_1, .int .i64 a0_2, .int .i64 a0_3, .int .i64 a0_4, .int .i64 a0_5, .int .i64 a0_6, .int .i64 a0_7, .int .i64 a0_8, .int .i64 a0_9, .int .i64 a0_10, .int .i64 a0_11, .int .i64 a0_12] 38 (0, 0)))) ∧ (Aside0 (w'.heap[b2]? = some (.cells #[.int .i64 a1_0, .int .i64 a1_1, .int .i64 a1_2, .int .i64 a1_3, .int .i64 a1_4, .int .i64 a1_5, .int .i64 a1_6, .int .i64 a1_7, .int .i64 a1_8, .int .i64 a1_9, .int .i64 a1_10, .int .i64 a1_11, .int .i64 a1_12] 38 (0, 0)))) ∧ (Aside0 (Kd.R Kd.string 9 w' w.heap.size (fun _ => True) (.slice Aq1 y2.length cq1) y2)) ∧ (Aside0 (Kd.R Kd.string 9 w' w.heap.size (fun _ => True) (.slice Aq2 y4.length cq2) y4))) HT_.out HW_.out (by kernel_rfl) (by kernel_rfl) ?_ ?_ ?_
      · exact ⟨FrB.start F19 ⟨rfl, rfl, rfl, rfl, rfl, rfl, rfl, trivial⟩ trivial, HB, X1, X2, R1, R2⟩
      · clear F19 HB X1 X2 R1 R2 HT_ HW_
        refine steps_cons ?_ ?_
        · rintro b a w' ⟨hX, HB, X1, X2, R1, R2⟩ hb_ hon hoff
          refine ⟨_, rfl, fun K hK => ?_⟩
          have t5 : a.tmps[5]? = some (.bool y1) := hX.t_in rfl
          have e5 := eval_of t5
          refine value_ (N := some 21) (v := .bool y1) (run_guard rfl) rfl (r_move rfl e5) ?_
          refine hK.out _ _ ⟨(hX.put 0 hb_ rfl rfl rfl rfl rfl rfl), HB, X1, X2, R1, R2⟩
        refine steps_cons ?_ ?_
        · rintro b a w' ⟨hX, HB, X1, X2, R1, R2⟩ hb_ hon hoff
          refine ⟨_, rfl, fun K hK => ?_⟩
          have t21 := hX.t_on 0 rfl (hon 0 (by kernel_rfl))
          have e21 := eval_of t21
          refine value_ (N := some 22) (v := .bool y1) (run_guard rfl) rfl (r_move rfl e21) ?_
          refine hK.out _ _ ⟨(hX.put 1 hb_ rfl rfl rfl rfl rfl rfl), HB, X1, X2, R1, R2⟩
        refine steps_cons ?_ ?_
        · rintro b a w' ⟨hX, HB, X1, X2, R1, R2⟩ hb_ hon hoff
          refine ⟨_, rfl, fun K hK => ?_⟩
          have t7 : a.tmps[7]? = some (.bool y3) := hX.t_in rfl
          have e7 := eval_of t7
          have t22 := hX.t_on 1 rfl (hon 1 (by kernel_rfl))
          have e22 := eval_of t22
          refine value_ (N := some 23) (v := .bool y3) (wanted_on rfl rfl rfl (lkt t22 hT1)) rfl (r_move rfl e7) ?_
          refine hK.out _ _ ⟨(hX.put 2 hb_ rfl rfl rfl rfl rfl rfl), HB, X1, X2, R1, R2⟩
        refine steps_cons ?_ ?_
        · rintro b a w' ⟨hX, HB, X1, X2, R1, R2⟩ hb_ hon hoff
          refine ⟨_, rfl, fun K hK => ?_⟩
          have t23 := hX.t_on 2 rfl (hon 2 (by kernel_rfl))
          have e23 := eval_of t23
          have t22 := hX.t_on 1 rfl (hon 1 (by kernel_rfl))
          have e22 := eval_of t22
          refine value_ (N := some 24) (v := .bool (!y3)) (wanted_on rfl rfl rfl (lkt t22 hT1)) rfl (r_not (b := y3) rfl e23) ?_
          refine hK.out _ _ ⟨(hX.put 3 hb_ rfl rfl rfl rfl rfl rfl), HB, X1, X2, R1, R2⟩
        refine steps_cons ?_ ?_
        · rintro b a w' ⟨hX, HB, X1, X2, R1, R2⟩ hb_ hon hoff
          refine ⟨_, rfl, fun K hK => ?_⟩
          have t24 := hX.t_on 3 rfl (hon 3 (by kernel_rfl))
          have e24 := eval_of t24
          have t22 := hX.t_on 1 rfl (hon 1 (by kernel_rfl))
          have e22 := eval_of t22
          refine value_ (N := some 25) (v := .bool (!y3)) (wanted_on rfl rfl rfl (lkt t22 hT1)) rfl (r_move rfl e24) ?_
          refine hK.out _ _ ⟨(hX.put 4 hb_ rfl rfl rfl rfl rfl rfl), HB, X1, X2, R1, R2⟩
        refine steps_cons ?_ ?_
        · rintro b a w' ⟨hX, HB, X1, X2, R1, R2⟩ hb_ hon hoff
          refine ⟨_, rfl, fun K hK => ?_⟩
          have t25 := hX.t_on 4 rfl (hon 4 (by kernel_rfl))
          have e25 := eval_of t25
          refine off_ (wanted_off rfl rfl rfl (lkt t25 hT2)) ?_
          show K (a.put (some 26) undef) w'
          refine hK.out _ _ ⟨(hX.put 5 hb_ rfl rfl rfl rfl rfl rfl), HB, X1, X2, R1, R2⟩
        refine steps_cons ?_ ?_
        · rintro b a w' ⟨hX, HB, X1, X2, R1, R2⟩ hb_ hon hoff
          refine ⟨_, rfl, fun K hK => ?_⟩
          have t25 := hX.t_on 4 rfl (hon 4 (by kernel_rfl))
          have e25 := eval_of t25
          refine off_ (wanted_off rfl rfl rfl (lkt t25 hT2)) ?_
          show K (a.put (some 27) undef) w'
          refine hK.out _ _ ⟨(hX.put 6 hb_ rfl rfl rfl rfl rfl rfl), HB, X1, X2, R1, R2⟩
        refine steps_cons ?_ ?_
        · rintro b a w' ⟨hX, HB, X1, X2, R1, R2⟩ hb_ hon hoff
          refine ⟨_, rfl, fun K hK => ?_⟩
          have t25 := hX.t_on 4 rfl (hon 4 (by kernel_rfl))
          have e25 := eval_of t25
          have t27 := hX.t_on 6 rfl (hon 6 (by kernel_rfl))
          have e27 := eval_of t27
          have t22 := hX.t_on 1 rfl (hon 1 (by kernel_rfl))
          have e22 := eval_of t22
          refine value_ (N := some 28) (v := .bool true) (wanted_on rfl rfl rfl (lkt t22 hT1)) rfl (r_pick_t rfl (e25.trans (congrArg Value.bool hT2)) ev_c) ?_
          refine hK.out _ _ ⟨(hX.put 7 hb_ rfl rfl rfl rfl rfl rfl), HB, X1, X2, R1, R2⟩
        refine steps_cons ?_ ?_
        · rintro b a w' ⟨hX, HB, X1, X2, R1, R2⟩ hb_ hon hoff
          refine ⟨_, rfl, fun K hK => ?_⟩
          have t28 := hX.t_on 7 rfl (hon 7 (by kernel_rfl))
          have e28 := eval_of t28
          have t22 := hX.t_on 1 rfl (hon 1 (by kernel_rfl))
          have e22 := eval_of t22
          refine value_ (N := some 29) (v := .bool true) (wanted_on rfl rfl rfl (lkt t22 hT1)) rfl (r_move rfl e28) ?_
          refine hK.out _ _ ⟨(hX.put 8 hb_ rfl rfl rfl rfl rfl rfl), HB, X1, X2, R1, R2⟩
        refine steps_cons ?_ ?_
        · rintro b a w' ⟨hX, HB, X1, X2, R1, R2⟩ hb_ hon hoff
          refine ⟨_, rfl, fun K hK => ?_⟩
          have t29 := hX.t_on 8 rfl (hon 8 (by kernel_rfl))
          have e29 := eval_of t29
          refine off_ (wanted_off rfl rfl rfl t29) ?_
          show K (a.put (some 30) undef) w'
          refine hK.out _ _ ⟨(hX.put 9 hb_ rfl rfl rfl rfl rfl rfl), HB, X1, X2, R1, R2⟩
        refine steps_cons ?_ ?_
        · rintro b a w' ⟨hX, HB, X1, X2, R1, R2⟩ hb_ hon hoff
          refine ⟨_, rfl, fun K hK => ?_⟩
          have t29 := hX.t_on 8 rfl (hon 8 (by kernel_rfl))
          have e29 := eval_of t29
          refine off_ (wanted_off rfl rfl rfl t29) ?_
          show K (a.put (some 31) undef) w'
          refine hK.out _ _ ⟨(hX.put 10 hb_ rfl rfl rfl rfl rfl rfl), HB, X1, X2, R1, R2⟩
        refine steps_cons ?_ ?_
        · rintro b a w' ⟨hX, HB, X1, X2, R1, R2⟩ hb_ hon hoff
          refine ⟨_, rfl, fun K hK => ?_⟩
          have t29 := hX.t_on 8 rfl (hon 8 (by kernel_rfl))
          have e29 := eval_of t29
          refine off_ (wanted_off rfl rfl rfl t29) ?_
          show K (a.put (some 32) undef) w'
          refine hK.out _ _ ⟨(hX.put 11 hb_ rfl rfl rfl rfl rfl rfl), HB, X1, X2, R1, R2⟩
        refine steps_cons ?_ ?_
        · rintro b a w' ⟨hX, HB, X1, X2, R1, R2⟩ hb_ hon hoff
          refine ⟨_, rfl, fun K hK => ?_⟩
          have t29 := hX.t_on 8 rfl (hon 8 (by kernel_rfl))
          have e29 := eval_of t29
          refine off_ (wanted_off rfl rfl rfl t29) ?_
          show K (a.put (some 33) undef) w'
          refine hK.out _ _ ⟨(hX.put 12 hb_ rfl rfl rfl rfl rfl rfl), HB, X1, X2, R1, R2⟩
        refine steps_cons ?_ ?_
        · rintro b a w' ⟨hX, HB, X1, X2, R1, R2⟩ hb_ hon hoff
          refine ⟨_, rfl, fun K hK => ?_⟩
          have t29 := hX.t_on 8 rfl (hon 8 (by kernel_rfl))
          have e29 := eval_of t29
          refine off_ (wanted_off rfl rfl rfl t29) ?_
          show K (a.put (some 34) undef) w'
          refine hK.out _ _ ⟨(hX.put 13 hb_ rfl rfl rfl rfl rfl rfl), HB, X1, X2, R1, R2⟩
        refine steps_cons ?_ ?_
        · rintro b a w' ⟨hX, HB, X1, X2, R1, R2⟩ hb_ hon hoff
          refine ⟨_, rfl, fun K hK => ?_⟩
          have t29 := hX.t_on 8 rfl (hon 8 (by kernel_rfl))
          have e29 := eval_of t29
          refine off_ (wanted_off rfl rfl rfl t29) ?_
          show K (a.put (some 35) undef) w'
          refine hK.out _ _ ⟨(hX.put 14 hb_ rfl rfl rfl rfl rfl rfl), HB, X1, X2, R1, R2⟩
        refine steps_cons ?_ ?_
        · rintro b a w' ⟨hX, HB, X1, X2, R1, R2⟩ hb_ hon hoff
          refine ⟨_, rfl, fun K hK => ?_⟩
          have t29 := hX.t_on 8 rfl (hon 8 (by kernel_rfl))
          have e29 := eval_of t29
          refine off_ (wanted_off rfl rfl rfl t29) ?_
          show K (a.put (some 36) undef) w'
          refine hK.out _ _ ⟨(hX.put 15 hb_ rfl rfl rfl rfl rfl rfl), HB, X1, X2, R1, R2⟩
        refine steps_cons ?_ ?_
        · rintro b a w' ⟨hX, HB, X1, X2, R1, R2⟩ hb_ hon hoff
          refine ⟨_, rfl, fun K hK => ?_⟩
          have t29 := hX.t_on 8 rfl (hon 8 (by kernel_rfl))
          have e29 := eval_of t29
          have t36 := hX.t_on 15 rfl (hon 15 (by kernel_rfl))
          have e36 := eval_of t36
          have t22 := hX.t_on 1 rfl (hon 1 (by kernel_rfl))
          have e22 := eval_of t22
          refine value_ (N := some 37) (v := .bool true) (wanted_on rfl rfl rfl (lkt t22 hT1)) rfl (r_pick_t rfl e29 ev_c) ?_
          refine hK.out _ _ ⟨(hX.put 16 hb_ rfl rfl rfl rfl rfl rfl), HB, X1, X2, R1, R2⟩
        refine steps_cons ?_ ?_
        · rintro b a w' ⟨hX, HB, X1, X2, R1, R2⟩ hb_ hon hoff
          refine ⟨_, rfl, fun K hK => ?_⟩
          have t22 := hX.t_on 1 rfl (hon 1 (by kernel_rfl))
          have e22 := eval_of t22
          have t37 := hX.t_on 16 rfl (hon 16 (by kernel_rfl))
          have e37 := eval_of t37
          refine value_ (N := some 38) (v := .bool true) (run_guard rfl) rfl (r_pick_t rfl (e22.trans (congrArg Value.bool hT1)) e37) ?_
          refine hK.out _ _ ⟨(hX.put 17 hb_ rfl rfl rfl rfl rfl rfl), HB, X1, X2, R1, R2⟩
        refine steps_cons ?_ ?_
        · rintro b a w' ⟨hX, HB, X1, X2, R1, R2⟩ hb_ hon hoff
          refine ⟨_, rfl, fun K hK => ?_⟩
          have t38 := hX.t_on 17 rfl (hon 17 (by kernel_rfl))
          have e38 := eval_of t38
          refine value_ (N := some 4) (v := .bool true) (run_guard rfl) rfl (r_assign rfl e38) ?_
          refine hK.out _ _ ⟨(hX.put 18 hb_ rfl rfl rfl rfl rfl rfl), HB, X1, X2, R1, R2⟩
        exact steps_nil
      · rintro b ac20 w7 hall ⟨hX, HB, X1, X2, R1, R2⟩
        have F20 := hX.done (all_of hall rfl) (L' := [(21, .bool y1), (22, .bool y1), (23, .bool y3), (24, .bool (!y3)), (25, .bool (!y3)), (26, undef), (27, undef), (28, .bool true), (29, .bool true), (30, undef), (31, undef), (32, undef), (33, undef), (34, undef), (35, undef), (36, undef), (37, .bool true), (38, .bool true), (4, .bool true), (2, .pointer (some ⟨b1, 0, none⟩)), (3, .pointer (some ⟨b2, 0, none⟩)), (5, .bool y1), (6, .slice Aq1 y2.length cq1), (7, .bool y3), (8, .slice Aq2 y4.length cq2), (9, .bool y5)]) rfl
        clear hX
        clear hall
        refine hK5 _ _ ?_
        refine wp_ret ?_
        (try simp only [Exit.then, Exit.inBlock])
        refine retx (fn := Tryd.f11) F20 (results1 (fn := Tryd.f11) rfl (rv_t (t := 4) (v := .bool true) F20 rfl)) ?_
        cases h
        exact ⟨rfl, HB.out⟩
    | false =>
      replace h := cond_f hT2 h
      cases hT3 : (!y5) with
      | true =>
        replace h := cond_t hT3 h
        refine start_ (n := 19) (S := fun _ => True) (ds := []) #[false, false, false, false, false, false, false, false, false, false, false, false, false, false, false, false, false, false, false] (by kernel_rfl) rfl rfl trivial (fun _ => ?_)
        refine with_tabW feluccalaw04_DirectApart.tab4 feluccalaw04_DirectApart.bits4 (fun HT_ HW_ => ?_)
        have hE := below_drew (Below.refl w5.heap.size w5)
        generalize w5.drew = w8 at hE ⊢
        replace X1 := Aside0.mk (blk_below X1.out hE)
        replace X2 := Aside0.mk (blk_below X2.out hE)
        replace R1 := Aside0.mk (Kd.R_below R1.out hE)
        replace R2 := Aside0.mk (Kd.R_below R2.out hE)
        replace HB := Aside0.mk (below_step HB.out hE)
        clear hE
        refine inv_at [0, 1, 2, 3, 4, 5, 6, 7, 8, 9, 10, 11, 12, 13, 14, 15, 16, 17, 18] (fun (a0_ : Act) (b : Nat → Bool) (a : Act) (w' : World) => FrB a 39 b [(2, .pointer (some ⟨b1, 0, none⟩)), (3, .pointer (some ⟨b2, 0, none⟩)), (5, .bool y1), (6, .slice Aq1 y2.length cq1), (7, .bool y3), (8, .slice Aq2 y4.length cq2), (9, .bool y5)] [(0, 21, .bool y1), (1, 22, .bool y1), (2, 23, .bool y3), (3, 24, .bool (!y3)), (4, 25, .bool (!y3)), (5, 26, .bool y5), (6, 27, .bool (!y5)), (7, 28, .bool (!y5)), (8, 29, .bool (!y5)), (9, 30, undef), (10, 31, undef), (11, 32, undef), (12, 33, undef), (13, 34, undef), (14, 35, undef), (15, 36, undef), (16, 37, .bool true), (17, 38, .bool true), (18, 4, .bool true)] [] ∧ (Aside0 (Below w.heap.size w w')) ∧ (Aside0 (w'.heap[b1]? = some (.cells #[.int .i64 a0_0, .int .i64 a0_1, .int .i64 a0_2, .int .i64 a0_3, .int .i64 a0_4, .int .i64 a0_5, .int .i64 a0_6, .int .i64 a0_7, .int .i64 a0_8, .int .i64 a0_9, .int .i64 a0_10, .int .i64 a0_11, .int .i64 a0_12] 38 (0, 0)))) ∧ (Aside0 (w'.heap[b2]? = some (.cells #[.int .i64 a1_0, .int .i64 a1_1, .int .i64 a1_2, .int .i64 a1_3, .int .i64 a1_4, .int .i64 a1_5, .int .i64 a1_6, .int .i64 a1_7, .int .i64 a1_8, .int .i64 a1_9, .int .i64 a1_10, .int .i64 a1_11, .int .i64 a1_12] 38 (0, 0)))) ∧ (Aside0 (Kd.R Kd.string 9 w' w.heap.size (fun _ => True) (.slice Aq1 y2.length cq1) y2)) ∧ (Aside0 (Kd.R Kd.string 9 w' w.heap.size (fun _ => True) (.slice Aq2 y4.length cq2) y4))) HT_.out HW_.out (by kernel_rfl) (by kernel_rfl) ?_ ?_ ?_
        · exact ⟨FrB.start F19 ⟨rfl, rfl, rfl, rfl, rfl, rfl, rfl, trivial⟩ trivial, HB, X1, X2, R1, R2⟩
        · clear F19 HB X1 X2 R1 R2 HT_ HW_
          refine steps_cons ?_ ?_
          · rintro b a w' ⟨hX, HB, X1, X2, R1, R2⟩ hb_ hon hoff
            refine ⟨_, rfl, fun K hK => ?_⟩
            have t5 : a.tmps[5]? = some (.bool y1) := hX.t_in rfl
            have e5 := eval_of t5
            refine value_ (N := some 21) (v := .bool y1) (run_guard rfl) rfl (r_move rfl e5) ?_
            refine hK.out _ _ ⟨(hX.put 0 hb_ rfl rfl rfl rfl rfl rfl), HB, X1, X2, R1, R2⟩
          refine steps_cons ?_ ?_
          · rintro b a w' ⟨hX, HB, X1, X2, R1, R2⟩ hb_ hon hoff
            refine ⟨_, rfl, fun K hK => ?_⟩
            have t21 := hX.t_on 0 rfl (hon 0 (by kernel_rfl))
            have e21 := eval_of t21
            refine value_ (N := some 22) (v := .bool y1) (run_guard rfl) rfl (r_move rfl e21) ?_
            refine hK.out _ _ ⟨(hX.put 1 hb_ rfl rfl rfl rfl rfl rfl), HB, X1, X2, R1, R2⟩
          refine steps_cons ?_ ?_
          · rintro b a w' ⟨hX, HB, X1, X2, R1, R2⟩ hb_ hon hoff
            refine ⟨_, rfl, fun K hK => ?_⟩
            have t7 : a.tmps[7]? = some (.bool y3) := hX.t_in rfl
            have e7 := eval_of t7
            have t22 := hX.t_on 1 rfl (hon 1 (by kernel_rfl))
            have e22 := eval_of t22
            refine value_ (N := some 23) (v := .bool y3) (wanted_on rfl rfl rfl (lkt t22 hT1)) rfl (r_move rfl e7) ?_
            refine hK.out _ _ ⟨(hX.put 2 hb_ rfl rfl rfl rfl rfl rfl), HB, X1, X2, R1, R2⟩
          refine steps_cons ?_ ?_
          · rintro b a w' ⟨hX, HB, X1, X2, R1, R2⟩ hb_ hon hoff
            refine ⟨_, rfl, fun K hK => ?_⟩
            have t23 := hX.t_on 2 rfl (hon 2 (by kernel_rfl))
            have e23 := eval_of t23
            have t22 := hX.t_on 1 rfl (hon 1 (by kernel_rfl))
            have e22 := eval_of t22
            refine value_ (N := some 24) (v := .bool (!y3)) (wanted_on rfl rfl rfl (lkt t22 hT1)) rfl (r_not (b := y3) rfl e23) ?_
            refine hK.out _ _ ⟨(hX.put 3 hb_ rfl rfl rfl rfl rfl rfl), HB, X1, X2, R1, R2⟩
          refine steps_cons ?_ ?_
          · rintro b a w' ⟨hX, HB, X1, X2, R1, R2⟩ hb_ hon hoff
            refine ⟨_, rfl, fun K hK => ?_⟩
            have t24 := hX.t_on 3 rfl (hon 3 (by kernel_rfl))
            have e24 := eval_of t24
            have t22 := hX.t_on 1 rfl (hon 1 (by kernel_rfl))
            have e22 := eval_of t22
            refine value_ (N := some 25) (v := .bool (!y3)) (wanted_on rfl rfl rfl (lkt t22 hT1)) rfl (r_move rfl e24) ?_
            refine hK.out _ _ ⟨(hX.put 4 hb_ rfl rfl rfl rfl rfl rfl), HB, X1, X2, R1, R2⟩
          refine steps_cons ?_ ?_
          · rintro b a w' ⟨hX, HB, X1, X2, R1, R2⟩ hb_ hon hoff
            refine ⟨_, rfl, fun K hK => ?_⟩
            have t9 : a.tmps[9]? = some (.bool y5) := hX.t_in rfl
            have e9 := eval_of t9
            have t25 := hX.t_on 4 rfl (hon 4 (by kernel_rfl))
            have e25 := eval_of t25
            refine value_ (N := some 26) (v := .bool y5) (wanted_on rfl rfl rfl (lkt t25 hT2)) rfl (r_move rfl e9) ?_
            refine hK.out _ _ ⟨(hX.put 5 hb_ rfl rfl rfl rfl rfl rfl), HB, X1, X2, R1, R2⟩
          refine steps_cons ?_ ?_
          · rintro b a w' ⟨hX, HB, X1, X2, R1, R2⟩ hb_ hon hoff
            refine ⟨_, rfl, fun K hK => ?_⟩
            have t26 := hX.t_on 5 rfl (hon 5 (by kernel_rfl))
            have e26 := eval_of t26
            have t25 := hX.t_on 4 rfl (hon 4 (by kernel_rfl))
            have e25 := eval_of t25
            refine value_ (N := some 27) (v := .bool (!y5)) (wanted_on rfl rfl rfl (lkt t25 hT2)) rfl (r_not (b := y5) rfl e26) ?_
            refine hK.out _ _ ⟨(hX.put 6 hb_ rfl rfl rfl rfl rfl rfl), HB, X1, X2, R1, R2⟩
          refine steps_cons ?_ ?_
          · rintro b a w' ⟨hX, HB, X1, X2, R1, R2⟩ hb_ hon hoff
            refine ⟨_, rfl, fun K hK => ?_⟩
            have t25 := hX.t_on 4 rfl (hon 4 (by kernel_rfl))
            have e25 := eval_of t25
            have t27 := hX.t_on 6 rfl (hon 6 (by kernel_rfl))
            have e27 := eval_of t27
            have t22 := hX.t_on 1 rfl (hon 1 (by kernel_rfl))
            have e22 := eval_of t22
            refine value_ (N := some 28) (v := .bool (!y5)) (wanted_on rfl rfl rfl (lkt t22 hT1)) rfl (r_pick_f rfl (e25.trans (congrArg Value.bool hT2)) e27) ?_
            refine hK.out _ _ ⟨(hX.put 7 hb_ rfl rfl rfl rfl rfl rfl), HB, X1, X2, R1, R2⟩
          refine steps_cons ?_ ?_
          · rintro b a w' ⟨hX, HB, X1, X2, R1, R2⟩ hb_ hon hoff
            refine ⟨_, rfl, fun K hK => ?_⟩
            have t28 := hX.t_on 7 rfl (hon 7 (by kernel_rfl))
            have e28 := eval_of t28
            have t22 := hX.t_on 1 rfl (hon 1 (by kernel_rfl))
            have e22 := eval_of t22
            refine value_ (N := some 29) (v := .bool (!y5)) (wanted_on rfl rfl rfl (lkt t22 hT1)) rfl (r_move rfl e28) ?_
            refine hK.out _ _ ⟨(hX.put 8 hb_ rfl rfl rfl rfl rfl rfl), HB, X1, X2, R1, R2⟩
          refine steps_cons ?_ ?_
          · rintro b a w' ⟨hX, HB, X1, X2, R1, R2⟩ hb_ hon hoff
            refine ⟨_, rfl, fun K hK => ?_⟩
            have t29 := hX.t_on 8 rfl (hon 8 (by kernel_rfl))
            have e29 := eval_of t29
            refine off_ (wanted_off rfl rfl rfl (lkt t29 hT3)) ?_
            show K (a.put (some 30) undef) w'
            refine hK.out _ _ ⟨(hX.put 9 hb_ rfl rfl rfl rfl rfl rfl), HB, X1, X2, R1, R2⟩
          refine steps_cons ?_ ?_
          · rintro b a w' ⟨hX, HB, X1, X2, R1, R2⟩ hb_ hon hoff
            refine ⟨_, rfl, fun K hK => ?_⟩
            have t29 := hX.t_on 8 rfl (hon 8 (by kernel_rfl))
            have e29 := eval_of t29
            refine off_ (wanted_off rfl rfl rfl (lkt t29 hT3)) ?_
            show K (a.put (some 31) undef) w'
            refine hK.out _ _ ⟨(hX.put 10 hb_ rfl rfl rfl rfl rfl rfl), HB, X1, X2, R1, R2⟩
          refine steps_cons ?_ ?_
          · rintro b a w' ⟨hX, HB, X1, X2, R1, R2⟩ hb_ hon hoff
            refine ⟨_, rfl, fun K hK => ?_⟩
            have t29 := hX.t_on 8 rfl (hon 8 (by kernel_rfl))
            have e29 := eval_of t29
            refine off_ (wanted_off rfl rfl rfl (lkt t29 hT3)) ?_
            show K (a.put (some 32) undef) w'
            refine hK.out _ _ ⟨(hX.put 11 hb_ rfl rfl rfl rfl rfl rfl), HB, X1, X2, R1, R2⟩
          refine steps_cons ?_ ?_
          · rintro b a w' ⟨hX, HB, X1, X2, R1, R2⟩ hb_ hon hoff
            refine ⟨_, rfl, fun K hK => ?_⟩
            have t29 := hX.t_on 8 rfl (hon 8 (by kernel_rfl))
            have e29 := eval_of t29
            refine off_ (wanted_off rfl rfl rfl (lkt t29 hT3)) ?_
            show K (a.put (some 33) undef) w'
            refine hK.out _ _ ⟨(hX.put 12 hb_ rfl rfl rfl rfl rfl rfl), HB, X1, X2, R1, R2⟩
          refine steps_cons ?_ ?_
          · rintro b a w' ⟨hX, HB, X1, X2, R1, R2⟩ hb_ hon hoff
            refine ⟨_, rfl, fun K hK => ?_⟩
            have t29 := hX.t_on 8 rfl (hon 8 (by kernel_rfl))
            have e29 := eval_of t29
            refine off_ (wanted_off rfl rfl rfl (lkt t29 hT3)) ?_
            show K (a.put (some 34) undef) w'
            refine hK.out _ _ ⟨(hX.put 13 hb_ rfl rfl rfl rfl rfl rfl), HB, X1, X2, R1, R2⟩
          refine steps_cons ?_ ?_
          · rintro b a w' ⟨hX, HB, X1, X2, R1, R2⟩ hb_ hon hoff
            refine ⟨_, rfl, fun K hK => ?_⟩
            have t29 := hX.t_on 8 rfl (hon 8 (by kernel_rfl))
            have e29 := eval_of t29
            refine off_ (wanted_off rfl rfl rfl (lkt t29 hT3)) ?_
            show K (a.put (some 35) undef) w'
            refine hK.out _ _ ⟨(hX.put 14 hb_ rfl rfl rfl rfl rfl rfl), HB, X1, X2, R1, R2⟩
          refine steps_cons ?_ ?_
          · rintro b a w' ⟨hX, HB, X1, X2, R1, R2⟩ hb_ hon hoff
            refine ⟨_, rfl, fun K hK => ?_⟩
            have t29 := hX.t_on 8 rfl (hon 8 (by kernel_rfl))
            have e29 := eval_of t29
            refine off_ (wanted_off rfl rfl rfl (lkt t29 hT3)) ?_
            show K (a.put (some 36) undef) w'
            refine hK.out _ _ ⟨(hX.put 15 hb_ rfl rfl rfl rfl rfl rfl), HB, X1, X2, R1, R2⟩
          refine steps_cons ?_ ?_
          · rintro b a w' ⟨hX, HB, X1, X2, R1, R2⟩ hb_ hon hoff
            refine ⟨_, rfl, fun K hK => ?_⟩
            have t29 := hX.t_on 8 rfl (hon 8 (by kernel_rfl))
            have e29 := eval_of t29
            have t36 := hX.t_on 15 rfl (hon 15 (by kernel_rfl))
            have e36 := eval_of t36
            have t22 := hX.t_on 1 rfl (hon 1 (by kernel_rfl))
            have e22 := eval_of t22
            refine value_ (N := some 37) (v := .bool true) (wanted_on rfl rfl rfl (lkt t22 hT1)) rfl (r_pick_t rfl (e29.trans (congrArg Value.bool hT3)) ev_c) ?_
            refine hK.out _ _ ⟨(hX.put 16 hb_ rfl rfl rfl rfl rfl rfl), HB, X1, X2, R1, R2⟩
          refine steps_cons ?_ ?_
          · rintro b a w' ⟨hX, HB, X1, X2, R1, R2⟩ hb_ hon hoff
            refine ⟨_, rfl, fun K hK => ?_⟩
            have t22 := hX.t_on 1 rfl (hon 1 (by kernel_rfl))
            have e22 := eval_of t22
            have t37 := hX.t_on 16 rfl (hon 16 (by kernel_rfl))
            have e37 := eval_of t37
            refine value_ (N := some 38) (v := .bool true) (run_guard rfl) rfl (r_pick_t rfl (e22.trans (congrArg Value.bool hT1)) e37) ?_
            refine hK.out _ _ ⟨(hX.put 17 hb_ rfl rfl rfl rfl rfl rfl), HB, X1, X2, R1, R2⟩
          refine steps_cons ?_ ?_
          · rintro b a w' ⟨hX, HB, X1, X2, R1, R2⟩ hb_ hon hoff
            refine ⟨_, rfl, fun K hK => ?_⟩
            have t38 := hX.t_on 17 rfl (hon 17 (by kernel_rfl))
            have e38 := eval_of t38
            refine value_ (N := some 4) (v := .bool true) (run_guard rfl) rfl (r_assign rfl e38) ?_
            refine hK.out _ _ ⟨(hX.put 18 hb_ rfl rfl rfl rfl rfl rfl), HB, X1, X2, R1, R2⟩
          exact steps_nil
        · rintro b ac21 w9 hall ⟨hX, HB, X1, X2, R1, R2⟩
          have F21 := hX.done (all_of hall rfl) (L' := [(21, .bool y1), (22, .bool y1), (23, .bool y3), (24, .bool (!y3)), (25, .bool (!y3)), (26, .bool y5), (27, .bool (!y5)), (28, .bool (!y5)), (29, .bool (!y5)), (30, undef), (31, undef), (32, undef), (33, undef), (34, undef), (35, undef), (36, undef), (37, .bool true), (38, .bool true), (4, .bool true), (2, .pointer (some ⟨b1, 0, none⟩)), (3, .pointer (some ⟨b2, 0, none⟩)), (5, .bool y1), (6, .slice Aq1 y2.length cq1), (7, .bool y3), (8, .slice Aq2 y4.length cq2), (9, .bool y5)]) rfl
          clear hX
          clear hall
          refine hK5 _ _ ?_
          refine wp_ret ?_
          (try simp only [Exit.then, Exit.inBlock])
          refine retx (fn := Tryd.f11) F21 (results1 (fn := Tryd.f11) rfl (rv_t (t := 4) (v := .bool true) F21 rfl)) ?_
          cases h
          exact ⟨rfl, HB.out⟩
      | false =>
        replace h := cond_f hT3 h
        replace h := Option.bind_eq_some_iff.1 h
        obtain ⟨y6, hy1, h⟩ := h
        replace hy1 := Aside0.mk hy1
        refine start_ (n := 19) (S := fun _ => True) (ds := []) #[false, false, false, false, false, false, false, false, false, false, false, false, false, false, false, false, false, false, false] (by kernel_rfl) rfl rfl trivial (fun _ => ?_)
        refine with_tabW feluccalaw04_DirectApart.tab4 feluccalaw04_DirectApart.bits4 (fun HT_ HW_ => ?_)
        have hE := below_drew (Below.refl w5.heap.size w5)
        generalize w5.drew = w10 at hE ⊢
        replace X1 := Aside0.mk (blk_below X1.out hE)
        replace X2 := Aside0.mk (blk_below X2.out hE)
        replace R1 := Aside0.mk (Kd.R_below R1.out hE)
        replace R2 := Aside0.mk (Kd.R_below R2.out hE)
        replace HB := Aside0.mk (below_step HB.out hE)
        clear hE
        refine inv_at [0, 1, 2, 3, 4, 5, 6, 7, 8, 9, 10, 11, 12, 13, 14, 15, 16, 17, 18] (fun (a0_ : Act) (b : Nat → Bool) (a : Act) (w' : World) => FrB a 39 b [(2, .pointer (some ⟨b1, 0, none⟩)), (3, .pointer (some ⟨b2, 0, none⟩)), (5, .bool y1), (6, .slice Aq1 y2.length cq1), (7, .bool y3), (8, .slice Aq2 y4.length cq2), (9, .bool y5)] [(0, 21, .bool y1), (1, 22, .bool y1), (2, 23, .bool y3), (3, 24, .bool (!y3)), (4, 25, .bool (!y3)), (5, 26, .bool y5), (6, 27, .bool (!y5)), (7, 28, .bool (!y5)), (8, 29, .bool (!y5)), (9, 30, .slice Aq1 y2.length cq1), (10, 31, .slice Aq2 y4.length cq2), (11, 32, .bool y6), (12, 33, .agg #[.int .i64 a0_0, .int .i64 a0_1, .int .i64 a0_2, .int .i64 a0_3, .int .i64 a0_4, .int .i64 a0_5, .int .i64 a0_6, .int .i64 a0_7, .int .i64 a0_8, .int .i64 a0_9, .int .i64 a0_10, .int .i64 a0_11, .int .i64 a0_12]), (13, 34, .agg #[.int .i64 a1_0, .int .i64 a1_1, .int .i64 a1_2, .int .i64 a1_3, .int .i64 a1_4, .int .i64 a1_5, .int .i64 a1_6, .int .i64 a1_7, .int .i64 a1_8, .int .i64 a1_9, .int .i64 a1_10, .int .i64 a1_11, .int .i64 a1_12]), (14, 35, .bool (a0_0 == a1_0 && (a0_1 == a1_1 && ((a0_2 == a1_2 && (a0_3 == a1_3 && (a0_4 == a1_4 && (a0_5 == a1_5 && (a0_6 == a1_6 && (a0_7 == a1_7)))))) && ((a0_8 == a1_8 && (a0_9 == a1_9 && (a0_10 == a1_10 && (a0_11 == a1_11 && (a0_12 == a1_12)))))))))), (15, 36, .bool (y6 == (a0_0 == a1_0 && (a0_1 == a1_1 && ((a0_2 == a1_2 && (a0_3 == a1_3 && (a0_4 == a1_4 && (a0_5 == a1_5 && (a0_6 == a1_6 && (a0_7 == a1_7)))))) && ((a0_8 == a1_8 && (a0_9 == a1_9 && (a0_10 == a1_10 && (a0_11 == a1_11 && (a0_12 == a1_12))))))))))), (16, 37, .bool (y6 == (a0_0 == a1_0 && (a0_1 == a1_1 && ((a0_2 == a1_2 && (a0_3 == a1_3 && (a0_4 == a1_4 && (a0_5 == a1_5 && (a0_6 == a1_6 && (a0_7 == a1_7)))))) && ((a0_8 == a1_8 && (a0_9 == a1_9 && (a0_10 == a1_10 && (a0_11 == a1_11 && (a0_12 == a1_12))))))))))), (17, 38, .bool (y6 == (a0_0 == a1_0 && (a0_1 == a1_1 && ((a0_2 == a1_2 && (a0_3 == a1_3 && (a0_4 == a1_4 && (a0_5 == a1_5 && (a0_6 == a1_6 && (a0_7 == a1_7)))))) && ((a0_8 == a1_8 && (a0_9 == a1_9 && (a0_10 == a1_10 && (a0_11 == a1_11 && (a0_12 == a1_12))))))))))), (18, 4, .bool (y6 == (a0_0 == a1_0 && (a0_1 == a1_1 && ((a0_2 == a1_2 && (a0_3 == a1_3 && (a0_4 == a1_4 && (a0_5 == a1_5 && (a0_6 == a1_6 && (a0_7 == a1_7)))))) && ((a0_8 == a1_8 && (a0_9 == a1_9 && (a0_10 == a1_10 && (a0_11 == a1_11 && (a0_12 == a1_12)))))))))))] [] ∧ (Aside0 (Below w.heap.size w w')) ∧ (Aside0 (w'.heap[b1]? = some (.cells #[.int .i64 a0_0, .int .i64 a0_1, .int .i64 a0_2, .int .i64 a0_3, .int .i64 a0_4, .int .i64 a0_5, .int .i64 a0_6, .int .i64 a0_7, .int .i64 a0_8, .int .i64 a0_9, .int .i64 a0_10, .int .i64 a0_11, .int .i64 a0_12] 38 (0, 0)))) ∧ (Aside0 (w'.heap[b2]? = some (.cells #[.int .i64 a1_0, .int .i64 a1_1, .int .i64 a1_2, .int .i64 a1_3, .int .i64 a1_4, .int .i64 a1_5, .int .i64 a1_6, .int .i64 a1_7, .int .i64 a1_8, .int .i64 a1_9, .int .i64 a1_10, .int .i64 a1_11, .int .i64 a1_12] 38 (0, 0)))) ∧ (Aside0 (Kd.R Kd.string 9 w' w.heap.size (fun _ => True) (.slice Aq1 y2.length cq1) y2)) ∧ (Aside0 (Kd.R Kd.string 9 w' w.heap.size (fun _ => True) (.slice Aq2 y4.length cq2) y4))) HT_.out HW_.out (by kernel_rfl) (by kernel_rfl) ?_ ?_ ?_
        · exact ⟨FrB.start F19 ⟨rfl, rfl, rfl, rfl, rfl, rfl, rfl, trivial⟩ trivial, HB, X1, X2, R1, R2⟩
        · clear F19 HB X1 X2 R1 R2 HT_ HW_
          refine steps_cons ?_ ?_
          · rintro b a w' ⟨hX, HB, X1, X2, R1, R2⟩ hb_ hon hoff
            refine ⟨_, rfl, fun K hK => ?_⟩
            have t5 : a.tmps[5]? = some (.bool y1) := hX.t_in rfl
            have e5 := eval_of t5
            refine value_ (N := some 21) (v := .bool y1) (run_guard rfl) rfl (r_move rfl e5) ?_
            refine hK.out _ _ ⟨(hX.put 0 hb_ rfl rfl rfl rfl rfl rfl), HB, X1, X2, R1, R2⟩
          refine steps_cons ?_ ?_
          · rintro b a w' ⟨hX, HB, X1, X2, R1, R2⟩ hb_ hon hoff
            refine ⟨_, rfl, fun K hK => ?_⟩
            have t21 := hX.t_on 0 rfl (hon 0 (by kernel_rfl))
            have e21 := eval_of t21
            refine value_ (N := some 22) (v := .bool y1) (run_guard rfl) rfl (r_move rfl e21) ?_
            refine hK.out _ _ ⟨(hX.put 1 hb_ rfl rfl rfl rfl rfl rfl), HB, X1, X2, R1, R2⟩
          refine steps_cons ?_ ?_
          · rintro b a w' ⟨hX, HB, X1, X2, R1, R2⟩ hb_ hon hoff
            refine ⟨_, rfl, fun K hK => ?_⟩
            have t7 : a.tmps[7]? = some (.bool y3) := hX.t_in rfl
            have e7 := eval_of t7
            have t22 := hX.t_on 1 rfl (hon 1 (by kernel_rfl))
            have e22 := eval_of t22
            refine value_ (N := some 23) (v := .bool y3) (wanted_on rfl rfl rfl (lkt t22 hT1)) rfl (r_move rfl e7) ?_
            refine hK.out _ _ ⟨(hX.put 2 hb_ rfl rfl rfl rfl rfl rfl), HB, X1, X2, R1, R2⟩
          refine steps_cons ?_ ?_
          · rintro b a w' ⟨hX, HB, X1, X2, R1, R2⟩ hb_ hon hoff
            refine ⟨_, rfl, fun K hK => ?_⟩
            have t23 := hX.t_on 2 rfl (hon 2 (by kernel_rfl))
            have e23 := eval_of t23
            have t22 := hX.t_on 1 rfl (hon 1 (by kernel_rfl))
            have e22 := eval_of t22
            refine value_ (N := some 24) (v := .bool (!y3)) (wanted_on rfl rfl rfl (lkt t22 hT1)) rfl (r_not (b := y3) rfl e23) ?_
            refine hK.out _ _ ⟨(hX.put 3 hb_ rfl rfl rfl rfl rfl rfl), HB, X1, X2, R1, R2⟩
          refine steps_cons ?_ ?_
          · rintro b a w' ⟨hX, HB, X1, X2, R1, R2⟩ hb_ hon hoff
            refine ⟨_, rfl, fun K hK => ?_⟩
            have t24 := hX.t_on 3 rfl (hon 3 (by kernel_rfl))
            have e24 := eval_of t24
            have t22 := hX.t_on 1 rfl (hon 1 (by kernel_rfl))
            have e22 := eval_of t22
            refine value_ (N := some 25) (v := .bool (!y3)) (wanted_on rfl rfl rfl (lkt t22 hT1)) rfl (r_move rfl e24) ?_
            refine hK.out _ _ ⟨(hX.put 4 hb_ rfl rfl rfl rfl rfl rfl), HB, X1, X2, R1, R2⟩
          refine steps_cons ?_ ?_
          · rintro b a w' ⟨hX, HB, X1, X2, R1, R2⟩ hb_ hon hoff
            refine ⟨_, rfl, fun K hK => ?_⟩
            have t9 : a.tmps[9]? = some (.bool y5) := hX.t_in rfl
            have e9 := eval_of t9
            have t25 := hX.t_on 4 rfl (hon 4 (by kernel_rfl))
            have e25 := eval_of t25
            refine value_ (N := some 26) (v := .bool y5) (wanted_on rfl rfl rfl (lkt t25 hT2)) rfl (r_move rfl e9) ?_
            refine hK.out _ _ ⟨(hX.put 5 hb_ rfl rfl rfl rfl rfl rfl), HB, X1, X2, R1, R2⟩
          refine steps_cons ?_ ?_
          · rintro b a w' ⟨hX, HB, X1, X2, R1, R2⟩ hb_ hon hoff
            refine ⟨_, rfl, fun K hK => ?_⟩
            have t26 := hX.t_on 5 rfl (hon 5 (by kernel_rfl))
            have e26 := eval_of t26
            have t25 := hX.t_on 4 rfl (hon 4 (by kernel_rfl))
            have e25 := eval_of t25
            refine value_ (N := some 27) (v := .bool (!y5)) (wanted_on rfl rfl rfl (lkt t25 hT2)) rfl (r_not (b := y5) rfl e26) ?_
            refine hK.out _ _ ⟨(hX.put 6 hb_ rfl rfl rfl rfl rfl rfl), HB, X1, X2, R1, R2⟩
          refine steps_cons ?_ ?_
          · rintro b a w' ⟨hX, HB, X1, X2, R1, R2⟩ hb_ hon hoff
            refine ⟨_, rfl, fun K hK => ?_⟩
            have t25 := hX.t_on 4 rfl (hon 4 (by kernel_rfl))
            have e25 := eval_of t25
            have t27 := hX.t_on 6 rfl (hon 6 (by kernel_rfl))
            have e27 := eval_of t27
            have t22 := hX.t_on 1 rfl (hon 1 (by kernel_rfl))
            have e22 := eval_of t22
            refine value_ (N := some 28) (v := .bool (!y5)) (wanted_on rfl rfl rfl (lkt t22 hT1)) rfl (r_pick_f rfl (e25.trans (congrArg Value.bool hT2)) e27) ?_
            refine hK.out _ _ ⟨(hX.put 7 hb_ rfl rfl rfl rfl rfl rfl), HB, X1, X2, R1, R2⟩
          refine steps_cons ?_ ?_
          · rintro b a w' ⟨hX, HB, X1, X2, R1, R2⟩ hb_ hon hoff
            refine ⟨_, rfl, fun K hK => ?_⟩
            have t28 := hX.t_on 7 rfl (hon 7 (by kernel_rfl))
            have e28 := eval_of t28
            have t22 := hX.t_on 1 rfl (hon 1 (by kernel_rfl))
            have e22 := eval_of t22
            refine value_ (N := some 29) (v := .bool (!y5)) (wanted_on rfl rfl rfl (lkt t22 hT1)) rfl (r_move rfl e28) ?_
            refine hK.out _ _ ⟨(hX.put 8 hb_ rfl rfl rfl rfl rfl rfl), HB, X1, X2, R1, R2⟩
          refine steps_cons ?_ ?_
          · rintro b a w' ⟨hX, HB, X1, X2, R1, R2⟩ hb_ hon hoff
            refine ⟨_, rfl, fun K hK => ?_⟩
            have t6 : a.tmps[6]? = some (.slice Aq1 y2.length cq1) := hX.t_in rfl
            have e6 := eval_of t6
            have t29 := hX.t_on 8 rfl (hon 8 (by kernel_rfl))
            have e29 := eval_of t29
            refine value_ (N := some 30) (v := .slice Aq1 y2.length cq1) (wanted_on rfl rfl rfl (lkt t29 hT3)) rfl (r_move rfl e6) ?_
            refine hK.out _ _ ⟨(hX.put 9 hb_ rfl rfl rfl rfl rfl rfl), HB, X1, X2, R1, R2⟩
          refine steps_cons ?_ ?_
          · rintro b a w' ⟨hX, HB, X1, X2, R1, R2⟩ hb_ hon hoff
            refine ⟨_, rfl, fun K hK => ?_⟩
            have t8 : a.tmps[8]? = some (.slice Aq2 y4.length cq2) := hX.t_in rfl
            have e8 := eval_of t8
            have t29 := hX.t_on 8 rfl (hon 8 (by kernel_rfl))
            have e29 := eval_of t29
            refine value_ (N := some 31) (v := .slice Aq2 y4.length cq2) (wanted_on rfl rfl rfl (lkt t29 hT3)) rfl (r_move rfl e8) ?_
            refine hK.out _ _ ⟨(hX.put 10 hb_ rfl rfl rfl rfl rfl rfl), HB, X1, X2, R1, R2⟩
          refine steps_cons ?_ ?_
          · rintro b a w' ⟨hX, HB, X1, X2, R1, R2⟩ hb_ hon hoff
            refine ⟨_, rfl, fun K hK => ?_⟩
            have t30 := hX.t_on 9 rfl (hon 9 (by kernel_rfl))
            have e30 := eval_of t30
            have t31 := hX.t_on 10 rfl (hon 10 (by kernel_rfl))
            have e31 := eval_of t31
            have t29 := hX.t_on 8 rfl (hon 8 (by kernel_rfl))
            have e29 := eval_of t29
            refine call_ (N := some 32) _ _ (wanted_on rfl rfl rfl (lkt t29 hT3)) rfl (r_call rfl Tryd.func32 (by kernel_rfl) rfl rfl (m2 e30 e31)) ?_
            refine (feluccaref02_Same.calls k Aq1 cq1 y2 Aq2 cq2 y4 _ _ (Kd.R_reads' R1.out).2.2 (Kd.R_reads' R1.out).2.1 (Kd.R_reads' R2.out).2.2 (Kd.R_reads' R2.out).2.1 hy1.out).mono ?_
            rintro e w1 ⟨rfl, hE⟩
            refine ⟨_, rfl, ?_⟩
            refine hK.out _ _ ⟨(hX.put 11 hb_ rfl rfl rfl rfl rfl rfl), ⟨below_step HB.out hE⟩, ⟨blk_below X1.out hE⟩, ⟨blk_below X2.out hE⟩, ⟨Kd.R_below R1.out hE⟩, ⟨Kd.R_below R2.out hE⟩⟩
          refine steps_cons ?_ ?_
          · rintro b a w' ⟨hX, HB, X1, X2, R1, R2⟩ hb_ hon hoff
            refine ⟨_, rfl, fun K hK => ?_⟩
            have t2 : a.tmps[2]? = some (.pointer (some ⟨b1, 0, none⟩)) := hX.t_in rfl
            have e2 := eval_of t2
            have t29 := hX.t_on 8 rfl (hon 8 (by kernel_rfl))
            have e29 := eval_of t29
            refine value_ (N := some 33) (v := .agg #[.int .i64 a0_0, .int .i64 a0_1, .int .i64 a0_2, .int .i64 a0_3, .int .i64 a0_4, .int .i64 a0_5, .int .i64 a0_6, .int .i64 a0_7, .int .i64 a0_8, .int .i64 a0_9, .int .i64 a0_10, .int .i64 a0_11, .int .i64 a0_12]) (wanted_on rfl rfl rfl (lkt t29 hT3)) rfl (r_load rfl e2 (l_part X1.out 0 [.int .i64 a0_0, .int .i64 a0_1, .int .i64 a0_2, .int .i64 a0_3, .int .i64 a0_4, .int .i64 a0_5, .int .i64 a0_6, .int .i64 a0_7, .int .i64 a0_8, .int .i64 a0_9, .int .i64 a0_10, .int .i64 a0_11, .int .i64 a0_12] rfl Tryd.underlying38 rfl feluccalaw04_DirectApart.sz38)) ?_
            refine hK.out _ _ ⟨(hX.put 12 hb_ rfl rfl rfl rfl rfl rfl), HB, X1, X2, R1, R2⟩
          refine steps_cons ?_ ?_
          · rintro b a w' ⟨hX, HB, X1, X2, R1, R2⟩ hb_ hon hoff
            refine ⟨_, rfl, fun K hK => ?_⟩
            have t3 : a.tmps[3]? = some (.pointer (some ⟨b2, 0, none⟩)) := hX.t_in rfl
            have e3 := eval_of t3
            have t29 := hX.t_on 8 rfl (hon 8 (by kernel_rfl))
            have e29 := eval_of t29
            refine value_ (N := some 34) (v := .agg #[.int .i64 a1_0, .int .i64 a1_1, .int .i64 a1_2, .int .i64 a1_3, .int .i64 a1_4, .int .i64 a1_5, .int .i64 a1_6, .int .i64 a1_7, .int .i64 a1_8, .int .i64 a1_9, .int .i64 a1_10, .int .i64 a1_11, .int .i64 a1_12]) (wanted_on rfl rfl rfl (lkt t29 hT3)) rfl (r_load rfl e3 (l_part X2.out 0 [.int .i64 a1_0, .int .i64 a1_1, .int .i64 a1_2, .int .i64 a1_3, .int .i64 a1_4, .int .i64 a1_5, .int .i64 a1_6, .int .i64 a1_7, .int .i64 a1_8, .int .i64 a1_9, .int .i64 a1_10, .int .i64 a1_11, .int .i64 a1_12] rfl Tryd.underlying38 rfl feluccalaw04_DirectApart.sz38)) ?_
            refine hK.out _ _ ⟨(hX.put 13 hb_ rfl rfl rfl rfl rfl rfl), HB, X1, X2, R1, R2⟩
          refine steps_cons ?_ ?_
          · rintro b a w' ⟨hX, HB, X1, X2, R1, R2⟩ hb_ hon hoff
            refine ⟨_, rfl, fun K hK => ?_⟩
            have t33 := hX.t_on 12 rfl (hon 12 (by kernel_rfl))
            have e33 := eval_of t33
            have t34 := hX.t_on 13 rfl (hon 13 (by kernel_rfl))
            have e34 := eval_of t34
            have t29 := hX.t_on 8 rfl (hon 8 (by kernel_rfl))
            have e29 := eval_of t29
            refine value_ (N := some 35) (v := .bool (a0_0 == a1_0 && (a0_1 == a1_1 && ((a0_2 == a1_2 && (a0_3 == a1_3 && (a0_4 == a1_4 && (a0_5 == a1_5 && (a0_6 == a1_6 && (a0_7 == a1_7)))))) && ((a0_8 == a1_8 && (a0_9 == a1_9 && (a0_10 == a1_10 && (a0_11 == a1_11 && (a0_12 == a1_12)))))))))) (wanted_on rfl rfl rfl (lkt t29 hT3)) rfl (r_bin rfl e33 e34 (eqg_no feluccalaw04_DirectApart.eg38 _) (feluccalaw04_DirectApart.eq38 _ _ _ _ _ _ _ _ _ _ _ _ _ _ _ _ _ _ _ _ _ _ _ _ _ _ _)) ?_
            refine hK.out _ _ ⟨(hX.put 14 hb_ rfl rfl rfl rfl rfl rfl), HB, X1, X2, R1, R2⟩
          refine steps_cons ?_ ?_
          · rintro b a w' ⟨hX, HB, X1, X2, R1, R2⟩ hb_ hon hoff
            refine ⟨_, rfl, fun K hK => ?_⟩
            have t32 := hX.t_on 11 rfl (hon 11 (by kernel_rfl))
            have e32 := eval_of t32
            have t35 := hX.t_on 14 rfl (hon 14 (by kernel_rfl))
            have e35 := eval_of t35
            have t29 := hX.t_on 8 rfl (hon 8 (by kernel_rfl))
            have e29 := eval_of t29
            refine value_ (N := some 36) (v := .bool (y6 == (a0_0 == a1_0 && (a0_1 == a1_1 && ((a0_2 == a1_2 && (a0_3 == a1_3 && (a0_4 == a1_4 && (a0_5 == a1_5 && (a0_6 == a1_6 && (a0_7 == a1_7)))))) && ((a0_8 == a1_8 && (a0_9 == a1_9 && (a0_10 == a1_10 && (a0_11 == a1_11 && (a0_12 == a1_12))))))))))) (wanted_on rfl rfl rfl (lkt t29 hT3)) rfl (r_beq rfl Tryd.underlying4 e32 e35) ?_
            refine hK.out _ _ ⟨(hX.put 15 hb_ rfl rfl rfl rfl rfl rfl), HB, X1, X2, R1, R2⟩
          refine steps_cons ?_ ?_
          · rintro b a w' ⟨hX, HB, X1, X2, R1, R2⟩ hb_ hon hoff
            refine ⟨_, rfl, fun K hK => ?_⟩
            have t29 := hX.t_on 8 rfl (hon 8 (by kernel_rfl))
            have e29 := eval_of t29
            have t36 := hX.t_on 15 rfl (hon 15 (by kernel_rfl))
            have e36 := eval_of t36
            have t22 := hX.t_on 1 rfl (hon 1 (by kernel_rfl))
            have e22 := eval_of t22
            refine value_ (N := some 37) (v := .bool (y6 == (a0_0 == a1_0 && (a0_1 == a1_1 && ((a0_2 == a1_2 && (a0_3 == a1_3 && (a0_4 == a1_4 && (a0_5 == a1_5 && (a0_6 == a1_6 && (a0_7 == a1_7)))))) && ((a0_8 == a1_8 && (a0_9 == a1_9 && (a0_10 == a1_10 && (a0_11 == a1_11 && (a0_12 == a1_12))))))))))) (wanted_on rfl rfl rfl (lkt t22 hT1)) rfl (r_pick_f rfl (e29.trans (congrArg Value.bool hT3)) e36) ?_
            refine hK.out _ _ ⟨(hX.put 16 hb_ rfl rfl rfl rfl rfl rfl), HB, X1, X2, R1, R2⟩
          refine steps_cons ?_ ?_
          · rintro b a w' ⟨hX, HB, X1, X2, R1, R2⟩ hb_ hon hoff
            refine ⟨_, rfl, fun K hK => ?_⟩
            have t22 := hX.t_on 1 rfl (hon 1 (by kernel_rfl))
            have e22 := eval_of t22
            have t37 := hX.t_on 16 rfl (hon 16 (by kernel_rfl))
            have e37 := eval_of t37
            refine value_ (N := some 38) (v := .bool (y6 == (a0_0 == a1_0 && (a0_1 == a1_1 && ((a0_2 == a1_2 && (a0_3 == a1_3 && (a0_4 == a1_4 && (a0_5 == a1_5 && (a0_6 == a1_6 && (a0_7 == a1_7)))))) && ((a0_8 == a1_8 && (a0_9 == a1_9 && (a0_10 == a1_10 && (a0_11 == a1_11 && (a0_12 == a1_12))))))))))) (run_guard rfl) rfl (r_pick_t rfl (e22.trans (congrArg Value.bool hT1)) e37) ?_
            refine hK.out _ _ ⟨(hX.put 17 hb_ rfl rfl rfl rfl rfl rfl), HB, X1, X2, R1, R2⟩
          refine steps_cons ?_ ?_
          · rintro b a w' ⟨hX, HB, X1, X2, R1, R2⟩ hb_ hon hoff
            refine ⟨_, rfl, fun K hK => ?_⟩
            have t38 := hX.t_on 17 rfl (hon 17 (by kernel_rfl))
            have e38 := eval_of t38
            refine value_ (N := some 4) (v := .bool (y6 == (a0_0 == a1_0 && (a0_1 == a1_1 && ((a0_2 == a1_2 && (a0_3 == a1_3 && (a0_4 == a1_4 && (a0_5 == a1_5 && (a0_6 == a1_6 && (a0_7 == a1_7)))))) && ((a0_8 == a1_8 && (a0_9 == a1_9 && (a0_10 == a1_10 && (a0_11 == a1_11 && (a0_12 == a1_12))))))))))) (run_guard rfl) rfl (r_assign rfl e38) ?_
            refine hK.out _ _ ⟨(hX.put 18 hb_ rfl rfl rfl rfl rfl rfl), HB, X1, X2, R1, R2⟩
          exact steps_nil
        · rintro b ac22 w11 hall ⟨hX, HB, X1, X2, R1, R2⟩
          have F22 := hX.done (all_of hall rfl) (L' := [(21, .bool y1), (22, .bool y1), (23, .bool y3), (24, .bool (!y3)), (25, .bool (!y3)), (26, .bool y5), (27, .bool (!y5)), (28, .bool (!y5)), (29, .bool (!y5)), (30, .slice Aq1 y2.length cq1), (31, .slice Aq2 y4.length cq2), (32, .bool y6), (33, .agg #[.int .i64 a0_0, .int .i64 a0_1, .int .i64 a0_2, .int .i64 a0_3, .int .i64 a0_4, .int .i64 a0_5, .int .i64 a0_6, .int .i64 a0_7, .int .i64 a0_8, .int .i64 a0_9, .int .i64 a0_10, .int .i64 a0_11, .int .i64 a0_12]), (34, .agg #[.int .i64 a1_0, .int .i64 a1_1, .int .i64 a1_2, .int .i64 a1_3, .int .i64 a1_4, .int .i64 a1_5, .int .i64 a1_6, .int .i64 a1_7, .int .i64 a1_8, .int .i64 a1_9, .int .i64 a1_10, .int .i64 a1_11, .int .i64 a1_12]), (35, .bool (a0_0 == a1_0 && (a0_1 == a1_1 && ((a0_2 == a1_2 && (a0_3 == a1_3 && (a0_4 == a1_4 && (a0_5 == a1_5 && (a0_6 == a1_6 && (a0_7 == a1_7)))))) && ((a0_8 == a1_8 && (a0_9 == a1_9 && (a0_10 == a1_10 && (a0_11 == a1_11 && (a0_12 == a1_12)))))))))), (36, .bool (y6 == (a0_0 == a1_0 && (a0_1 == a1_1 && ((a0_2 == a1_2 && (a0_3 == a1_3 && (a0_4 == a1_4 && (a0_5 == a1_5 && (a0_6 == a1_6 && (a0_7 == a1_7)))))) && ((a0_8 == a1_8 && (a0_9 == a1_9 && (a0_10 == a1_10 && (a0_11 == a1_11 && (a0_12 == a1_12))))))))))), (37, .bool (y6 == (a0_0 == a1_0 && (a0_1 == a1_1 && ((a0_2 == a1_2 && (a0_3 == a1_3 && (a0_4 == a1_4 && (a0_5 == a1_5 && (a0_6 == a1_6 && (a0_7 == a1_7)))))) && ((a0_8 == a1_8 && (a0_9 == a1_9 && (a0_10 == a1_10 && (a0_11 == a1_11 && (a0_12 == a1_12))))))))))), (38, .bool (y6 == (a0_0 == a1_0 && (a0_1 == a1_1 && ((a0_2 == a1_2 && (a0_3 == a1_3 && (a0_4 == a1_4 && (a0_5 == a1_5 && (a0_6 == a1_6 && (a0_7 == a1_7)))))) && ((a0_8 == a1_8 && (a0_9 == a1_9 && (a0_10 == a1_10 && (a0_11 == a1_11 && (a0_12 == a1_12))))))))))), (4, .bool (y6 == (a0_0 == a1_0 && (a0_1 == a1_1 && ((a0_2 == a1_2 && (a0_3 == a1_3 && (a0_4 == a1_4 && (a0_5 == a1_5 && (a0_6 == a1_6 && (a0_7 == a1_7)))))) && ((a0_8 == a1_8 && (a0_9 == a1_9 && (a0_10 == a1_10 && (a0_11 == a1_11 && (a0_12 == a1_12))))))))))), (2, .pointer (some ⟨b1, 0, none⟩)), (3, .pointer (some ⟨b2, 0, none⟩)), (5, .bool y1), (6, .slice Aq1 y2.length cq1), (7, .bool y3), (8, .slice Aq2 y4.length cq2), (9, .bool y5)]) rfl
          clear hX
          clear hall
          clear hy1
          refine hK5 _ _ ?_
          refine wp_ret ?_
          (try simp only [Exit.then, Exit.inBlock])
          refine retx (fn := Tryd.f11) F22 (results1 (fn := Tryd.f11) rfl (rv_t (t := 4) (v := .bool (y6 == (a0_0 == a1_0 && (a0_1 == a1_1 && ((a0_2 == a1_2 && (a0_3 == a1_3 && (a0_4 == a1_4 && (a0_5 == a1_5 && (a0_6 == a1_6 && (a0_7 == a1_7)))))) && ((a0_8 == a1_8 && (a0_9 == a1_9 && (a0_10 == a1_10 && (a0_11 == a1_11 && (a0_12 == a1_12))))))))))) F22 rfl)) ?_
          cases h
          exact ⟨rfl, HB.out⟩
  | false =>
    replace h := cond_f hT1 h
    refine start_ (n := 19) (S := fun _ => True) (ds := []) #[false, false, false, false, false, false, false, false, false, false, false, false, false, false, false, false, false, false, false] (by kernel_rfl) rfl rfl trivial (fun _ => ?_)
    refine with_tabW feluccalaw04_DirectApart.tab4 feluccalaw04_DirectApart.bits4 (fun HT_ HW_ => ?_)
    have hE := below_drew (Below.refl w5.heap.size w5)
    generalize w5.drew = w12 at hE ⊢
    replace X1 := Aside0.mk (blk_below X1.out hE)
    replace X2 := Aside0.mk (blk_below X2.out hE)
    replace R1 := Aside0.mk (Kd.R_below R1.out hE)
    replace R2 := Aside0.mk (Kd.R_below R2.out hE)
    replace HB := Aside0.mk (below_step HB.out hE)
    clear hE
    refine inv_at [0, 1, 2, 3, 4, 5, 6, 7, 8, 9, 10, 11, 12, 13, 14, 15, 16, 17, 18] (fun (a0_ : Act) (b : Nat → Bool) (a : Act) (w' : World) => FrB a 39 b [(2, .pointer (some ⟨b1, 0, none⟩)), (3, .pointer (some ⟨b2, 0, none⟩)), (5, .bool y1), (6, .slice Aq1 y2.length cq1), (7, .bool y3), (8, .slice Aq2 y4.length cq2), (9, .bool y5)] [(0, 21, .bool y1), (1, 22, .bool y1), (2, 23, undef), (3, 24, undef), (4, 25, undef), (5, 26, undef), (6, 27, undef), (7, 28, undef), (8, 29, undef), (9, 30, undef), (10, 31, undef), (11, 32, undef), (12, 33, undef), (13, 34, undef), (14, 35, undef), (15, 36, undef), (16, 37, undef), (17, 38, .bool false), (18, 4, .bool false)] [] ∧ (Aside0 (Below w.heap.size w w')) ∧ (Aside0 (w'.heap[b1]? = some (.cells #[.int .i64 a0_0, .int .i64 a0_1, .int .i64 a0_2, .int .i64 a0_3, .int .i64 a0_4, .int .i64 a0_5, .int .i64 a0_6, .int .i64 a0_7, .int .i64 a0_8, .int .i64 a0_9, .int .i64 a0_10, .int .i64 a0_11, .int .i64 a0_12] 38 (0, 0)))) ∧ (Aside0 (w'.heap[b2]? = some (.cells #[.int .i64 a1_0, .int .i64 a1_1, .int .i64 a1_2, .int .i64 a1_3, .int .i64 a1_4, .int .i64 a1_5, .int .i64 a1_6, .int .i64 a1_7, .int .i64 a1_8, .int .i64 a1_9, .int .i64 a1_10, .int .i64 a1_11, .int .i64 a1_12] 38 (0, 0)))) ∧ (Aside0 (Kd.R Kd.string 9 w' w.heap.size (fun _ => True) (.slice Aq1 y2.length cq1) y2)) ∧ (Aside0 (Kd.R Kd.string 9 w' w.heap.size (fun _ => True) (.slice Aq2 y4.length cq2) y4))) HT_.out HW_.out (by kernel_rfl) (by kernel_rfl) ?_ ?_ ?_
    · exact ⟨FrB.start F19 ⟨rfl, rfl, rfl, rfl, rfl, rfl, rfl, trivial⟩ trivial, HB, X1, X2, R1, R2⟩
    · clear F19 HB X1 X2 R1 R2 HT_ HW_
      refine steps_cons ?_ ?_
      · rintro b a w' ⟨hX, HB, X1, X2, R1, R2⟩ hb_ hon hoff
        refine ⟨_, rfl, fun K hK => ?_⟩
        have t5 : a.tmps[5]? = some (.bool y1) := hX.t_in rfl
        have e5 := eval_of t5
        refine value_ (N := some 21) (v := .bool y1) (run_guard rfl) rfl (r_move rfl e5) ?_
        refine hK.out _ _ ⟨(hX.put 0 hb_ rfl rfl rfl rfl rfl rfl), HB, X1, X2, R1, R2⟩
      refine steps_cons ?_ ?_
      · rintro b a w' ⟨hX, HB, X1, X2, R1, R2⟩ hb_ hon hoff
        refine ⟨_, rfl, fun K hK => ?_⟩
        have t21 := hX.t_on 0 rfl (hon 0 (by kernel_rfl))
        have e21 := eval_of t21
        refine value_ (N := some 22) (v := .bool y1) (run_guard rfl) rfl (r_move rfl e21) ?_
        refine hK.out _ _ ⟨(hX.put 1 hb_ rfl rfl rfl rfl rfl rfl), HB, X1, X2, R1, R2⟩
      refine steps_cons ?_ ?_
      · rintro b a w' ⟨hX, HB, X1, X2, R1, R2⟩ hb_ hon hoff
        refine ⟨_, rfl, fun K hK => ?_⟩
        have t22 := hX.t_on 1 rfl (hon 1 (by kernel_rfl))
        have e22 := eval_of t22
        refine off_ (wanted_off rfl rfl rfl (lkt t22 hT1)) ?_
        show K (a.put (some 23) undef) w'
        refine hK.out _ _ ⟨(hX.put 2 hb_ rfl rfl rfl rfl rfl rfl), HB, X1, X2, R1, R2⟩
      refine steps_cons ?_ ?_
      · rintro b a w' ⟨hX, HB, X1, X2, R1, R2⟩ hb_ hon hoff
        refine ⟨_, rfl, fun K hK => ?_⟩
        have t22 := hX.t_on 1 rfl (hon 1 (by kernel_rfl))
        have e22 := eval_of t22
        refine off_ (wanted_off rfl rfl rfl (lkt t22 hT1)) ?_
        show K (a.put (some 24) undef) w'
        refine hK.out _ _ ⟨(hX.put 3 hb_ rfl rfl rfl rfl rfl rfl), HB, X1, X2, R1, R2⟩
      refine steps_cons ?_ ?_
      · rintro b a w' ⟨hX, HB, X1, X2, R1, R2⟩ hb_ hon hoff
        refine ⟨_, rfl, fun K hK => ?_⟩
        have t22 := hX.t_on 1 rfl (hon 1 (by kernel_rfl))
        have e22 := eval_of t22
        refine off_ (wanted_off rfl rfl rfl (lkt t22 hT1)) ?_
        show K (a.put (some 25) undef) w'
        refine hK.out _ _ ⟨(hX.put 4 hb_ rfl rfl rfl rfl rfl rfl), HB, X1, X2, R1, R2⟩
      refine steps_cons ?_ ?_
      · rintro b a w' ⟨hX, HB, X1, X2, R1, R2⟩ hb_ hon hoff
        refine ⟨_, rfl, fun K hK => ?_⟩
        have t25 := hX.t_on 4 rfl (hon 4 (by kernel_rfl))
        have e25 := eval_of t25
        refine off_ (wanted_none rfl rfl rfl t25) ?_
        show K (a.put (some 26) undef) w'
        refine hK.out _ _ ⟨(hX.put 5 hb_ rfl rfl rfl rfl rfl rfl), HB, X1, X2, R1, R2⟩
      refine steps_cons ?_ ?_
      · rintro b a w' ⟨hX, HB, X1, X2, R1, R2⟩ hb_ hon hoff
        refine ⟨_, rfl, fun K hK => ?_⟩
        have t25 := hX.t_on 4 rfl (hon 4 (by kernel_rfl))
        have e25 := eval_of t25
        refine off_ (wanted_none rfl rfl rfl t25) ?_
        show K (a.put (some 27) undef) w'
        refine hK.out _ _ ⟨(hX.put 6 hb_ rfl rfl rfl rfl rfl rfl), HB, X1, X2, R1, R2⟩
      refine steps_cons ?_ ?_
      · rintro b a w' ⟨hX, HB, X1, X2, R1, R2⟩ hb_ hon hoff
        refine ⟨_, rfl, fun K hK => ?_⟩
        have t22 := hX.t_on 1 rfl (hon 1 (by kernel_rfl))
        have e22 := eval_of t22
        refine off_ (wanted_off rfl rfl rfl (lkt t22 hT1)) ?_
        show K (a.put (some 28) undef) w'
        refine hK.out _ _ ⟨(hX.put 7 hb_ rfl rfl rfl rfl rfl rfl), HB, X1, X2, R1, R2⟩
      refine steps_cons ?_ ?_
      · rintro b a w' ⟨hX, HB, X1, X2, R1, R2⟩ hb_ hon hoff
        refine ⟨_, rfl, fun K hK => ?_⟩
        have t22 := hX.t_on 1 rfl (hon 1 (by kernel_rfl))
        have e22 := eval_of t22
        refine off_ (wanted_off rfl rfl rfl (lkt t22 hT1)) ?_
        show K (a.put (some 29) undef) w'
        refine hK.out _ _ ⟨(hX.put 8 hb_ rfl rfl rfl rfl rfl rfl), HB, X1, X2, R1, R2⟩
      refine steps_cons ?_ ?_
      · rintro b a w' ⟨hX, HB, X1, X2, R1, R2⟩ hb_ hon hoff
        refine ⟨_, rfl, fun K hK => ?_⟩
        have t29 := hX.t_on 8 rfl (hon 8 (by kernel_rfl))
        have e29 := eval_of t29
        refine off_ (wanted_none rfl rfl rfl t29) ?_
        show K (a.put (some 30) undef) w'
        refine hK.out _ _ ⟨(hX.put 9 hb_ rfl rfl rfl rfl rfl rfl), HB, X1, X2, R1, R2⟩
      refine steps_cons ?_ ?_
      · rintro b a w' ⟨hX, HB, X1, X2, R1, R2⟩ hb_ hon hoff
        refine ⟨_, rfl, fun K hK => ?_⟩
        have t29 := hX.t_on 8 rfl (hon 8 (by kernel_rfl))
        have e29 := eval_of t29
        refine off_ (wanted_none rfl rfl rfl t29) ?_
        show K (a.put (some 31) undef) w'
        refine hK.out _ _ ⟨(hX.put 10 hb_ rfl rfl rfl rfl rfl rfl), HB, X1, X2, R1, R2⟩
      refine steps_cons ?_ ?_
      · rintro b a w' ⟨hX, HB, X1, X2, R1, R2⟩ hb_ hon hoff
        refine ⟨_, rfl, fun K hK => ?_⟩
        have t29 := hX.t_on 8 rfl (hon 8 (by kernel_rfl))
        have e29 := eval_of t29
        refine off_ (wanted_none rfl rfl rfl t29) ?_
        show K (a.put (some 32) undef) w'
        refine hK.out _ _ ⟨(hX.put 11 hb_ rfl rfl rfl rfl rfl rfl), HB, X1, X2, R1, R2⟩
      refine steps_cons ?_ ?_
      · rintro b a w' ⟨hX, HB, X1, X2, R1, R2⟩ hb_ hon hoff
        refine ⟨_, rfl, fun K hK => ?_⟩
        have t29 := hX.t_on 8 rfl (hon 8 (by kernel_rfl))
        have e29 := eval_of t29
        refine off_ (wanted_none rfl rfl rfl t29) ?_
        show K (a.put (some 33) undef) w'
        refine hK.out _ _ ⟨(hX.put 12 hb_ rfl rfl rfl rfl rfl rfl), HB, X1, X2, R1, R2⟩
      refine steps_cons ?_ ?_
      · rintro b a w' ⟨hX, HB, X1, X2, R1, R2⟩ hb_ hon hoff
        refine ⟨_, rfl, fun K hK => ?_⟩
        have t29 := hX.t_on 8 rfl (hon 8 (by kernel_rfl))
        have e29 := eval_of t29
        refine off_ (wanted_none rfl rfl rfl t29) ?_
        show K (a.put (some 34) undef) w'
        refine hK.out _ _ ⟨(hX.put 13 hb_ rfl rfl rfl rfl rfl rfl), HB, X1, X2, R1, R2⟩
      refine steps_cons ?_ ?_
      · rintro b a w' ⟨hX, HB, X1, X2, R1, R2⟩ hb_ hon hoff
        refine ⟨_, rfl, fun K hK => ?_⟩
        have t29 := hX.t_on 8 rfl (hon 8 (by kernel_rfl))
        have e29 := eval_of t29
        refine off_ (wanted_none rfl rfl rfl t29) ?_
        show K (a.put (some 35) undef) w'
        refine hK.out _ _ ⟨(hX.put 14 hb_ rfl rfl rfl rfl rfl rfl), HB, X1, X2, R1, R2⟩
      refine steps_cons ?_ ?_
      · rintro b a w' ⟨hX, HB, X1, X2, R1, R2⟩ hb_ hon hoff
        refine ⟨_, rfl, fun K hK => ?_⟩
        have t29 := hX.t_on 8 rfl (hon 8 (by kernel_rfl))
        have e29 := eval_of t29
        refine off_ (wanted_none rfl rfl rfl t29) ?_
        show K (a.put (some 36) undef) w'
        refine hK.out _ _ ⟨(hX.put 15 hb_ rfl rfl rfl rfl rfl rfl), HB, X1, X2, R1, R2⟩
      refine steps_cons ?_ ?_
      · rintro b a w' ⟨hX, HB, X1, X2, R1, R2⟩ hb_ hon hoff
        refine ⟨_, rfl, fun K hK => ?_⟩
        have t22 := hX.t_on 1 rfl (hon 1 (by kernel_rfl))
        have e22 := eval_of t22
        refine off_ (wanted_off rfl rfl rfl (lkt t22 hT1)) ?_
        show K (a.put (some 37) undef) w'
        refine hK.out _ _ ⟨(hX.put 16 hb_ rfl rfl rfl rfl rfl rfl), HB, X1, X2, R1, R2⟩
      refine steps_cons ?_ ?_
      · rintro b a w' ⟨hX, HB, X1, X2, R1, R2⟩ hb_ hon hoff
        refine ⟨_, rfl, fun K hK => ?_⟩
        have t22 := hX.t_on 1 rfl (hon 1 (by kernel_rfl))
        have e22 := eval_of t22
        have t37 := hX.t_on 16 rfl (hon 16 (by kernel_rfl))
        have e37 := eval_of t37
        refine value_ (N := some 38) (v := .bool false) (run_guard rfl) rfl (r_pick_f rfl (e22.trans (congrArg Value.bool hT1)) ev_c) ?_
        refine hK.out _ _ ⟨(hX.put 17 hb_ rfl rfl rfl rfl rfl rfl), HB, X1, X2, R1, R2⟩
      refine steps_cons ?_ ?_
      · rintro b a w' ⟨hX, HB, X1, X2, R1, R2⟩ hb_ hon hoff
        refine ⟨_, rfl, fun K hK => ?_⟩
        have t38 := hX.t_on 17 rfl (hon 17 (by kernel_rfl))
        have e38 := eval_of t38
        refine value_ (N := some 4) (v := .bool false) (run_guard rfl) rfl (r_assign rfl e38) ?_
        refine hK.out _ _ ⟨(hX.put 18 hb_ rfl rfl rfl rfl rfl rfl), HB, X1, X2, R1, R2⟩
      exact steps_nil
    · rintro b ac23 w13 hall ⟨hX, HB, X1, X2, R1, R2⟩
      have F23 := hX.done (all_of hall rfl) (L' := [(21, .bool y1), (22, .bool y1), (23, undef), (24, undef), (25, undef), (26, undef), (27, undef), (28, undef), (29, undef), (30, undef), (31, undef), (32, undef), (33, undef), (34, undef), (35, undef), (36, undef), (37, undef), (38, .bool false), (4, .bool false), (2, .pointer (some ⟨b1, 0, none⟩)), (3, .pointer (some ⟨b2, 0, none⟩)), (5, .bool y1), (6, .slice Aq1 y2.length cq1), (7, .bool y3), (8, .slice Aq2 y4.length cq2), (9, .bool y5)]) rfl
      clear hX
      clear hall
      refine hK5 _ _ ?_
      refine wp_ret ?_
      (try simp only [Exit.then, Exit.inBlock])
      refine retx (fn := Tryd.f11) F23 (results1 (fn := Tryd.f11) rfl (rv_t (t := 4) (v := .bool false) F23 rfl)) ?_
      cases h
      exact ⟨rfl, HB.out⟩
end Go.Proofs.YtndijkndllpkgaaDoor.Pr
