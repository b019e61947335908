/- The walk of feluccalaw04.DirectBack by explicit steps (wip/xw.py). -/
import Derived.Test.YtndijkndllpkgaaDoorWalkAC
namespace Go.Proofs.YtndijkndllpkgaaDoor.Pr
open Go.RowKit Go.Proofs.YtndijkndllpkgaaDoorW.PrintWords Go.Proofs.YtndijkndllpkgaaDoorW.PrintLast Go.Proofs.YtndijkndllpkgaaDoorW.PrintMore Go.Proofs.YtndijkndllpkgaaDoor.X
set_option linter.unusedVariables false
set_option linter.unusedSimpArgs false
theorem feluccalaw04_DirectBack.sz38 : (Tryd.prog.info? 38).map (·.size) = some 13 := by
  kernel_rfl
theorem feluccalaw04_DirectBack.zv38 (w : World) : (zeroValue 38).run Tryd.prog w = .ok (.agg #[.int .i64 0, .int .i64 0, .int .i64 0, .int .i64 0, .int .i64 0, .int .i64 0, .int .i64 0, .int .i64 0, .int .i64 0, .int .i64 0, .int .i64 0, .int .i64 0, .int .i64 0]) w := by
  first | (go_simp; done) | (go_simp; rfl) | rfl
theorem feluccalaw04_DirectBack.eqA34 (d : Nat) (w : World) (x0 y0 : Int) (x1 y1 : Int) (x2 y2 : Int) (x3 y3 : Int) (x4 y4 : Int) (x5 y5 : Int) : (Op.equalIn (d + 2) 34 (.agg #[.int .i64 x0, .int .i64 x1, .int .i64 x2, .int .i64 x3, .int .i64 x4, .int .i64 x5]) (.agg #[.int .i64 y0, .int .i64 y1, .int .i64 y2, .int .i64 y3, .int .i64 y4, .int .i64 y5])).run Tryd.prog w = .ok (x0 == y0 && (x1 == y1 && (x2 == y2 && (x3 == y3 && (x4 == y4 && (x5 == y5)))))) w := by
  refine eqA_of Tryd.underlying34 (by kernel_rfl) ?_
  refine eqf_cons (by rfl) (by go_simp; rfl) (by go_simp; rfl) (by go_simp) ?_
  refine eqf_cons (by rfl) (by go_simp; rfl) (by go_simp; rfl) (by go_simp) ?_
  refine eqf_cons (by rfl) (by go_simp; rfl) (by go_simp; rfl) (by go_simp) ?_
  refine eqf_cons (by rfl) (by go_simp; rfl) (by go_simp; rfl) (by go_simp) ?_
  refine eqf_cons (by rfl) (by go_simp; rfl) (by go_simp; rfl) (by go_simp) ?_
  exact eqf_last (by rfl) (by go_simp; rfl) (by go_simp; rfl) (by go_simp)
theorem feluccalaw04_DirectBack.eqA36 (d : Nat) (w : World) (x0 y0 : Int) (x1 y1 : Int) (x2 y2 : Int) (x3 y3 : Int) (x4 y4 : Int) : (Op.equalIn (d + 2) 36 (.agg #[.int .i64 x0, .int .i64 x1, .int .i64 x2, .int .i64 x3, .int .i64 x4]) (.agg #[.int .i64 y0, .int .i64 y1, .int .i64 y2, .int .i64 y3, .int .i64 y4])).run Tryd.prog w = .ok (x0 == y0 && (x1 == y1 && (x2 == y2 && (x3 == y3 && (x4 == y4))))) w := by
  refine eqA_of Tryd.underlying36 (by kernel_rfl) ?_
  refine eqf_cons (by rfl) (by go_simp; rfl) (by go_simp; rfl) (by go_simp) ?_
  refine eqf_cons (by rfl) (by go_simp; rfl) (by go_simp; rfl) (by go_simp) ?_
  refine eqf_cons (by rfl) (by go_simp; rfl) (by go_simp; rfl) (by go_simp) ?_
  refine eqf_cons (by rfl) (by go_simp; rfl) (by go_simp; rfl) (by go_simp) ?_
  exact eqf_last (by rfl) (by go_simp; rfl) (by go_simp; rfl) (by go_simp)
theorem feluccalaw04_DirectBack.eqA38 (d : Nat) (w : World) (x0 y0 : Int) (x1 y1 : Int) (x2 y2 : Int) (x3 y3 : Int) (x4 y4 : Int) (x5 y5 : Int) (x6 y6 : Int) (x7 y7 : Int) (x8 y8 : Int) (x9 y9 : Int) (x10 y10 : Int) (x11 y11 : Int) (x12 y12 : Int) : (Op.equalIn (d + 3) 38 (.agg #[.int .i64 x0, .int .i64 x1, .int .i64 x2, .int .i64 x3, .int .i64 x4, .int .i64 x5, .int .i64 x6, .int .i64 x7, .int .i64 x8, .int .i64 x9, .int .i64 x10, .int .i64 x11, .int .i64 x12]) (.agg #[.int .i64 y0, .int .i64 y1, .int .i64 y2, .int .i64 y3, .int .i64 y4, .int .i64 y5, .int .i64 y6, .int .i64 y7, .int .i64 y8, .int .i64 y9, .int .i64 y10, .int .i64 y11, .int .i64 y12])).run Tryd.prog w = .ok (x0 == y0 && (x1 == y1 && ((x2 == y2 && (x3 == y3 && (x4 == y4 && (x5 == y5 && (x6 == y6 && (x7 == y7)))))) && ((x8 == y8 && (x9 == y9 && (x10 == y10 && (x11 == y11 && (x12 == y12))))))))) w := by
  refine eqA_of Tryd.underlying38 (by kernel_rfl) ?_
  refine eqf_cons (by rfl) (by go_simp; rfl) (by go_simp; rfl) (by go_simp) ?_
  refine eqf_cons (by rfl) (by go_simp; rfl) (by go_simp; rfl) (by go_simp) ?_
  refine eqf_cons (by rfl) (by go_simp) (by go_simp) (feluccalaw04_DirectBack.eqA34 (d + 0) w _ _ _ _ _ _ _ _ _ _ _ _) ?_
  exact eqf_last (by rfl) (by go_simp) (by go_simp) (feluccalaw04_DirectBack.eqA36 (d + 0) w _ _ _ _ _ _ _ _ _ _)
theorem feluccalaw04_DirectBack.eqn38 (x0 y0 : Int) (x1 y1 : Int) (x2 y2 : Int) (x3 y3 : Int) (x4 y4 : Int) (x5 y5 : Int) (x6 y6 : Int) (x7 y7 : Int) (x8 y8 : Int) (x9 y9 : Int) (x10 y10 : Int) (x11 y11 : Int) (x12 y12 : Int) (w : World) : (binOp .neq 38 (.agg #[.int .i64 x0, .int .i64 x1, .int .i64 x2, .int .i64 x3, .int .i64 x4, .int .i64 x5, .int .i64 x6, .int .i64 x7, .int .i64 x8, .int .i64 x9, .int .i64 x10, .int .i64 x11, .int .i64 x12]) (.agg #[.int .i64 y0, .int .i64 y1, .int .i64 y2, .int .i64 y3, .int .i64 y4, .int .i64 y5, .int .i64 y6, .int .i64 y7, .int .i64 y8, .int .i64 y9, .int .i64 y10, .int .i64 y11, .int .i64 y12])).run Tryd.prog w = .ok (.bool (!(x0 == y0 && (x1 == y1 && ((x2 == y2 && (x3 == y3 && (x4 == y4 && (x5 == y5 && (x6 == y6 && (x7 == y7)))))) && ((x8 == y8 && (x9 == y9 && (x10 == y10 && (x11 == y11 && (x12 == y12))))))))))) w := by
  have h := feluccalaw04_DirectBack.eqA38 9997 w x0 y0 x1 y1 x2 y2 x3 y3 x4 y4 x5 y5 x6 y6 x7 y7 x8 y8 x9 y9 x10 y10 x11 y11 x12 y12
  simp [binOp, Op.equal, Op.maxDepth, Sem.run_bind, h]
theorem feluccalaw04_DirectBack.eg38 : Tryd.prog.eqGuardType Tryd.prog.depth 38 = false := by
  kernel_rfl
theorem feluccalaw04_DirectBack.bld38_ (w : World) : (Instr.build 38 #[]).run Tryd.prog w = .ok (.agg #[.int .i64 0, .int .i64 0, .int .i64 0, .int .i64 0, .int .i64 0, .int .i64 0, .int .i64 0, .int .i64 0, .int .i64 0, .int .i64 0, .int .i64 0, .int .i64 0, .int .i64 0]) w := by
  first | (go_simp; done) | (go_simp; rfl) | rfl
theorem feluccalaw04_DirectBack.eq38 (x0 y0 : Int) (x1 y1 : Int) (x2 y2 : Int) (x3 y3 : Int) (x4 y4 : Int) (x5 y5 : Int) (x6 y6 : Int) (x7 y7 : Int) (x8 y8 : Int) (x9 y9 : Int) (x10 y10 : Int) (x11 y11 : Int) (x12 y12 : Int) (w : World) : (binOp .eql 38 (.agg #[.int .i64 x0, .int .i64 x1, .int .i64 x2, .int .i64 x3, .int .i64 x4, .int .i64 x5, .int .i64 x6, .int .i64 x7, .int .i64 x8, .int .i64 x9, .int .i64 x10, .int .i64 x11, .int .i64 x12]) (.agg #[.int .i64 y0, .int .i64 y1, .int .i64 y2, .int .i64 y3, .int .i64 y4, .int .i64 y5, .int .i64 y6, .int .i64 y7, .int .i64 y8, .int .i64 y9, .int .i64 y10, .int .i64 y11, .int .i64 y12])).run Tryd.prog w = .ok (.bool (x0 == y0 && (x1 == y1 && ((x2 == y2 && (x3 == y3 && (x4 == y4 && (x5 == y5 && (x6 == y6 && (x7 == y7)))))) && ((x8 == y8 && (x9 == y9 && (x10 == y10 && (x11 == y11 && (x12 == y12)))))))))) w := by
  have h := feluccalaw04_DirectBack.eqA38 9997 w x0 y0 x1 y1 x2 y2 x3 y3 x4 y4 x5 y5 x6 y6 x7 y7 x8 y8 x9 y9 x10 y10 x11 y11 x12 y12
  simp [binOp, Op.equal, Op.maxDepth, Sem.run_bind, h]
def feluccalaw04_DirectBack.f (k : Nat) (a0_0 : Int) (a0_1 : Int) (a0_2 : Int) (a0_3 : Int) (a0_4 : Int) (a0_5 : Int) (a0_6 : Int) (a0_7 : Int) (a0_8 : Int) (a0_9 : Int) (a0_10 : Int) (a0_11 : Int) (a0_12 : Int) (l1 : List ByteArray) : Option (Bool) := (feluccalaw04_small.f k).bind fun y1 => (bif decide (50 < (l1.length : Int)) then (some y1) else ((direct_Words.f k a0_0 a0_1 a0_2 a0_3 a0_4 a0_5 a0_6 a0_7 a0_8 a0_9 a0_10 a0_11 a0_12).bind fun ⟨y2, y3⟩ => ((direct_Right.f a0_0 a0_1 a0_2 a0_3 a0_4 a0_5 a0_6 a0_7 a0_8 a0_9 a0_10 a0_11 a0_12).bind fun y4 => (bif (!(y3 == y4)) then (some false) else (bif (!y3) then (bif (!decide ((y2.length : Int) = 0)) then (some false) else (bif y3 then ((direct_Parse.f k y2).bind fun ⟨y5, y6, y7, y8, y9, y10, y11, y12, y13, y14, y15, y16, y17, y18⟩ => (bif (!decide (y18 = 0)) then (some false) else (bif (!(y5 == a0_0 && (y6 == a0_1 && ((y7 == a0_2 && (y8 == a0_3 && (y9 == a0_4 && (y10 == a0_5 && (y11 == a0_6 && (y12 == a0_7)))))) && ((y13 == a0_8 && (y14 == a0_9 && (y15 == a0_10 && (y16 == a0_11 && (y17 == a0_12)))))))))) then (some false) else ((direct_Parse.f k l1).bind fun ⟨y19, y20, y21, y22, y23, y24, y25, y26, y27, y28, y29, y30, y31, y32⟩ => (bif (!decide (y32 = 0)) then (bif y1 then (bif (y19 == 0 && (y20 == 0 && ((y21 == 0 && (y22 == 0 && (y23 == 0 && (y24 == 0 && (y25 == 0 && (y26 == 0)))))) && ((y27 == 0 && (y28 == 0 && (y29 == 0 && (y30 == 0 && (y31 == 0))))))))) then (bif decide (y32 = 2) then (some true) else (some (decide (y32 = 1)))) else (some false)) else (some false)) else ((direct_Words.f k y19 y20 y21 y22 y23 y24 y25 y26 y27 y28 y29 y30 y31).bind fun ⟨y33, y34⟩ => (bif y1 then (bif y34 then ((feluccaref02_Same.f k y33 l1).bind fun y35 => (bif y35 then ((direct_Right.f y19 y20 y21 y22 y23 y24 y25 y26 y27 y28 y29 y30 y31).bind fun y36 => (some y36)) else (some false))) else (some false)) else (some false)))))))) else ((direct_Parse.f k l1).bind fun ⟨y37, y38, y39, y40, y41, y42, y43, y44, y45, y46, y47, y48, y49, y50⟩ => (bif (!decide (y50 = 0)) then (bif y1 then (bif (y37 == 0 && (y38 == 0 && ((y39 == 0 && (y40 == 0 && (y41 == 0 && (y42 == 0 && (y43 == 0 && (y44 == 0)))))) && ((y45 == 0 && (y46 == 0 && (y47 == 0 && (y48 == 0 && (y49 == 0))))))))) then (bif decide (y50 = 2) then (some true) else (some (decide (y50 = 1)))) else (some false)) else (some false)) else ((direct_Words.f k y37 y38 y39 y40 y41 y42 y43 y44 y45 y46 y47 y48 y49).bind fun ⟨y51, y52⟩ => (bif y1 then (bif y52 then ((feluccaref02_Same.f k y51 l1).bind fun y53 => (bif y53 then ((direct_Right.f y37 y38 y39 y40 y41 y42 y43 y44 y45 y46 y47 y48 y49).bind fun y54 => (some y54)) else (some false))) else (some false)) else (some false))))))) else (bif y3 then ((direct_Parse.f k y2).bind fun ⟨y55, y56, y57, y58, y59, y60, y61, y62, y63, y64, y65, y66, y67, y68⟩ => (bif (!decide (y68 = 0)) then (some false) else (bif (!(y55 == a0_0 && (y56 == a0_1 && ((y57 == a0_2 && (y58 == a0_3 && (y59 == a0_4 && (y60 == a0_5 && (y61 == a0_6 && (y62 == a0_7)))))) && ((y63 == a0_8 && (y64 == a0_9 && (y65 == a0_10 && (y66 == a0_11 && (y67 == a0_12)))))))))) then (some false) else ((direct_Parse.f k l1).bind fun ⟨y69, y70, y71, y72, y73, y74, y75, y76, y77, y78, y79, y80, y81, y82⟩ => (bif (!decide (y82 = 0)) then (bif y1 then (bif (y69 == 0 && (y70 == 0 && ((y71 == 0 && (y72 == 0 && (y73 == 0 && (y74 == 0 && (y75 == 0 && (y76 == 0)))))) && ((y77 == 0 && (y78 == 0 && (y79 == 0 && (y80 == 0 && (y81 == 0))))))))) then (bif decide (y82 = 2) then (some true) else (some (decide (y82 = 1)))) else (some false)) else (some false)) else ((direct_Words.f k y69 y70 y71 y72 y73 y74 y75 y76 y77 y78 y79 y80 y81).bind fun ⟨y83, y84⟩ => (bif y1 then (bif y84 then ((feluccaref02_Same.f k y83 l1).bind fun y85 => (bif y85 then ((direct_Right.f y69 y70 y71 y72 y73 y74 y75 y76 y77 y78 y79 y80 y81).bind fun y86 => (some y86)) else (some false))) else (some false)) else (some false)))))))) else ((direct_Parse.f k l1).bind fun ⟨y87, y88, y89, y90, y91, y92, y93, y94, y95, y96, y97, y98, y99, y100⟩ => (bif (!decide (y100 = 0)) then (bif y1 then (bif (y87 == 0 && (y88 == 0 && ((y89 == 0 && (y90 == 0 && (y91 == 0 && (y92 == 0 && (y93 == 0 && (y94 == 0)))))) && ((y95 == 0 && (y96 == 0 && (y97 == 0 && (y98 == 0 && (y99 == 0))))))))) then (bif decide (y100 = 2) then (some true) else (some (decide (y100 = 1)))) else (some false)) else (some false)) else ((direct_Words.f k y87 y88 y89 y90 y91 y92 y93 y94 y95 y96 y97 y98 y99).bind fun ⟨y101, y102⟩ => (bif y1 then (bif y102 then ((feluccaref02_Same.f k y101 l1).bind fun y103 => (bif y103 then ((direct_Right.f y87 y88 y89 y90 y91 y92 y93 y94 y95 y96 y97 y98 y99).bind fun y104 => (some y104)) else (some false))) else (some false)) else (some false)))))))))))
set_option maxHeartbeats 4000000 in
set_option maxRecDepth 100000 in
theorem feluccalaw04_DirectBack.calls (k : Nat) (a0_0 : Int) (a0_1 : Int) (a0_2 : Int) (a0_3 : Int) (a0_4 : Int) (a0_5 : Int) (a0_6 : Int) (a0_7 : Int) (a0_8 : Int) (a0_9 : Int) (a0_10 : Int) (a0_11 : Int) (a0_12 : Int) (A1 : Option Addr) (c1 : Nat) (l1 : List ByteArray) (r : Bool) (w : World) (hr1 : Kd.C Kd.string w A1 l1.length l1) (hc1 : l1.length ≤ c1) (hTabP : TabP w) (h : feluccalaw04_DirectBack.f k a0_0 a0_1 a0_2 a0_3 a0_4 a0_5 a0_6 a0_7 a0_8 a0_9 a0_10 a0_11 a0_12 l1 = some r) :
    Calls Tryd.prog 10 #[.agg #[.int .i64 a0_0, .int .i64 a0_1, .int .i64 a0_2, .int .i64 a0_3, .int .i64 a0_4, .int .i64 a0_5, .int .i64 a0_6, .int .i64 a0_7, .int .i64 a0_8, .int .i64 a0_9, .int .i64 a0_10, .int .i64 a0_11, .int .i64 a0_12], .slice A1 l1.length c1] w fun e w' => e = .returned (.bool r) ∧ Below w.heap.size w w' := by
  unfold feluccalaw04_DirectBack.f at h
  have XTabP := Aside0.mk hTabP
  clear hTabP
  have HB := Aside0.mk (Below.refl w.heap.size w)
  have HR1 := Aside0.mk hr1
  have HC1 := Aside0.mk hc1
  clear hr1 hc1
  refine calls_x (args := [.agg #[.int .i64 a0_0, .int .i64 a0_1, .int .i64 a0_2, .int .i64 a0_3, .int .i64 a0_4, .int .i64 a0_5, .int .i64 a0_6, .int .i64 a0_7, .int .i64 a0_8, .int .i64 a0_9, .int .i64 a0_10, .int .i64 a0_11, .int .i64 a0_12], .slice A1 l1.length c1]) Tryd.func10 rfl 89 89 rfl rfl (fun ac0 F0 => ?_)
  refine wp_seq_k (fun K1 hK1 => ?_)
  refine wp_region_lit ?_
  refine s_new (cs := #[.int .i64 a0_0, .int .i64 a0_1, .int .i64 a0_2, .int .i64 a0_3, .int .i64 a0_4, .int .i64 a0_5, .int .i64 a0_6, .int .i64 a0_7, .int .i64 a0_8, .int .i64 a0_9, .int .i64 a0_10, .int .i64 a0_11, .int .i64 a0_12]) F0 (run_guard rfl) rfl rfl (r_box rfl (F0.ev rfl) rfl) (fun ac1 w1 b1 hb hge hlt hE F1 => ?_)
  clear F0 ac0
  have GEX1 := Aside0.mk (Nat.le_trans HB.out.size hge)
  replace HB := Aside0.mk (below_step HB.out hE)
  have X1 := Aside0.mk hb
  clear hb hge hlt hE
  refine sv (v := .bool false) F1 (run_guard rfl) rfl rfl (r_assign rfl ev_c) (fun ac2 F2 => ?_)
  clear F1 ac1
  refine c_end F2 ?_
  refine hK1 _ _ ?_
  refine wp_seq_k (fun K2 hK2 => ?_)
  refine wp_region_lit ?_
  replace h := Option.bind_eq_some_iff.1 h
  obtain ⟨y1, hy, h⟩ := h
  refine sc F2 (run_guard rfl) rfl rfl (r_call rfl Tryd.func25 (by kernel_rfl) rfl rfl m0) ?_
  refine (feluccalaw04_small.calls k _ _ (TabP.below XTabP.out HB.out) hy).mono ?_
  rintro e w2 ⟨rfl, hE⟩
  clear hy
  replace X1 := Aside0.mk (blk_below X1.out hE)
  replace HB := Aside0.mk (below_step HB.out hE)
  refine ⟨_, rfl, fun ac3 F3 => ?_⟩
  clear hE F2 ac2
  refine sv (v := .bool y1) F3 (run_guard rfl) rfl rfl (r_assign rfl (F3.ev rfl)) (fun ac4 F4 => ?_)
  clear F3 ac3
  refine c_end F4 ?_
  refine hK2 _ _ ?_
  refine wp_seq_k (fun K3 hK3 => ?_)
  refine wp_seq_k (fun K4 hK4 => ?_)
  refine wp_region_lit ?_
  refine sv (v := .slice A1 l1.length c1) F4 (run_guard rfl) rfl rfl (r_move rfl (F4.ev rfl)) (fun ac5 F5 => ?_)
  clear F4 ac4
  refine sv (v := .int .i64 (l1.length : Int)) F5 (run_guard rfl) rfl rfl (r_len rfl rfl Tryd.underlying39 (F5.ev rfl)) (fun ac6 F6 => ?_)
  clear F5 ac5
  refine sv (v := .bool (decide (50 < (l1.length : Int)))) F6 (run_guard rfl) rfl rfl (r_gtr rfl (F6.ev rfl) ev_c) (fun ac7 F7 => ?_)
  clear F6 ac6
  refine c_end F7 ?_
  refine hK4 _ _ ?_
  cases hT1 : decide (50 < (l1.length : Int)) with
  | true =>
    replace h := cond_t hT1 h
    refine wp_cond_true (F7.ev (lk rfl hT1)) ?_
    refine wp_seq_k (fun K5 hK5 => ?_)
    clear X1
    refine wp_region_lit ?_
    refine sv (v := .bool y1) F7 (run_guard rfl) rfl rfl (r_move rfl (F7.ev rfl)) (fun ac8 F8 => ?_)
    clear F7 ac7
    refine sv (v := .bool y1) F8 (run_guard rfl) rfl rfl (r_assign rfl (F8.ev rfl)) (fun ac9 F9 => ?_)
    clear F8 ac8
    refine c_end F9 ?_
    refine hK5 _ _ ?_
    refine wp_ret ?_
    (try simp only [Exit.then, Exit.inBlock])
    refine retx (fn := Tryd.f10) F9 (results1 (fn := Tryd.f10) rfl (rv_t (t := 4) (v := .bool y1) F9 rfl)) ?_
    cases h
    exact ⟨rfl, HB.out⟩
  | false =>
    replace h := cond_f hT1 h
    refine wp_cond_false (F7.ev (lk rfl hT1)) ?_
    refine wp_skip ?_
    refine hK3 _ _ ?_
    refine wp_seq_k (fun K6 hK6 => ?_)
    refine wp_region_lit ?_
    refine sv (v := .agg #[.int .i64 a0_0, .int .i64 a0_1, .int .i64 a0_2, .int .i64 a0_3, .int .i64 a0_4, .int .i64 a0_5, .int .i64 a0_6, .int .i64 a0_7, .int .i64 a0_8, .int .i64 a0_9, .int .i64 a0_10, .int .i64 a0_11, .int .i64 a0_12]) F7 (run_guard rfl) rfl rfl (r_load rfl (F7.ev rfl) (l_part X1.out 0 [.int .i64 a0_0, .int .i64 a0_1, .int .i64 a0_2, .int .i64 a0_3, .int .i64 a0_4, .int .i64 a0_5, .int .i64 a0_6, .int .i64 a0_7, .int .i64 a0_8, .int .i64 a0_9, .int .i64 a0_10, .int .i64 a0_11, .int .i64 a0_12] rfl Tryd.underlying38 rfl feluccalaw04_DirectBack.sz38)) (fun ac10 F10 => ?_)
    clear F7 ac7
    replace h := Option.bind_eq_some_iff.1 h
    obtain ⟨⟨y2, y3⟩, hy, h⟩ := h
    refine sc F10 (run_guard rfl) rfl rfl (r_call rfl Tryd.func26 (by kernel_rfl) rfl rfl (m1 (F10.ev rfl))) ?_
    refine (direct_Words.calls k a0_0 a0_1 a0_2 a0_3 a0_4 a0_5 a0_6 a0_7 a0_8 a0_9 a0_10 a0_11 a0_12 _ _ _ (TabP.below XTabP.out HB.out) hy).mono ?_
    rintro e w3 ⟨v1, rfl, hR0, hE⟩
    clear hy
    replace hR0 := Kd.R_lower hR0 HB.out.size
    replace X1 := Aside0.mk (blk_below X1.out hE)
    replace HB := Aside0.mk (below_step HB.out hE)
    obtain ⟨Aq1, cq1, rfl⟩ := Kd.R_slice hR0
    have R1 := Aside0.mk hR0
    clear hR0
    refine ⟨_, rfl, fun ac11 F11 => ?_⟩
    clear hE F10 ac10
    refine sv (v := .tuple #[.slice Aq1 y2.length cq1, .bool y3]) F11 (run_guard rfl) rfl rfl (r_move rfl (F11.ev rfl)) (fun ac12 F12 => ?_)
    clear F11 ac11
    refine sv (v := .slice Aq1 y2.length cq1) F12 (run_guard rfl) rfl rfl (r_extract rfl (F12.ev rfl) rfl) (fun ac13 F13 => ?_)
    clear F12 ac12
    refine sv (v := .bool y3) F13 (run_guard rfl) rfl rfl (r_extract rfl (F13.ev rfl) rfl) (fun ac14 F14 => ?_)
    clear F13 ac13
    refine sv (v := .slice Aq1 y2.length cq1) F14 (run_guard rfl) rfl rfl (r_assign rfl (F14.ev rfl)) (fun ac15 F15 => ?_)
    clear F14 ac14
    refine sv (v := .bool y3) F15 (run_guard rfl) rfl rfl (r_assign rfl (F15.ev rfl)) (fun ac16 F16 => ?_)
    clear F15 ac15
    refine c_end F16 ?_
    refine hK6 _ _ ?_
    refine wp_seq_k (fun K7 hK7 => ?_)
    refine wp_seq_k (fun K8 hK8 => ?_)
    refine wp_region_lit ?_
    refine sv (v := .bool y3) F16 (run_guard rfl) rfl rfl (r_move rfl (F16.ev rfl)) (fun ac17 F17 => ?_)
    clear F16 ac16
    refine sv (v := .agg #[.int .i64 a0_0, .int .i64 a0_1, .int .i64 a0_2, .int .i64 a0_3, .int .i64 a0_4, .int .i64 a0_5, .int .i64 a0_6, .int .i64 a0_7, .int .i64 a0_8, .int .i64 a0_9, .int .i64 a0_10, .int .i64 a0_11, .int .i64 a0_12]) F17 (run_guard rfl) rfl rfl (r_load rfl (F17.ev rfl) (l_part X1.out 0 [.int .i64 a0_0, .int .i64 a0_1, .int .i64 a0_2, .int .i64 a0_3, .int .i64 a0_4, .int .i64 a0_5, .int .i64 a0_6, .int .i64 a0_7, .int .i64 a0_8, .int .i64 a0_9, .int .i64 a0_10, .int .i64 a0_11, .int .i64 a0_12] rfl Tryd.underlying38 rfl feluccalaw04_DirectBack.sz38)) (fun ac18 F18 => ?_)
    clear F17 ac17
    replace h := Option.bind_eq_some_iff.1 h
    obtain ⟨y4, hy, h⟩ := h
    refine sc F18 (run_guard rfl) rfl rfl (r_call rfl Tryd.func30 (by kernel_rfl) rfl rfl (m1 (F18.ev rfl))) ?_
    refine (direct_Right.calls a0_0 a0_1 a0_2 a0_3 a0_4 a0_5 a0_6 a0_7 a0_8 a0_9 a0_10 a0_11 a0_12 _ _ hy).mono ?_
    rintro e w4 ⟨rfl, hE⟩
    clear hy
    replace X1 := Aside0.mk (blk_below X1.out hE)
    replace R1 := Aside0.mk (Kd.R_below R1.out hE)
    replace HB := Aside0.mk (below_step HB.out hE)
    refine ⟨_, rfl, fun ac19 F19 => ?_⟩
    clear hE F18 ac18
    refine sv (v := .bool (!(y3 == y4))) F19 (run_guard rfl) rfl rfl (r_bne rfl Tryd.underlying4 (F19.ev rfl) (F19.ev rfl)) (fun ac20 F20 => ?_)
    clear F19 ac19
    refine sv (v := .bool (!(y3 == y4))) F20 (run_guard rfl) rfl rfl (r_move rfl (F20.ev rfl)) (fun ac21 F21 => ?_)
    clear F20 ac20
    cases hT2 : (!(y3 == y4)) with
    | true =>
      replace h := cond_t hT2 h
      refine so F21 (g_off F21 rfl rfl rfl (lk rfl hT2)) rfl rfl (fun ac22 F22 => ?_)
      clear F21 ac21
      refine so F22 (g_off F22 rfl rfl rfl (lk rfl hT2)) rfl rfl (fun ac23 F23 => ?_)
      clear F22 ac22
      refine so F23 (g_off F23 rfl rfl rfl (lk rfl hT2)) rfl rfl (fun ac24 F24 => ?_)
      clear F23 ac23
      refine so F24 (g_none F24 rfl rfl rfl rfl) rfl rfl (fun ac25 F25 => ?_)
      clear F24 ac24
      refine so F25 (g_none F25 rfl rfl rfl rfl) rfl rfl (fun ac26 F26 => ?_)
      clear F25 ac25
      refine so F26 (g_none F26 rfl rfl rfl rfl) rfl rfl (fun ac27 F27 => ?_)
      clear F26 ac26
      refine so F27 (g_off F27 rfl rfl rfl (lk rfl hT2)) rfl rfl (fun ac28 F28 => ?_)
      clear F27 ac27
      refine sv (v := .bool true) F28 (run_guard rfl) rfl rfl (r_pick_t rfl (F28.ev (lk rfl hT2)) ev_c) (fun ac29 F29 => ?_)
      clear F28 ac28
      refine c_end F29 ?_
      refine hK8 _ _ ?_
      refine wp_cond_true (F29.ev rfl) ?_
      refine wp_seq_k (fun K9 hK9 => ?_)
      clear X1 R1
      refine wp_region_lit ?_
      refine sv (v := .bool false) F29 (run_guard rfl) rfl rfl (r_assign rfl ev_c) (fun ac30 F30 => ?_)
      clear F29 ac29
      refine c_end F30 ?_
      refine hK9 _ _ ?_
      refine wp_ret ?_
      (try simp only [Exit.then, Exit.inBlock])
      refine retx (fn := Tryd.f10) F30 (results1 (fn := Tryd.f10) rfl (rv_t (t := 4) (v := .bool false) F30 rfl)) ?_
      cases h
      exact ⟨rfl, HB.out⟩
    | false =>
      replace h := cond_f hT2 h
      refine sv (v := .bool y3) F21 (g_on F21 rfl rfl rfl (lk rfl hT2)) rfl rfl (r_move rfl (F21.ev rfl)) (fun ac31 F31 => ?_)
      clear F21 ac21
      refine sv (v := .bool (!y3)) F31 (g_on F31 rfl rfl rfl (lk rfl hT2)) rfl rfl (r_not (b := y3) rfl (F31.ev rfl)) (fun ac32 F32 => ?_)
      clear F31 ac31
      refine sv (v := .bool (!y3)) F32 (g_on F32 rfl rfl rfl (lk rfl hT2)) rfl rfl (r_move rfl (F32.ev rfl)) (fun ac33 F33 => ?_)
      clear F32 ac32
      cases hT3 : (!y3) with
      | true =>
        replace h := cond_t hT3 h
        refine sv (v := .slice Aq1 y2.length cq1) F33 (g_on F33 rfl rfl rfl (lk rfl hT3)) rfl rfl (r_move rfl (F33.ev rfl)) (fun ac34 F34 => ?_)
        clear F33 ac33
        refine sv (v := .int .i64 (y2.length : Int)) F34 (g_on F34 rfl rfl rfl (lk rfl hT3)) rfl rfl (r_len rfl rfl Tryd.underlying39 (F34.ev rfl)) (fun ac35 F35 => ?_)
        clear F34 ac34
        refine sv (v := .bool (!decide ((y2.length : Int) = 0))) F35 (g_on F35 rfl rfl rfl (lk rfl hT3)) rfl rfl (r_neq rfl (F35.ev rfl) ev_c) (fun ac36 F36 => ?_)
        clear F35 ac35
        refine sv (v := .bool (!decide ((y2.length : Int) = 0))) F36 (g_on F36 rfl rfl rfl (lk rfl hT2)) rfl rfl (r_pick_t rfl (F36.ev (lk rfl hT3)) (F36.ev rfl)) (fun ac37 F37 => ?_)
        clear F36 ac36
        refine sv (v := .bool (!decide ((y2.length : Int) = 0))) F37 (run_guard rfl) rfl rfl (r_pick_f rfl (F37.ev (lk rfl hT2)) (F37.ev rfl)) (fun ac38 F38 => ?_)
        clear F37 ac37
        refine c_end F38 ?_
        refine hK8 _ _ ?_
        cases hT4 : (!decide ((y2.length : Int) = 0)) with
        | true =>
          replace h := cond_t hT4 h
          refine wp_cond_true (F38.ev (lk rfl hT4)) ?_
          refine wp_seq_k (fun K10 hK10 => ?_)
          clear X1 R1
          refine wp_region_lit ?_
          refine sv (v := .bool false) F38 (run_guard rfl) rfl rfl (r_assign rfl ev_c) (fun ac39 F39 => ?_)
          clear F38 ac38
          refine c_end F39 ?_
          refine hK10 _ _ ?_
          refine wp_ret ?_
          (try simp only [Exit.then, Exit.inBlock])
          refine retx (fn := Tryd.f10) F39 (results1 (fn := Tryd.f10) rfl (rv_t (t := 4) (v := .bool false) F39 rfl)) ?_
          cases h
          exact ⟨rfl, HB.out⟩
        | false =>
          replace h := cond_f hT4 h
          refine wp_cond_false (F38.ev (lk rfl hT4)) ?_
          refine wp_skip ?_
          refine hK7 _ _ ?_
          refine wp_seq_k (fun K11 hK11 => ?_)
          refine wp_seq_k (fun K12 hK12 => ?_)
          refine wp_region_lit ?_
          refine sv (v := .bool y3) F38 (run_guard rfl) rfl rfl (r_move rfl (F38.ev rfl)) (fun ac40 F40 => ?_)
          clear F38 ac38
          refine c_end F40 ?_
          refine hK12 _ _ ?_
          cases hT5 : y3 with
          | true =>
            replace h := cond_t hT5 h
            refine wp_cond_true (F40.ev (lk rfl hT5)) ?_
            refine wp_seq_k (fun K13 hK13 => ?_)
            refine wp_region_lit ?_
            refine sv (v := .slice Aq1 y2.length cq1) F40 (run_guard rfl) rfl rfl (r_move rfl (F40.ev rfl)) (fun ac41 F41 => ?_)
            clear F40 ac40
            replace h := Option.bind_eq_some_iff.1 h
            obtain ⟨⟨y5, y6, y7, y8, y9, y10, y11, y12, y13, y14, y15, y16, y17, y18⟩, hy, h⟩ := h
            refine sc F41 (run_guard rfl) rfl rfl (r_call rfl Tryd.func28 (by kernel_rfl) rfl rfl (m1 (F41.ev rfl))) ?_
            refine (direct_Parse.calls k Aq1 cq1 y2 _ _ _ _ _ _ _ _ _ _ _ _ _ _ _ (Kd.R_reads' R1.out).2.2 (Kd.R_reads' R1.out).2.1 hy).mono ?_
            rintro e w5 ⟨rfl, hE⟩
            clear hy
            replace X1 := Aside0.mk (blk_below X1.out hE)
            replace R1 := Aside0.mk (Kd.R_below R1.out hE)
            replace HB := Aside0.mk (below_step HB.out hE)
            refine ⟨_, rfl, fun ac42 F42 => ?_⟩
            clear hE F41 ac41
            refine sv (v := .tuple #[.agg #[.int .i64 y5, .int .i64 y6, .int .i64 y7, .int .i64 y8, .int .i64 y9, .int .i64 y10, .int .i64 y11, .int .i64 y12, .int .i64 y13, .int .i64 y14, .int .i64 y15, .int .i64 y16, .int .i64 y17], .int .i64 y18]) F42 (run_guard rfl) rfl rfl (r_move rfl (F42.ev rfl)) (fun ac43 F43 => ?_)
            clear F42 ac42
            refine sv (v := .agg #[.int .i64 y5, .int .i64 y6, .int .i64 y7, .int .i64 y8, .int .i64 y9, .int .i64 y10, .int .i64 y11, .int .i64 y12, .int .i64 y13, .int .i64 y14, .int .i64 y15, .int .i64 y16, .int .i64 y17]) F43 (run_guard rfl) rfl rfl (r_extract rfl (F43.ev rfl) rfl) (fun ac44 F44 => ?_)
            clear F43 ac43
            refine sv (v := .int .i64 y18) F44 (run_guard rfl) rfl rfl (r_extract rfl (F44.ev rfl) rfl) (fun ac45 F45 => ?_)
            clear F44 ac44
            refine s_new (cs := #[.int .i64 0, .int .i64 0, .int .i64 0, .int .i64 0, .int .i64 0, .int .i64 0, .int .i64 0, .int .i64 0, .int .i64 0, .int .i64 0, .int .i64 0, .int .i64 0, .int .i64 0]) F45 (run_guard rfl) rfl rfl (r_alloc rfl (feluccalaw04_DirectBack.zv38 _) rfl) (fun ac46 w6 b2 hb hge hlt hE F46 => ?_)
            clear F45 ac45
            have GEX2 := Aside0.mk (Nat.le_trans HB.out.size hge)
            have LTX1_X2 := Aside0.mk (Nat.lt_of_lt_of_le (blk_lt X1.out) hge)
            replace X1 := Aside0.mk (blk_below X1.out hE)
            replace R1 := Aside0.mk (Kd.R_below R1.out hE)
            replace HB := Aside0.mk (below_step HB.out hE)
            have X2 := Aside0.mk hb
            clear hb hge hlt hE
            obtain ⟨w7, hs, hS⟩ := s_part (P := Tryd.prog) (t := 38) (l' := [.int .i64 y5, .int .i64 y6, .int .i64 y7, .int .i64 y8, .int .i64 y9, .int .i64 y10, .int .i64 y11, .int .i64 y12, .int .i64 y13, .int .i64 y14, .int .i64 y15, .int .i64 y16, .int .i64 y17]) X2.out 0 #[.int .i64 y5, .int .i64 y6, .int .i64 y7, .int .i64 y8, .int .i64 y9, .int .i64 y10, .int .i64 y11, .int .i64 y12, .int .i64 y13, .int .i64 y14, .int .i64 y15, .int .i64 y16, .int .i64 y17] rfl rfl feluccalaw04_DirectBack.sz38 rfl
            refine ss F46 (run_guard rfl) rfl (r_store rfl (F46.ev rfl) (F46.ev rfl) hs) ?_
            clear hs
            replace X1 := Aside0.mk (hS.blk X1.out (Nat.ne_of_lt LTX1_X2.out))
            replace R1 := Aside0.mk (R_set1 R1.out X2.out (by decide) hS)
            replace HB := Aside0.mk (HB.out.trans (hS.below _ GEX2.out))
            replace X2 := Aside0.mk hS.here
            clear hS
            refine sv (v := .int .i64 y18) F46 (run_guard rfl) rfl rfl (r_assign rfl (F46.ev rfl)) (fun ac47 F47 => ?_)
            clear F46 ac46
            refine c_end F47 ?_
            refine hK13 _ _ ?_
            refine wp_seq_k (fun K14 hK14 => ?_)
            clear R1
            refine wp_region_lit ?_
            refine sv (v := .int .i64 y18) F47 (run_guard rfl) rfl rfl (r_move rfl (F47.ev rfl)) (fun ac48 F48 => ?_)
            clear F47 ac47
            refine sv (v := .bool (!decide (y18 = 0))) F48 (run_guard rfl) rfl rfl (r_neq rfl (F48.ev rfl) ev_c) (fun ac49 F49 => ?_)
            clear F48 ac48
            refine sv (v := .bool (!decide (y18 = 0))) F49 (run_guard rfl) rfl rfl (r_move rfl (F49.ev rfl)) (fun ac50 F50 => ?_)
            clear F49 ac49
            cases hT6 : (!decide (y18 = 0)) with
            | true =>
              replace h := cond_t hT6 h
              refine so F50 (g_off F50 rfl rfl rfl (lk rfl hT6)) rfl rfl (fun ac51 F51 => ?_)
              clear F50 ac50
              refine so F51 (g_off F51 rfl rfl rfl (lk rfl hT6)) rfl rfl (fun ac52 F52 => ?_)
              clear F51 ac51
              refine so F52 (g_off F52 rfl rfl rfl (lk rfl hT6)) rfl rfl (fun ac53 F53 => ?_)
              clear F52 ac52
              refine sv (v := .bool true) F53 (run_guard rfl) rfl rfl (r_pick_t rfl (F53.ev (lk rfl hT6)) ev_c) (fun ac54 F54 => ?_)
              clear F53 ac53
              refine c_end F54 ?_
              refine hK14 _ _ ?_
              refine wp_cond_true (F54.ev rfl) ?_
              refine wp_seq_k (fun K15 hK15 => ?_)
              clear X1 X2
              refine wp_region_lit ?_
              refine sv (v := .bool false) F54 (run_guard rfl) rfl rfl (r_assign rfl ev_c) (fun ac55 F55 => ?_)
              clear F54 ac54
              refine c_end F55 ?_
              refine hK15 _ _ ?_
              refine wp_ret ?_
              (try simp only [Exit.then, Exit.inBlock])
              refine retx (fn := Tryd.f10) F55 (results1 (fn := Tryd.f10) rfl (rv_t (t := 4) (v := .bool false) F55 rfl)) ?_
              cases h
              exact ⟨rfl, HB.out⟩
            | false =>
              replace h := cond_f hT6 h
              refine sv (v := .agg #[.int .i64 y5, .int .i64 y6, .int .i64 y7, .int .i64 y8, .int .i64 y9, .int .i64 y10, .int .i64 y11, .int .i64 y12, .int .i64 y13, .int .i64 y14, .int .i64 y15, .int .i64 y16, .int .i64 y17]) F50 (g_on F50 rfl rfl rfl (lk rfl hT6)) rfl rfl (r_load rfl (F50.ev rfl) (l_part X2.out 0 [.int .i64 y5, .int .i64 y6, .int .i64 y7, .int .i64 y8, .int .i64 y9, .int .i64 y10, .int .i64 y11, .int .i64 y12, .int .i64 y13, .int .i64 y14, .int .i64 y15, .int .i64 y16, .int .i64 y17] rfl Tryd.underlying38 rfl feluccalaw04_DirectBack.sz38)) (fun ac56 F56 => ?_)
              clear F50 ac50
              refine sv (v := .agg #[.int .i64 a0_0, .int .i64 a0_1, .int .i64 a0_2, .int .i64 a0_3, .int .i64 a0_4, .int .i64 a0_5, .int .i64 a0_6, .int .i64 a0_7, .int .i64 a0_8, .int .i64 a0_9, .int .i64 a0_10, .int .i64 a0_11, .int .i64 a0_12]) F56 (g_on F56 rfl rfl rfl (lk rfl hT6)) rfl rfl (r_load rfl (F56.ev rfl) (l_part X1.out 0 [.int .i64 a0_0, .int .i64 a0_1, .int .i64 a0_2, .int .i64 a0_3, .int .i64 a0_4, .int .i64 a0_5, .int .i64 a0_6, .int .i64 a0_7, .int .i64 a0_8, .int .i64 a0_9, .int .i64 a0_10, .int .i64 a0_11, .int .i64 a0_12] rfl Tryd.underlying38 rfl feluccalaw04_DirectBack.sz38)) (fun ac57 F57 => ?_)
              clear F56 ac56
              refine sv (v := .bool (!(y5 == a0_0 && (y6 == a0_1 && ((y7 == a0_2 && (y8 == a0_3 && (y9 == a0_4 && (y10 == a0_5 && (y11 == a0_6 && (y12 == a0_7)))))) && ((y13 == a0_8 && (y14 == a0_9 && (y15 == a0_10 && (y16 == a0_11 && (y17 == a0_12))))))))))) F57 (g_on F57 rfl rfl rfl (lk rfl hT6)) rfl rfl (r_bin rfl (F57.ev rfl) (F57.ev rfl) (eqg_no feluccalaw04_DirectBack.eg38 _) (feluccalaw04_DirectBack.eqn38 _ _ _ _ _ _ _ _ _ _ _ _ _ _ _ _ _ _ _ _ _ _ _ _ _ _ _)) (fun ac58 F58 => ?_)
              clear F57 ac57
              refine sv (v := .bool (!(y5 == a0_0 && (y6 == a0_1 && ((y7 == a0_2 && (y8 == a0_3 && (y9 == a0_4 && (y10 == a0_5 && (y11 == a0_6 && (y12 == a0_7)))))) && ((y13 == a0_8 && (y14 == a0_9 && (y15 == a0_10 && (y16 == a0_11 && (y17 == a0_12))))))))))) F58 (run_guard rfl) rfl rfl (r_pick_f rfl (F58.ev (lk rfl hT6)) (F58.ev rfl)) (fun ac59 F59 => ?_)
              clear F58 ac58
              refine c_end F59 ?_
              refine hK14 _ _ ?_
              cases hT7 : (!(y5 == a0_0 && (y6 == a0_1 && ((y7 == a0_2 && (y8 == a0_3 && (y9 == a0_4 && (y10 == a0_5 && (y11 == a0_6 && (y12 == a0_7)))))) && ((y13 == a0_8 && (y14 == a0_9 && (y15 == a0_10 && (y16 == a0_11 && (y17 == a0_12)))))))))) with
              | true =>
                replace h := cond_t hT7 h
                refine wp_cond_true (F59.ev (lk rfl hT7)) ?_
                refine wp_seq_k (fun K16 hK16 => ?_)
                clear X1 X2
                refine wp_region_lit ?_
                refine sv (v := .bool false) F59 (run_guard rfl) rfl rfl (r_assign rfl ev_c) (fun ac60 F60 => ?_)
                clear F59 ac59
                refine c_end F60 ?_
                refine hK16 _ _ ?_
                refine wp_ret ?_
                (try simp only [Exit.then, Exit.inBlock])
                refine retx (fn := Tryd.f10) F60 (results1 (fn := Tryd.f10) rfl (rv_t (t := 4) (v := .bool false) F60 rfl)) ?_
                cases h
                exact ⟨rfl, HB.out⟩
              | false =>
                replace h := cond_f hT7 h
                refine wp_cond_false (F59.ev (lk rfl hT7)) ?_
                refine wp_skip ?_
                refine hK11 _ _ ?_
                refine wp_seq_k (fun K17 hK17 => ?_)
                clear X1 X2
                refine wp_region_lit ?_
                refine sv (v := .slice A1 l1.length c1) F59 (run_guard rfl) rfl rfl (r_move rfl (F59.ev rfl)) (fun ac61 F61 => ?_)
                clear F59 ac59
                replace h := Option.bind_eq_some_iff.1 h
                obtain ⟨⟨y19, y20, y21, y22, y23, y24, y25, y26, y27, y28, y29, y30, y31, y32⟩, hy, h⟩ := h
                refine sc F61 (run_guard rfl) rfl rfl (r_call rfl Tryd.func28 (by kernel_rfl) rfl rfl (m1 (F61.ev rfl))) ?_
                refine (direct_Parse.calls k A1 c1 l1 _ _ _ _ _ _ _ _ _ _ _ _ _ _ _ (Kd.C_below HR1.out HB.out) HC1.out hy).mono ?_
                rintro e w8 ⟨rfl, hE⟩
                clear hy
                replace HB := Aside0.mk (below_step HB.out hE)
                refine ⟨_, rfl, fun ac62 F62 => ?_⟩
                clear hE F61 ac61
                refine sv (v := .tuple #[.agg #[.int .i64 y19, .int .i64 y20, .int .i64 y21, .int .i64 y22, .int .i64 y23, .int .i64 y24, .int .i64 y25, .int .i64 y26, .int .i64 y27, .int .i64 y28, .int .i64 y29, .int .i64 y30, .int .i64 y31], .int .i64 y32]) F62 (run_guard rfl) rfl rfl (r_move rfl (F62.ev rfl)) (fun ac63 F63 => ?_)
                clear F62 ac62
                refine sv (v := .agg #[.int .i64 y19, .int .i64 y20, .int .i64 y21, .int .i64 y22, .int .i64 y23, .int .i64 y24, .int .i64 y25, .int .i64 y26, .int .i64 y27, .int .i64 y28, .int .i64 y29, .int .i64 y30, .int .i64 y31]) F63 (run_guard rfl) rfl rfl (r_extract rfl (F63.ev rfl) rfl) (fun ac64 F64 => ?_)
                clear F63 ac63
                refine sv (v := .int .i64 y32) F64 (run_guard rfl) rfl rfl (r_extract rfl (F64.ev rfl) rfl) (fun ac65 F65 => ?_)
                clear F64 ac64
                refine s_new (cs := #[.int .i64 0, .int .i64 0, .int .i64 0, .int .i64 0, .int .i64 0, .int .i64 0, .int .i64 0, .int .i64 0, .int .i64 0, .int .i64 0, .int .i64 0, .int .i64 0, .int .i64 0]) F65 (run_guard rfl) rfl rfl (r_alloc rfl (feluccalaw04_DirectBack.zv38 _) rfl) (fun ac66 w9 b3 hb hge hlt hE F66 => ?_)
                clear F65 ac65
                have GEX3 := Aside0.mk (Nat.le_trans HB.out.size hge)
                replace HB := Aside0.mk (below_step HB.out hE)
                have X3 := Aside0.mk hb
                clear hb hge hlt hE
                obtain ⟨w10, hs, hS⟩ := s_part (P := Tryd.prog) (t := 38) (l' := [.int .i64 y19, .int .i64 y20, .int .i64 y21, .int .i64 y22, .int .i64 y23, .int .i64 y24, .int .i64 y25, .int .i64 y26, .int .i64 y27, .int .i64 y28, .int .i64 y29, .int .i64 y30, .int .i64 y31]) X3.out 0 #[.int .i64 y19, .int .i64 y20, .int .i64 y21, .int .i64 y22, .int .i64 y23, .int .i64 y24, .int .i64 y25, .int .i64 y26, .int .i64 y27, .int .i64 y28, .int .i64 y29, .int .i64 y30, .int .i64 y31] rfl rfl feluccalaw04_DirectBack.sz38 rfl
                refine ss F66 (run_guard rfl) rfl (r_store rfl (F66.ev rfl) (F66.ev rfl) hs) ?_
                clear hs
                replace HB := Aside0.mk (HB.out.trans (hS.below _ GEX3.out))
                replace X3 := Aside0.mk hS.here
                clear hS
                refine sv (v := .int .i64 y32) F66 (run_guard rfl) rfl rfl (r_assign rfl (F66.ev rfl)) (fun ac67 F67 => ?_)
                clear F66 ac66
                refine c_end F67 ?_
                refine hK17 _ _ ?_
                refine wp_seq_k (fun K18 hK18 => ?_)
                refine wp_seq_k (fun K19 hK19 => ?_)
                refine wp_region_lit ?_
                refine sv (v := .int .i64 y32) F67 (run_guard rfl) rfl rfl (r_move rfl (F67.ev rfl)) (fun ac68 F68 => ?_)
                clear F67 ac67
                refine sv (v := .bool (!decide (y32 = 0))) F68 (run_guard rfl) rfl rfl (r_neq rfl (F68.ev rfl) ev_c) (fun ac69 F69 => ?_)
                clear F68 ac68
                refine c_end F69 ?_
                refine hK19 _ _ ?_
                cases hT8 : (!decide (y32 = 0)) with
                | true =>
                  replace h := cond_t hT8 h
                  refine wp_cond_true (F69.ev (lk rfl hT8)) ?_
                  refine wp_seq_k (fun K20 hK20 => ?_)
                  refine wp_region_lit ?_
                  refine sv (v := .bool y1) F69 (run_guard rfl) rfl rfl (r_move rfl (F69.ev rfl)) (fun ac70 F70 => ?_)
                  clear F69 ac69
                  refine sv (v := .bool y1) F70 (run_guard rfl) rfl rfl (r_move rfl (F70.ev rfl)) (fun ac71 F71 => ?_)
                  clear F70 ac70
                  cases hT9 : y1 with
                  | true =>
                    replace h := cond_t hT9 h
                    refine sv (v := .agg #[.int .i64 y19, .int .i64 y20, .int .i64 y21, .int .i64 y22, .int .i64 y23, .int .i64 y24, .int .i64 y25, .int .i64 y26, .int .i64 y27, .int .i64 y28, .int .i64 y29, .int .i64 y30, .int .i64 y31]) F71 (g_on F71 rfl rfl rfl (lk rfl hT9)) rfl rfl (r_load rfl (F71.ev rfl) (l_part X3.out 0 [.int .i64 y19, .int .i64 y20, .int .i64 y21, .int .i64 y22, .int .i64 y23, .int .i64 y24, .int .i64 y25, .int .i64 y26, .int .i64 y27, .int .i64 y28, .int .i64 y29, .int .i64 y30, .int .i64 y31] rfl Tryd.underlying38 rfl feluccalaw04_DirectBack.sz38)) (fun ac72 F72 => ?_)
                    clear F71 ac71
                    refine sv (v := .agg #[.int .i64 0, .int .i64 0, .int .i64 0, .int .i64 0, .int .i64 0, .int .i64 0, .int .i64 0, .int .i64 0, .int .i64 0, .int .i64 0, .int .i64 0, .int .i64 0, .int .i64 0]) F72 (g_on F72 rfl rfl rfl (lk rfl hT9)) rfl rfl (r_build rfl p0 (feluccalaw04_DirectBack.bld38_ _)) (fun ac73 F73 => ?_)
                    clear F72 ac72
                    refine sv (v := .bool (y19 == 0 && (y20 == 0 && ((y21 == 0 && (y22 == 0 && (y23 == 0 && (y24 == 0 && (y25 == 0 && (y26 == 0)))))) && ((y27 == 0 && (y28 == 0 && (y29 == 0 && (y30 == 0 && (y31 == 0)))))))))) F73 (g_on F73 rfl rfl rfl (lk rfl hT9)) rfl rfl (r_bin rfl (F73.ev rfl) (F73.ev rfl) (eqg_no feluccalaw04_DirectBack.eg38 _) (feluccalaw04_DirectBack.eq38 _ _ _ _ _ _ _ _ _ _ _ _ _ _ _ _ _ _ _ _ _ _ _ _ _ _ _)) (fun ac74 F74 => ?_)
                    clear F73 ac73
                    refine sv (v := .bool (y19 == 0 && (y20 == 0 && ((y21 == 0 && (y22 == 0 && (y23 == 0 && (y24 == 0 && (y25 == 0 && (y26 == 0)))))) && ((y27 == 0 && (y28 == 0 && (y29 == 0 && (y30 == 0 && (y31 == 0)))))))))) F74 (run_guard rfl) rfl rfl (r_pick_t rfl (F74.ev (lk rfl hT9)) (F74.ev rfl)) (fun ac75 F75 => ?_)
                    clear F74 ac74
                    refine sv (v := .bool (y19 == 0 && (y20 == 0 && ((y21 == 0 && (y22 == 0 && (y23 == 0 && (y24 == 0 && (y25 == 0 && (y26 == 0)))))) && ((y27 == 0 && (y28 == 0 && (y29 == 0 && (y30 == 0 && (y31 == 0)))))))))) F75 (run_guard rfl) rfl rfl (r_move rfl (F75.ev rfl)) (fun ac76 F76 => ?_)
                    clear F75 ac75
                    cases hT10 : (y19 == 0 && (y20 == 0 && ((y21 == 0 && (y22 == 0 && (y23 == 0 && (y24 == 0 && (y25 == 0 && (y26 == 0)))))) && ((y27 == 0 && (y28 == 0 && (y29 == 0 && (y30 == 0 && (y31 == 0))))))))) with
                    | true =>
                      replace h := cond_t hT10 h
                      refine sv (v := .int .i64 y32) F76 (g_on F76 rfl rfl rfl (lk rfl hT10)) rfl rfl (r_move rfl (F76.ev rfl)) (fun ac77 F77 => ?_)
                      clear F76 ac76
                      refine sv (v := .bool (decide (y32 = 2))) F77 (g_on F77 rfl rfl rfl (lk rfl hT10)) rfl rfl (r_eql rfl (F77.ev rfl) ev_c) (fun ac78 F78 => ?_)
                      clear F77 ac77
                      refine sv (v := .bool (decide (y32 = 2))) F78 (g_on F78 rfl rfl rfl (lk rfl hT10)) rfl rfl (r_move rfl (F78.ev rfl)) (fun ac79 F79 => ?_)
                      clear F78 ac78
                      cases hT11 : decide (y32 = 2) with
                      | true =>
                        replace h := cond_t hT11 h
                        refine so F79 (g_off F79 rfl rfl rfl (lk rfl hT11)) rfl rfl (fun ac80 F80 => ?_)
                        clear F79 ac79
                        refine so F80 (g_off F80 rfl rfl rfl (lk rfl hT11)) rfl rfl (fun ac81 F81 => ?_)
                        clear F80 ac80
                        refine sv (v := .bool true) F81 (g_on F81 rfl rfl rfl (lk rfl hT10)) rfl rfl (r_pick_t rfl (F81.ev (lk rfl hT11)) ev_c) (fun ac82 F82 => ?_)
                        clear F81 ac81
                        refine sv (v := .bool true) F82 (run_guard rfl) rfl rfl (r_pick_t rfl (F82.ev (lk rfl hT10)) (F82.ev rfl)) (fun ac83 F83 => ?_)
                        clear F82 ac82
                        refine sv (v := .bool true) F83 (run_guard rfl) rfl rfl (r_assign rfl (F83.ev rfl)) (fun ac84 F84 => ?_)
                        clear F83 ac83
                        refine c_end F84 ?_
                        refine hK20 _ _ ?_
                        refine wp_ret ?_
                        (try simp only [Exit.then, Exit.inBlock])
                        refine retx (fn := Tryd.f10) F84 (results1 (fn := Tryd.f10) rfl (rv_t (t := 4) (v := .bool true) F84 rfl)) ?_
                        cases h
                        exact ⟨rfl, HB.out⟩
                      | false =>
                        replace h := cond_f hT11 h
                        refine sv (v := .int .i64 y32) F79 (g_on F79 rfl rfl rfl (lk rfl hT11)) rfl rfl (r_move rfl (F79.ev rfl)) (fun ac85 F85 => ?_)
                        clear F79 ac79
                        refine sv (v := .bool (decide (y32 = 1))) F85 (g_on F85 rfl rfl rfl (lk rfl hT11)) rfl rfl (r_eql rfl (F85.ev rfl) ev_c) (fun ac86 F86 => ?_)
                        clear F85 ac85
                        refine sv (v := .bool (decide (y32 = 1))) F86 (g_on F86 rfl rfl rfl (lk rfl hT10)) rfl rfl (r_pick_f rfl (F86.ev (lk rfl hT11)) (F86.ev rfl)) (fun ac87 F87 => ?_)
                        clear F86 ac86
                        refine sv (v := .bool (decide (y32 = 1))) F87 (run_guard rfl) rfl rfl (r_pick_t rfl (F87.ev (lk rfl hT10)) (F87.ev rfl)) (fun ac88 F88 => ?_)
                        clear F87 ac87
                        refine sv (v := .bool (decide (y32 = 1))) F88 (run_guard rfl) rfl rfl (r_assign rfl (F88.ev rfl)) (fun ac89 F89 => ?_)
                        clear F88 ac88
                        refine c_end F89 ?_
                        refine hK20 _ _ ?_
                        refine wp_ret ?_
                        (try simp only [Exit.then, Exit.inBlock])
                        refine retx (fn := Tryd.f10) F89 (results1 (fn := Tryd.f10) rfl (rv_t (t := 4) (v := .bool (decide (y32 = 1))) F89 rfl)) ?_
                        cases h
                        exact ⟨rfl, HB.out⟩
                    | false =>
                      replace h := cond_f hT10 h
                      refine so F76 (g_off F76 rfl rfl rfl (lk rfl hT10)) rfl rfl (fun ac90 F90 => ?_)
                      clear F76 ac76
                      refine so F90 (g_off F90 rfl rfl rfl (lk rfl hT10)) rfl rfl (fun ac91 F91 => ?_)
                      clear F90 ac90
                      refine so F91 (g_off F91 rfl rfl rfl (lk rfl hT10)) rfl rfl (fun ac92 F92 => ?_)
                      clear F91 ac91
                      refine so F92 (g_none F92 rfl rfl rfl rfl) rfl rfl (fun ac93 F93 => ?_)
                      clear F92 ac92
                      refine so F93 (g_none F93 rfl rfl rfl rfl) rfl rfl (fun ac94 F94 => ?_)
                      clear F93 ac93
                      refine so F94 (g_off F94 rfl rfl rfl (lk rfl hT10)) rfl rfl (fun ac95 F95 => ?_)
                      clear F94 ac94
                      refine sv (v := .bool false) F95 (run_guard rfl) rfl rfl (r_pick_f rfl (F95.ev (lk rfl hT10)) ev_c) (fun ac96 F96 => ?_)
                      clear F95 ac95
                      refine sv (v := .bool false) F96 (run_guard rfl) rfl rfl (r_assign rfl (F96.ev rfl)) (fun ac97 F97 => ?_)
                      clear F96 ac96
                      refine c_end F97 ?_
                      refine hK20 _ _ ?_
                      refine wp_ret ?_
                      (try simp only [Exit.then, Exit.inBlock])
                      refine retx (fn := Tryd.f10) F97 (results1 (fn := Tryd.f10) rfl (rv_t (t := 4) (v := .bool false) F97 rfl)) ?_
                      cases h
                      exact ⟨rfl, HB.out⟩
                  | false =>
                    replace h := cond_f hT9 h
                    refine so F71 (g_off F71 rfl rfl rfl (lk rfl hT9)) rfl rfl (fun ac98 F98 => ?_)
                    clear F71 ac71
                    refine so F98 (g_off F98 rfl rfl rfl (lk rfl hT9)) rfl rfl (fun ac99 F99 => ?_)
                    clear F98 ac98
                    refine so F99 (g_off F99 rfl rfl rfl (lk rfl hT9)) rfl rfl (fun ac100 F100 => ?_)
                    clear F99 ac99
                    refine sv (v := .bool false) F100 (run_guard rfl) rfl rfl (r_pick_f rfl (F100.ev (lk rfl hT9)) ev_c) (fun ac101 F101 => ?_)
                    clear F100 ac100
                    refine sv (v := .bool false) F101 (run_guard rfl) rfl rfl (r_move rfl (F101.ev rfl)) (fun ac102 F102 => ?_)
                    clear F101 ac101
                    refine so F102 (g_off F102 rfl rfl rfl rfl) rfl rfl (fun ac103 F103 => ?_)
                    clear F102 ac102
                    refine so F103 (g_off F103 rfl rfl rfl rfl) rfl rfl (fun ac104 F104 => ?_)
                    clear F103 ac103
                    refine so F104 (g_off F104 rfl rfl rfl rfl) rfl rfl (fun ac105 F105 => ?_)
                    clear F104 ac104
                    refine so F105 (g_none F105 rfl rfl rfl rfl) rfl rfl (fun ac106 F106 => ?_)
                    clear F105 ac105
                    refine so F106 (g_none F106 rfl rfl rfl rfl) rfl rfl (fun ac107 F107 => ?_)
                    clear F106 ac106
                    refine so F107 (g_off F107 rfl rfl rfl rfl) rfl rfl (fun ac108 F108 => ?_)
                    clear F107 ac107
                    refine sv (v := .bool false) F108 (run_guard rfl) rfl rfl (r_pick_f rfl (F108.ev rfl) ev_c) (fun ac109 F109 => ?_)
                    clear F108 ac108
                    refine sv (v := .bool false) F109 (run_guard rfl) rfl rfl (r_assign rfl (F109.ev rfl)) (fun ac110 F110 => ?_)
                    clear F109 ac109
                    refine c_end F110 ?_
                    refine hK20 _ _ ?_
                    refine wp_ret ?_
                    (try simp only [Exit.then, Exit.inBlock])
                    refine retx (fn := Tryd.f10) F110 (results1 (fn := Tryd.f10) rfl (rv_t (t := 4) (v := .bool false) F110 rfl)) ?_
                    cases h
                    exact ⟨rfl, HB.out⟩
                | false =>
                  replace h := cond_f hT8 h
                  refine wp_cond_false (F69.ev (lk rfl hT8)) ?_
                  refine wp_skip ?_
                  refine hK18 _ _ ?_
                  refine wp_seq_k (fun K21 hK21 => ?_)
                  refine wp_region_lit ?_
                  refine sv (v := .agg #[.int .i64 y19, .int .i64 y20, .int .i64 y21, .int .i64 y22, .int .i64 y23, .int .i64 y24, .int .i64 y25, .int .i64 y26, .int .i64 y27, .int .i64 y28, .int .i64 y29, .int .i64 y30, .int .i64 y31]) F69 (run_guard rfl) rfl rfl (r_load rfl (F69.ev rfl) (l_part X3.out 0 [.int .i64 y19, .int .i64 y20, .int .i64 y21, .int .i64 y22, .int .i64 y23, .int .i64 y24, .int .i64 y25, .int .i64 y26, .int .i64 y27, .int .i64 y28, .int .i64 y29, .int .i64 y30, .int .i64 y31] rfl Tryd.underlying38 rfl feluccalaw04_DirectBack.sz38)) (fun ac111 F111 => ?_)
                  clear F69 ac69
                  replace h := Option.bind_eq_some_iff.1 h
                  obtain ⟨⟨y33, y34⟩, hy, h⟩ := h
                  refine sc F111 (run_guard rfl) rfl rfl (r_call rfl Tryd.func26 (by kernel_rfl) rfl rfl (m1 (F111.ev rfl))) ?_
                  refine (direct_Words.calls k y19 y20 y21 y22 y23 y24 y25 y26 y27 y28 y29 y30 y31 _ _ _ (TabP.below XTabP.out HB.out) hy).mono ?_
                  rintro e w11 ⟨v2, rfl, hR0, hE⟩
                  clear hy
                  replace hR0 := Kd.R_lower hR0 HB.out.size
                  replace X3 := Aside0.mk (blk_below X3.out hE)
                  replace HB := Aside0.mk (below_step HB.out hE)
                  obtain ⟨Aq2, cq2, rfl⟩ := Kd.R_slice hR0
                  have R2 := Aside0.mk hR0
                  clear hR0
                  refine ⟨_, rfl, fun ac112 F112 => ?_⟩
                  clear hE F111 ac111
                  refine sv (v := .tuple #[.slice Aq2 y33.length cq2, .bool y34]) F112 (run_guard rfl) rfl rfl (r_move rfl (F112.ev rfl)) (fun ac113 F113 => ?_)
                  clear F112 ac112
                  refine sv (v := .slice Aq2 y33.length cq2) F113 (run_guard rfl) rfl rfl (r_extract rfl (F113.ev rfl) rfl) (fun ac114 F114 => ?_)
                  clear F113 ac113
                  refine sv (v := .bool y34) F114 (run_guard rfl) rfl rfl (r_extract rfl (F114.ev rfl) rfl) (fun ac115 F115 => ?_)
                  clear F114 ac114
                  refine sv (v := .slice Aq2 y33.length cq2) F115 (run_guard rfl) rfl rfl (r_assign rfl (F115.ev rfl)) (fun ac116 F116 => ?_)
                  clear F115 ac115
                  refine sv (v := .bool y34) F116 (run_guard rfl) rfl rfl (r_assign rfl (F116.ev rfl)) (fun ac117 F117 => ?_)
                  clear F116 ac116
                  refine c_end F117 ?_
                  refine hK21 _ _ ?_
                  refine wp_seq_k (fun K22 hK22 => ?_)
                  refine wp_region_lit ?_
                  refine sv (v := .bool y1) F117 (run_guard rfl) rfl rfl (r_move rfl (F117.ev rfl)) (fun ac118 F118 => ?_)
                  clear F117 ac117
                  refine sv (v := .bool y1) F118 (run_guard rfl) rfl rfl (r_move rfl (F118.ev rfl)) (fun ac119 F119 => ?_)
                  clear F118 ac118
                  cases hT12 : y1 with
                  | true =>
                    replace h := cond_t hT12 h
                    refine sv (v := .bool y34) F119 (g_on F119 rfl rfl rfl (lk rfl hT12)) rfl rfl (r_move rfl (F119.ev rfl)) (fun ac120 F120 => ?_)
                    clear F119 ac119
                    refine sv (v := .bool y34) F120 (run_guard rfl) rfl rfl (r_pick_t rfl (F120.ev (lk rfl hT12)) (F120.ev rfl)) (fun ac121 F121 => ?_)
                    clear F120 ac120
                    refine sv (v := .bool y34) F121 (run_guard rfl) rfl rfl (r_move rfl (F121.ev rfl)) (fun ac122 F122 => ?_)
                    clear F121 ac121
                    cases hT13 : y34 with
                    | true =>
                      replace h := cond_t hT13 h
                      refine sv (v := .slice Aq2 y33.length cq2) F122 (g_on F122 rfl rfl rfl (lk rfl hT13)) rfl rfl (r_move rfl (F122.ev rfl)) (fun ac123 F123 => ?_)
                      clear F122 ac122
                      refine sv (v := .slice A1 l1.length c1) F123 (g_on F123 rfl rfl rfl (lk rfl hT13)) rfl rfl (r_move rfl (F123.ev rfl)) (fun ac124 F124 => ?_)
                      clear F123 ac123
                      replace h := Option.bind_eq_some_iff.1 h
                      obtain ⟨y35, hy, h⟩ := h
                      refine sc F124 (g_on F124 rfl rfl rfl (lk rfl hT13)) rfl rfl (r_call rfl Tryd.func32 (by kernel_rfl) rfl rfl (m2 (F124.ev rfl) (F124.ev rfl))) ?_
                      refine (feluccaref02_Same.calls k Aq2 cq2 y33 A1 c1 l1 _ _ (Kd.R_reads' R2.out).2.2 (Kd.R_reads' R2.out).2.1 (Kd.C_below HR1.out HB.out) HC1.out hy).mono ?_
                      rintro e w12 ⟨rfl, hE⟩
                      clear hy
                      replace X3 := Aside0.mk (blk_below X3.out hE)
                      replace R2 := Aside0.mk (Kd.R_below R2.out hE)
                      replace HB := Aside0.mk (below_step HB.out hE)
                      refine ⟨_, rfl, fun ac125 F125 => ?_⟩
                      clear hE F124 ac124
                      refine sv (v := .bool y35) F125 (run_guard rfl) rfl rfl (r_pick_t rfl (F125.ev (lk rfl hT13)) (F125.ev rfl)) (fun ac126 F126 => ?_)
                      clear F125 ac125
                      refine sv (v := .bool y35) F126 (run_guard rfl) rfl rfl (r_move rfl (F126.ev rfl)) (fun ac127 F127 => ?_)
                      clear F126 ac126
                      cases hT14 : y35 with
                      | true =>
                        replace h := cond_t hT14 h
                        refine sv (v := .agg #[.int .i64 y19, .int .i64 y20, .int .i64 y21, .int .i64 y22, .int .i64 y23, .int .i64 y24, .int .i64 y25, .int .i64 y26, .int .i64 y27, .int .i64 y28, .int .i64 y29, .int .i64 y30, .int .i64 y31]) F127 (g_on F127 rfl rfl rfl (lk rfl hT14)) rfl rfl (r_load rfl (F127.ev rfl) (l_part X3.out 0 [.int .i64 y19, .int .i64 y20, .int .i64 y21, .int .i64 y22, .int .i64 y23, .int .i64 y24, .int .i64 y25, .int .i64 y26, .int .i64 y27, .int .i64 y28, .int .i64 y29, .int .i64 y30, .int .i64 y31] rfl Tryd.underlying38 rfl feluccalaw04_DirectBack.sz38)) (fun ac128 F128 => ?_)
                        clear F127 ac127
                        replace h := Option.bind_eq_some_iff.1 h
                        obtain ⟨y36, hy, h⟩ := h
                        refine sc F128 (g_on F128 rfl rfl rfl (lk rfl hT14)) rfl rfl (r_call rfl Tryd.func30 (by kernel_rfl) rfl rfl (m1 (F128.ev rfl))) ?_
                        refine (direct_Right.calls y19 y20 y21 y22 y23 y24 y25 y26 y27 y28 y29 y30 y31 _ _ hy).mono ?_
                        rintro e w13 ⟨rfl, hE⟩
                        clear hy
                        replace X3 := Aside0.mk (blk_below X3.out hE)
                        replace R2 := Aside0.mk (Kd.R_below R2.out hE)
                        replace HB := Aside0.mk (below_step HB.out hE)
                        refine ⟨_, rfl, fun ac129 F129 => ?_⟩
                        clear hE F128 ac128
                        refine sv (v := .bool y36) F129 (run_guard rfl) rfl rfl (r_pick_t rfl (F129.ev (lk rfl hT14)) (F129.ev rfl)) (fun ac130 F130 => ?_)
                        clear F129 ac129
                        refine sv (v := .bool y36) F130 (run_guard rfl) rfl rfl (r_assign rfl (F130.ev rfl)) (fun ac131 F131 => ?_)
                        clear F130 ac130
                        refine c_end F131 ?_
                        refine hK22 _ _ ?_
                        refine wp_ret ?_
                        (try simp only [Exit.then, Exit.inBlock])
                        refine retx (fn := Tryd.f10) F131 (results1 (fn := Tryd.f10) rfl (rv_t (t := 4) (v := .bool y36) F131 rfl)) ?_
                        cases h
                        exact ⟨rfl, HB.out⟩
                      | false =>
                        replace h := cond_f hT14 h
                        refine so F127 (g_off F127 rfl rfl rfl (lk rfl hT14)) rfl rfl (fun ac132 F132 => ?_)
                        clear F127 ac127
                        refine so F132 (g_off F132 rfl rfl rfl (lk rfl hT14)) rfl rfl (fun ac133 F133 => ?_)
                        clear F132 ac132
                        refine sv (v := .bool false) F133 (run_guard rfl) rfl rfl (r_pick_f rfl (F133.ev (lk rfl hT14)) ev_c) (fun ac134 F134 => ?_)
                        clear F133 ac133
                        refine sv (v := .bool false) F134 (run_guard rfl) rfl rfl (r_assign rfl (F134.ev rfl)) (fun ac135 F135 => ?_)
                        clear F134 ac134
                        refine c_end F135 ?_
                        refine hK22 _ _ ?_
                        refine wp_ret ?_
                        (try simp only [Exit.then, Exit.inBlock])
                        refine retx (fn := Tryd.f10) F135 (results1 (fn := Tryd.f10) rfl (rv_t (t := 4) (v := .bool false) F135 rfl)) ?_
                        cases h
                        exact ⟨rfl, HB.out⟩
                    | false =>
                      replace h := cond_f hT13 h
                      refine so F122 (g_off F122 rfl rfl rfl (lk rfl hT13)) rfl rfl (fun ac136 F136 => ?_)
                      clear F122 ac122
                      refine so F136 (g_off F136 rfl rfl rfl (lk rfl hT13)) rfl rfl (fun ac137 F137 => ?_)
                      clear F136 ac136
                      refine so F137 (g_off F137 rfl rfl rfl (lk rfl hT13)) rfl rfl (fun ac138 F138 => ?_)
                      clear F137 ac137
                      refine sv (v := .bool false) F138 (run_guard rfl) rfl rfl (r_pick_f rfl (F138.ev (lk rfl hT13)) ev_c) (fun ac139 F139 => ?_)
                      clear F138 ac138
                      refine sv (v := .bool false) F139 (run_guard rfl) rfl rfl (r_move rfl (F139.ev rfl)) (fun ac140 F140 => ?_)
                      clear F139 ac139
                      refine so F140 (g_off F140 rfl rfl rfl rfl) rfl rfl (fun ac141 F141 => ?_)
                      clear F140 ac140
                      refine so F141 (g_off F141 rfl rfl rfl rfl) rfl rfl (fun ac142 F142 => ?_)
                      clear F141 ac141
                      refine sv (v := .bool false) F142 (run_guard rfl) rfl rfl (r_pick_f rfl (F142.ev rfl) ev_c) (fun ac143 F143 => ?_)
                      clear F142 ac142
                      refine sv (v := .bool false) F143 (run_guard rfl) rfl rfl (r_assign rfl (F143.ev rfl)) (fun ac144 F144 => ?_)
                      clear F143 ac143
                      refine c_end F144 ?_
                      refine hK22 _ _ ?_
                      refine wp_ret ?_
                      (try simp only [Exit.then, Exit.inBlock])
                      refine retx (fn := Tryd.f10) F144 (results1 (fn := Tryd.f10) rfl (rv_t (t := 4) (v := .bool false) F144 rfl)) ?_
                      cases h
                      exact ⟨rfl, HB.out⟩
                  | false =>
                    replace h := cond_f hT12 h
                    refine so F119 (g_off F119 rfl rfl rfl (lk rfl hT12)) rfl rfl (fun ac145 F145 => ?_)
                    clear F119 ac119
                    refine sv (v := .bool false) F145 (run_guard rfl) rfl rfl (r_pick_f rfl (F145.ev (lk rfl hT12)) ev_c) (fun ac146 F146 => ?_)
                    clear F145 ac145
                    refine sv (v := .bool false) F146 (run_guard rfl) rfl rfl (r_move rfl (F146.ev rfl)) (fun ac147 F147 => ?_)
                    clear F146 ac146
                    refine so F147 (g_off F147 rfl rfl rfl rfl) rfl rfl (fun ac148 F148 => ?_)
                    clear F147 ac147
                    refine so F148 (g_off F148 rfl rfl rfl rfl) rfl rfl (fun ac149 F149 => ?_)
                    clear F148 ac148
                    refine so F149 (g_off F149 rfl rfl rfl rfl) rfl rfl (fun ac150 F150 => ?_)
                    clear F149 ac149
                    refine sv (v := .bool false) F150 (run_guard rfl) rfl rfl (r_pick_f rfl (F150.ev rfl) ev_c) (fun ac151 F151 => ?_)
                    clear F150 ac150
                    refine sv (v := .bool false) F151 (run_guard rfl) rfl rfl (r_move rfl (F151.ev rfl)) (fun ac152 F152 => ?_)
                    clear F151 ac151
                    refine so F152 (g_off F152 rfl rfl rfl rfl) rfl rfl (fun ac153 F153 => ?_)
                    clear F152 ac152
                    refine so F153 (g_off F153 rfl rfl rfl rfl) rfl rfl (fun ac154 F154 => ?_)
                    clear F153 ac153
                    refine sv (v := .bool false) F154 (run_guard rfl) rfl rfl (r_pick_f rfl (F154.ev rfl) ev_c) (fun ac155 F155 => ?_)
                    clear F154 ac154
                    refine sv (v := .bool false) F155 (run_guard rfl) rfl rfl (r_assign rfl (F155.ev rfl)) (fun ac156 F156 => ?_)
                    clear F155 ac155
                    refine c_end F156 ?_
                    refine hK22 _ _ ?_
                    refine wp_ret ?_
                    (try simp only [Exit.then, Exit.inBlock])
                    refine retx (fn := Tryd.f10) F156 (results1 (fn := Tryd.f10) rfl (rv_t (t := 4) (v := .bool false) F156 rfl)) ?_
                    cases h
                    exact ⟨rfl, HB.out⟩
          | false =>
            replace h := cond_f hT5 h
            refine wp_cond_false (F40.ev (lk rfl hT5)) ?_
            refine wp_skip ?_
            refine hK11 _ _ ?_
            refine wp_seq_k (fun K23 hK23 => ?_)
            clear X1 R1
            refine wp_region_lit ?_
            refine sv (v := .slice A1 l1.length c1) F40 (run_guard rfl) rfl rfl (r_move rfl (F40.ev rfl)) (fun ac157 F157 => ?_)
            clear F40 ac40
            replace h := Option.bind_eq_some_iff.1 h
            obtain ⟨⟨y37, y38, y39, y40, y41, y42, y43, y44, y45, y46, y47, y48, y49, y50⟩, hy, h⟩ := h
            refine sc F157 (run_guard rfl) rfl rfl (r_call rfl Tryd.func28 (by kernel_rfl) rfl rfl (m1 (F157.ev rfl))) ?_
            refine (direct_Parse.calls k A1 c1 l1 _ _ _ _ _ _ _ _ _ _ _ _ _ _ _ (Kd.C_below HR1.out HB.out) HC1.out hy).mono ?_
            rintro e w14 ⟨rfl, hE⟩
            clear hy
            replace HB := Aside0.mk (below_step HB.out hE)
            refine ⟨_, rfl, fun ac158 F158 => ?_⟩
            clear hE F157 ac157
            refine sv (v := .tuple #[.agg #[.int .i64 y37, .int .i64 y38, .int .i64 y39, .int .i64 y40, .int .i64 y41, .int .i64 y42, .int .i64 y43, .int .i64 y44, .int .i64 y45, .int .i64 y46, .int .i64 y47, .int .i64 y48, .int .i64 y49], .int .i64 y50]) F158 (run_guard rfl) rfl rfl (r_move rfl (F158.ev rfl)) (fun ac159 F159 => ?_)
            clear F158 ac158
            refine sv (v := .agg #[.int .i64 y37, .int .i64 y38, .int .i64 y39, .int .i64 y40, .int .i64 y41, .int .i64 y42, .int .i64 y43, .int .i64 y44, .int .i64 y45, .int .i64 y46, .int .i64 y47, .int .i64 y48, .int .i64 y49]) F159 (run_guard rfl) rfl rfl (r_extract rfl (F159.ev rfl) rfl) (fun ac160 F160 => ?_)
            clear F159 ac159
            refine sv (v := .int .i64 y50) F160 (run_guard rfl) rfl rfl (r_extract rfl (F160.ev rfl) rfl) (fun ac161 F161 => ?_)
            clear F160 ac160
            refine s_new (cs := #[.int .i64 0, .int .i64 0, .int .i64 0, .int .i64 0, .int .i64 0, .int .i64 0, .int .i64 0, .int .i64 0, .int .i64 0, .int .i64 0, .int .i64 0, .int .i64 0, .int .i64 0]) F161 (run_guard rfl) rfl rfl (r_alloc rfl (feluccalaw04_DirectBack.zv38 _) rfl) (fun ac162 w15 b4 hb hge hlt hE F162 => ?_)
            clear F161 ac161
            have GEX4 := Aside0.mk (Nat.le_trans HB.out.size hge)
            replace HB := Aside0.mk (below_step HB.out hE)
            have X4 := Aside0.mk hb
            clear hb hge hlt hE
            obtain ⟨w16, hs, hS⟩ := s_part (P := Tryd.prog) (t := 38) (l' := [.int .i64 y37, .int .i64 y38, .int .i64 y39, .int .i64 y40, .int .i64 y41, .int .i64 y42, .int .i64 y43, .int .i64 y44, .int .i64 y45, .int .i64 y46, .int .i64 y47, .int .i64 y48, .int .i64 y49]) X4.out 0 #[.int .i64 y37, .int .i64 y38, .int .i64 y39, .int .i64 y40, .int .i64 y41, .int .i64 y42, .int .i64 y43, .int .i64 y44, .int .i64 y45, .int .i64 y46, .int .i64 y47, .int .i64 y48, .int .i64 y49] rfl rfl feluccalaw04_DirectBack.sz38 rfl
            refine ss F162 (run_guard rfl) rfl (r_store rfl (F162.ev rfl) (F162.ev rfl) hs) ?_
            clear hs
            replace HB := Aside0.mk (HB.out.trans (hS.below _ GEX4.out))
            replace X4 := Aside0.mk hS.here
            clear hS
            refine sv (v := .int .i64 y50) F162 (run_guard rfl) rfl rfl (r_assign rfl (F162.ev rfl)) (fun ac163 F163 => ?_)
            clear F162 ac162
            refine c_end F163 ?_
            refine hK23 _ _ ?_
            refine wp_seq_k (fun K24 hK24 => ?_)
            refine wp_seq_k (fun K25 hK25 => ?_)
            refine wp_region_lit ?_
            refine sv (v := .int .i64 y50) F163 (run_guard rfl) rfl rfl (r_move rfl (F163.ev rfl)) (fun ac164 F164 => ?_)
            clear F163 ac163
            refine sv (v := .bool (!decide (y50 = 0))) F164 (run_guard rfl) rfl rfl (r_neq rfl (F164.ev rfl) ev_c) (fun ac165 F165 => ?_)
            clear F164 ac164
            refine c_end F165 ?_
            refine hK25 _ _ ?_
            cases hT15 : (!decide (y50 = 0)) with
            | true =>
              replace h := cond_t hT15 h
              refine wp_cond_true (F165.ev (lk rfl hT15)) ?_
              refine wp_seq_k (fun K26 hK26 => ?_)
              refine wp_region_lit ?_
              refine sv (v := .bool y1) F165 (run_guard rfl) rfl rfl (r_move rfl (F165.ev rfl)) (fun ac166 F166 => ?_)
              clear F165 ac165
              refine sv (v := .bool y1) F166 (run_guard rfl) rfl rfl (r_move rfl (F166.ev rfl)) (fun ac167 F167 => ?_)
              clear F166 ac166
              cases hT16 : y1 with
              | true =>
                replace h := cond_t hT16 h
                refine sv (v := .agg #[.int .i64 y37, .int .i64 y38, .int .i64 y39, .int .i64 y40, .int .i64 y41, .int .i64 y42, .int .i64 y43, .int .i64 y44, .int .i64 y45, .int .i64 y46, .int .i64 y47, .int .i64 y48, .int .i64 y49]) F167 (g_on F167 rfl rfl rfl (lk rfl hT16)) rfl rfl (r_load rfl (F167.ev rfl) (l_part X4.out 0 [.int .i64 y37, .int .i64 y38, .int .i64 y39, .int .i64 y40, .int .i64 y41, .int .i64 y42, .int .i64 y43, .int .i64 y44, .int .i64 y45, .int .i64 y46, .int .i64 y47, .int .i64 y48, .int .i64 y49] rfl Tryd.underlying38 rfl feluccalaw04_DirectBack.sz38)) (fun ac168 F168 => ?_)
                clear F167 ac167
                refine sv (v := .agg #[.int .i64 0, .int .i64 0, .int .i64 0, .int .i64 0, .int .i64 0, .int .i64 0, .int .i64 0, .int .i64 0, .int .i64 0, .int .i64 0, .int .i64 0, .int .i64 0, .int .i64 0]) F168 (g_on F168 rfl rfl rfl (lk rfl hT16)) rfl rfl (r_build rfl p0 (feluccalaw04_DirectBack.bld38_ _)) (fun ac169 F169 => ?_)
                clear F168 ac168
                refine sv (v := .bool (y37 == 0 && (y38 == 0 && ((y39 == 0 && (y40 == 0 && (y41 == 0 && (y42 == 0 && (y43 == 0 && (y44 == 0)))))) && ((y45 == 0 && (y46 == 0 && (y47 == 0 && (y48 == 0 && (y49 == 0)))))))))) F169 (g_on F169 rfl rfl rfl (lk rfl hT16)) rfl rfl (r_bin rfl (F169.ev rfl) (F169.ev rfl) (eqg_no feluccalaw04_DirectBack.eg38 _) (feluccalaw04_DirectBack.eq38 _ _ _ _ _ _ _ _ _ _ _ _ _ _ _ _ _ _ _ _ _ _ _ _ _ _ _)) (fun ac170 F170 => ?_)
                clear F169 ac169
                refine sv (v := .bool (y37 == 0 && (y38 == 0 && ((y39 == 0 && (y40 == 0 && (y41 == 0 && (y42 == 0 && (y43 == 0 && (y44 == 0)))))) && ((y45 == 0 && (y46 == 0 && (y47 == 0 && (y48 == 0 && (y49 == 0)))))))))) F170 (run_guard rfl) rfl rfl (r_pick_t rfl (F170.ev (lk rfl hT16)) (F170.ev rfl)) (fun ac171 F171 => ?_)
                clear F170 ac170
                refine sv (v := .bool (y37 == 0 && (y38 == 0 && ((y39 == 0 && (y40 == 0 && (y41 == 0 && (y42 == 0 && (y43 == 0 && (y44 == 0)))))) && ((y45 == 0 && (y46 == 0 && (y47 == 0 && (y48 == 0 && (y49 == 0)))))))))) F171 (run_guard rfl) rfl rfl (r_move rfl (F171.ev rfl)) (fun ac172 F172 => ?_)
                clear F171 ac171
                cases hT17 : (y37 == 0 && (y38 == 0 && ((y39 == 0 && (y40 == 0 && (y41 == 0 && (y42 == 0 && (y43 == 0 && (y44 == 0)))))) && ((y45 == 0 && (y46 == 0 && (y47 == 0 && (y48 == 0 && (y49 == 0))))))))) with
                | true =>
                  replace h := cond_t hT17 h
                  refine sv (v := .int .i64 y50) F172 (g_on F172 rfl rfl rfl (lk rfl hT17)) rfl rfl (r_move rfl (F172.ev rfl)) (fun ac173 F173 => ?_)
                  clear F172 ac172
                  refine sv (v := .bool (decide (y50 = 2))) F173 (g_on F173 rfl rfl rfl (lk rfl hT17)) rfl rfl (r_eql rfl (F173.ev rfl) ev_c) (fun ac174 F174 => ?_)
                  clear F173 ac173
                  refine sv (v := .bool (decide (y50 = 2))) F174 (g_on F174 rfl rfl rfl (lk rfl hT17)) rfl rfl (r_move rfl (F174.ev rfl)) (fun ac175 F175 => ?_)
                  clear F174 ac174
                  cases hT18 : decide (y50 = 2) with
                  | true =>
                    replace h := cond_t hT18 h
                    refine so F175 (g_off F175 rfl rfl rfl (lk rfl hT18)) rfl rfl (fun ac176 F176 => ?_)
                    clear F175 ac175
                    refine so F176 (g_off F176 rfl rfl rfl (lk rfl hT18)) rfl rfl (fun ac177 F177 => ?_)
                    clear F176 ac176
                    refine sv (v := .bool true) F177 (g_on F177 rfl rfl rfl (lk rfl hT17)) rfl rfl (r_pick_t rfl (F177.ev (lk rfl hT18)) ev_c) (fun ac178 F178 => ?_)
                    clear F177 ac177
                    refine sv (v := .bool true) F178 (run_guard rfl) rfl rfl (r_pick_t rfl (F178.ev (lk rfl hT17)) (F178.ev rfl)) (fun ac179 F179 => ?_)
                    clear F178 ac178
                    refine sv (v := .bool true) F179 (run_guard rfl) rfl rfl (r_assign rfl (F179.ev rfl)) (fun ac180 F180 => ?_)
                    clear F179 ac179
                    refine c_end F180 ?_
                    refine hK26 _ _ ?_
                    refine wp_ret ?_
                    (try simp only [Exit.then, Exit.inBlock])
                    refine retx (fn := Tryd.f10) F180 (results1 (fn := Tryd.f10) rfl (rv_t (t := 4) (v := .bool true) F180 rfl)) ?_
                    cases h
                    exact ⟨rfl, HB.out⟩
                  | false =>
                    replace h := cond_f hT18 h
                    refine sv (v := .int .i64 y50) F175 (g_on F175 rfl rfl rfl (lk rfl hT18)) rfl rfl (r_move rfl (F175.ev rfl)) (fun ac181 F181 => ?_)
                    clear F175 ac175
                    refine sv (v := .bool (decide (y50 = 1))) F181 (g_on F181 rfl rfl rfl (lk rfl hT18)) rfl rfl (r_eql rfl (F181.ev rfl) ev_c) (fun ac182 F182 => ?_)
                    clear F181 ac181
                    refine sv (v := .bool (decide (y50 = 1))) F182 (g_on F182 rfl rfl rfl (lk rfl hT17)) rfl rfl (r_pick_f rfl (F182.ev (lk rfl hT18)) (F182.ev rfl)) (fun ac183 F183 => ?_)
                    clear F182 ac182
                    refine sv (v := .bool (decide (y50 = 1))) F183 (run_guard rfl) rfl rfl (r_pick_t rfl (F183.ev (lk rfl hT17)) (F183.ev rfl)) (fun ac184 F184 => ?_)
                    clear F183 ac183
                    refine sv (v := .bool (decide (y50 = 1))) F184 (run_guard rfl) rfl rfl (r_assign rfl (F184.ev rfl)) (fun ac185 F185 => ?_)
                    clear F184 ac184
                    refine c_end F185 ?_
                    refine hK26 _ _ ?_
                    refine wp_ret ?_
                    (try simp only [Exit.then, Exit.inBlock])
                    refine retx (fn := Tryd.f10) F185 (results1 (fn := Tryd.f10) rfl (rv_t (t := 4) (v := .bool (decide (y50 = 1))) F185 rfl)) ?_
                    cases h
                    exact ⟨rfl, HB.out⟩
                | false =>
                  replace h := cond_f hT17 h
                  refine so F172 (g_off F172 rfl rfl rfl (lk rfl hT17)) rfl rfl (fun ac186 F186 => ?_)
                  clear F172 ac172
                  refine so F186 (g_off F186 rfl rfl rfl (lk rfl hT17)) rfl rfl (fun ac187 F187 => ?_)
                  clear F186 ac186
                  refine so F187 (g_off F187 rfl rfl rfl (lk rfl hT17)) rfl rfl (fun ac188 F188 => ?_)
                  clear F187 ac187
                  refine so F188 (g_none F188 rfl rfl rfl rfl) rfl rfl (fun ac189 F189 => ?_)
                  clear F188 ac188
                  refine so F189 (g_none F189 rfl rfl rfl rfl) rfl rfl (fun ac190 F190 => ?_)
                  clear F189 ac189
                  refine so F190 (g_off F190 rfl rfl rfl (lk rfl hT17)) rfl rfl (fun ac191 F191 => ?_)
                  clear F190 ac190
                  refine sv (v := .bool false) F191 (run_guard rfl) rfl rfl (r_pick_f rfl (F191.ev (lk rfl hT17)) ev_c) (fun ac192 F192 => ?_)
                  clear F191 ac191
                  refine sv (v := .bool false) F192 (run_guard rfl) rfl rfl (r_assign rfl (F192.ev rfl)) (fun ac193 F193 => ?_)
                  clear F192 ac192
                  refine c_end F193 ?_
                  refine hK26 _ _ ?_
                  refine wp_ret ?_
                  (try simp only [Exit.then, Exit.inBlock])
                  refine retx (fn := Tryd.f10) F193 (results1 (fn := Tryd.f10) rfl (rv_t (t := 4) (v := .bool false) F193 rfl)) ?_
                  cases h
                  exact ⟨rfl, HB.out⟩
              | false =>
                replace h := cond_f hT16 h
                refine so F167 (g_off F167 rfl rfl rfl (lk rfl hT16)) rfl rfl (fun ac194 F194 => ?_)
                clear F167 ac167
                refine so F194 (g_off F194 rfl rfl rfl (lk rfl hT16)) rfl rfl (fun ac195 F195 => ?_)
                clear F194 ac194
                refine so F195 (g_off F195 rfl rfl rfl (lk rfl hT16)) rfl rfl (fun ac196 F196 => ?_)
                clear F195 ac195
                refine sv (v := .bool false) F196 (run_guard rfl) rfl rfl (r_pick_f rfl (F196.ev (lk rfl hT16)) ev_c) (fun ac197 F197 => ?_)
                clear F196 ac196
                refine sv (v := .bool false) F197 (run_guard rfl) rfl rfl (r_move rfl (F197.ev rfl)) (fun ac198 F198 => ?_)
                clear F197 ac197
                refine so F198 (g_off F198 rfl rfl rfl rfl) rfl rfl (fun ac199 F199 => ?_)
                clear F198 ac198
                refine so F199 (g_off F199 rfl rfl rfl rfl) rfl rfl (fun ac200 F200 => ?_)
                clear F199 ac199
                refine so F200 (g_off F200 rfl rfl rfl rfl) rfl rfl (fun ac201 F201 => ?_)
                clear F200 ac200
                refine so F201 (g_none F201 rfl rfl rfl rfl) rfl rfl (fun ac202 F202 => ?_)
                clear F201 ac201
                refine so F202 (g_none F202 rfl rfl rfl rfl) rfl rfl (fun ac203 F203 => ?_)
                clear F202 ac202
                refine so F203 (g_off F203 rfl rfl rfl rfl) rfl rfl (fun ac204 F204 => ?_)
                clear F203 ac203
                refine sv (v := .bool false) F204 (run_guard rfl) rfl rfl (r_pick_f rfl (F204.ev rfl) ev_c) (fun ac205 F205 => ?_)
                clear F204 ac204
                refine sv (v := .bool false) F205 (run_guard rfl) rfl rfl (r_assign rfl (F205.ev rfl)) (fun ac206 F206 => ?_)
                clear F205 ac205
                refine c_end F206 ?_
                refine hK26 _ _ ?_
                refine wp_ret ?_
                (try simp only [Exit.then, Exit.inBlock])
                refine retx (fn := Tryd.f10) F206 (results1 (fn := Tryd.f10) rfl (rv_t (t := 4) (v := .bool false) F206 rfl)) ?_
                cases h
                exact ⟨rfl, HB.out⟩
            | false =>
              replace h := cond_f hT15 h
              refine wp_cond_false (F165.ev (lk rfl hT15)) ?_
              refine wp_skip ?_
              refine hK24 _ _ ?_
              refine wp_seq_k (fun K27 hK27 => ?_)
              refine wp_region_lit ?_
              refine sv (v := .agg #[.int .i64 y37, .int .i64 y38, .int .i64 y39, .int .i64 y40, .int .i64 y41, .int .i64 y42, .int .i64 y43, .int .i64 y44, .int .i64 y45, .int .i64 y46, .int .i64 y47, .int .i64 y48, .int .i64 y49]) F165 (run_guard rfl) rfl rfl (r_load rfl (F165.ev rfl) (l_part X4.out 0 [.int .i64 y37, .int .i64 y38, .int .i64 y39, .int .i64 y40, .int .i64 y41, .int .i64 y42, .int .i64 y43, .int .i64 y44, .int .i64 y45, .int .i64 y46, .int .i64 y47, .int .i64 y48, .int .i64 y49] rfl Tryd.underlying38 rfl feluccalaw04_DirectBack.sz38)) (fun ac207 F207 => ?_)
              clear F165 ac165
              replace h := Option.bind_eq_some_iff.1 h
              obtain ⟨⟨y51, y52⟩, hy, h⟩ := h
              refine sc F207 (run_guard rfl) rfl rfl (r_call rfl Tryd.func26 (by kernel_rfl) rfl rfl (m1 (F207.ev rfl))) ?_
              refine (direct_Words.calls k y37 y38 y39 y40 y41 y42 y43 y44 y45 y46 y47 y48 y49 _ _ _ (TabP.below XTabP.out HB.out) hy).mono ?_
              rintro e w17 ⟨v3, rfl, hR0, hE⟩
              clear hy
              replace hR0 := Kd.R_lower hR0 HB.out.size
              replace X4 := Aside0.mk (blk_below X4.out hE)
              replace HB := Aside0.mk (below_step HB.out hE)
              obtain ⟨Aq3, cq3, rfl⟩ := Kd.R_slice hR0
              have R3 := Aside0.mk hR0
              clear hR0
              refine ⟨_, rfl, fun ac208 F208 => ?_⟩
              clear hE F207 ac207
              refine sv (v := .tuple #[.slice Aq3 y51.length cq3, .bool y52]) F208 (run_guard rfl) rfl rfl (r_move rfl (F208.ev rfl)) (fun ac209 F209 => ?_)
              clear F208 ac208
              refine sv (v := .slice Aq3 y51.length cq3) F209 (run_guard rfl) rfl rfl (r_extract rfl (F209.ev rfl) rfl) (fun ac210 F210 => ?_)
              clear F209 ac209
              refine sv (v := .bool y52) F210 (run_guard rfl) rfl rfl (r_extract rfl (F210.ev rfl) rfl) (fun ac211 F211 => ?_)
              clear F210 ac210
              refine sv (v := .slice Aq3 y51.length cq3) F211 (run_guard rfl) rfl rfl (r_assign rfl (F211.ev rfl)) (fun ac212 F212 => ?_)
              clear F211 ac211
              refine sv (v := .bool y52) F212 (run_guard rfl) rfl rfl (r_assign rfl (F212.ev rfl)) (fun ac213 F213 => ?_)
              clear F212 ac212
              refine c_end F213 ?_
              refine hK27 _ _ ?_
              refine wp_seq_k (fun K28 hK28 => ?_)
              refine wp_region_lit ?_
              refine sv (v := .bool y1) F213 (run_guard rfl) rfl rfl (r_move rfl (F213.ev rfl)) (fun ac214 F214 => ?_)
              clear F213 ac213
              refine sv (v := .bool y1) F214 (run_guard rfl) rfl rfl (r_move rfl (F214.ev rfl)) (fun ac215 F215 => ?_)
              clear F214 ac214
              cases hT19 : y1 with
              | true =>
                replace h := cond_t hT19 h
                refine sv (v := .bool y52) F215 (g_on F215 rfl rfl rfl (lk rfl hT19)) rfl rfl (r_move rfl (F215.ev rfl)) (fun ac216 F216 => ?_)
                clear F215 ac215
                refine sv (v := .bool y52) F216 (run_guard rfl) rfl rfl (r_pick_t rfl (F216.ev (lk rfl hT19)) (F216.ev rfl)) (fun ac217 F217 => ?_)
                clear F216 ac216
                refine sv (v := .bool y52) F217 (run_guard rfl) rfl rfl (r_move rfl (F217.ev rfl)) (fun ac218 F218 => ?_)
                clear F217 ac217
                cases hT20 : y52 with
                | true =>
                  replace h := cond_t hT20 h
                  refine sv (v := .slice Aq3 y51.length cq3) F218 (g_on F218 rfl rfl rfl (lk rfl hT20)) rfl rfl (r_move rfl (F218.ev rfl)) (fun ac219 F219 => ?_)
                  clear F218 ac218
                  refine sv (v := .slice A1 l1.length c1) F219 (g_on F219 rfl rfl rfl (lk rfl hT20)) rfl rfl (r_move rfl (F219.ev rfl)) (fun ac220 F220 => ?_)
                  clear F219 ac219
                  replace h := Option.bind_eq_some_iff.1 h
                  obtain ⟨y53, hy, h⟩ := h
                  refine sc F220 (g_on F220 rfl rfl rfl (lk rfl hT20)) rfl rfl (r_call rfl Tryd.func32 (by kernel_rfl) rfl rfl (m2 (F220.ev rfl) (F220.ev rfl))) ?_
                  refine (feluccaref02_Same.calls k Aq3 cq3 y51 A1 c1 l1 _ _ (Kd.R_reads' R3.out).2.2 (Kd.R_reads' R3.out).2.1 (Kd.C_below HR1.out HB.out) HC1.out hy).mono ?_
                  rintro e w18 ⟨rfl, hE⟩
                  clear hy
                  replace X4 := Aside0.mk (blk_below X4.out hE)
                  replace R3 := Aside0.mk (Kd.R_below R3.out hE)
                  replace HB := Aside0.mk (below_step HB.out hE)
                  refine ⟨_, rfl, fun ac221 F221 => ?_⟩
                  clear hE F220 ac220
                  refine sv (v := .bool y53) F221 (run_guard rfl) rfl rfl (r_pick_t rfl (F221.ev (lk rfl hT20)) (F221.ev rfl)) (fun ac222 F222 => ?_)
                  clear F221 ac221
                  refine sv (v := .bool y53) F222 (run_guard rfl) rfl rfl (r_move rfl (F222.ev rfl)) (fun ac223 F223 => ?_)
                  clear F222 ac222
                  cases hT21 : y53 with
                  | true =>
                    replace h := cond_t hT21 h
                    refine sv (v := .agg #[.int .i64 y37, .int .i64 y38, .int .i64 y39, .int .i64 y40, .int .i64 y41, .int .i64 y42, .int .i64 y43, .int .i64 y44, .int .i64 y45, .int .i64 y46, .int .i64 y47, .int .i64 y48, .int .i64 y49]) F223 (g_on F223 rfl rfl rfl (lk rfl hT21)) rfl rfl (r_load rfl (F223.ev rfl) (l_part X4.out 0 [.int .i64 y37, .int .i64 y38, .int .i64 y39, .int .i64 y40, .int .i64 y41, .int .i64 y42, .int .i64 y43, .int .i64 y44, .int .i64 y45, .int .i64 y46, .int .i64 y47, .int .i64 y48, .int .i64 y49] rfl Tryd.underlying38 rfl feluccalaw04_DirectBack.sz38)) (fun ac224 F224 => ?_)
                    clear F223 ac223
                    replace h := Option.bind_eq_some_iff.1 h
                    obtain ⟨y54, hy, h⟩ := h
                    refine sc F224 (g_on F224 rfl rfl rfl (lk rfl hT21)) rfl rfl (r_call rfl Tryd.func30 (by kernel_rfl) rfl rfl (m1 (F224.ev rfl))) ?_
                    refine (direct_Right.calls y37 y38 y39 y40 y41 y42 y43 y44 y45 y46 y47 y48 y49 _ _ hy).mono ?_
                    rintro e w19 ⟨rfl, hE⟩
                    clear hy
                    replace X4 := Aside0.mk (blk_below X4.out hE)
                    replace R3 := Aside0.mk (Kd.R_below R3.out hE)
                    replace HB := Aside0.mk (below_step HB.out hE)
                    refine ⟨_, rfl, fun ac225 F225 => ?_⟩
                    clear hE F224 ac224
                    refine sv (v := .bool y54) F225 (run_guard rfl) rfl rfl (r_pick_t rfl (F225.ev (lk rfl hT21)) (F225.ev rfl)) (fun ac226 F226 => ?_)
                    clear F225 ac225
                    refine sv (v := .bool y54) F226 (run_guard rfl) rfl rfl (r_assign rfl (F226.ev rfl)) (fun ac227 F227 => ?_)
                    clear F226 ac226
                    refine c_end F227 ?_
                    refine hK28 _ _ ?_
                    refine wp_ret ?_
                    (try simp only [Exit.then, Exit.inBlock])
                    refine retx (fn := Tryd.f10) F227 (results1 (fn := Tryd.f10) rfl (rv_t (t := 4) (v := .bool y54) F227 rfl)) ?_
                    cases h
                    exact ⟨rfl, HB.out⟩
                  | false =>
                    replace h := cond_f hT21 h
                    refine so F223 (g_off F223 rfl rfl rfl (lk rfl hT21)) rfl rfl (fun ac228 F228 => ?_)
                    clear F223 ac223
                    refine so F228 (g_off F228 rfl rfl rfl (lk rfl hT21)) rfl rfl (fun ac229 F229 => ?_)
                    clear F228 ac228
                    refine sv (v := .bool false) F229 (run_guard rfl) rfl rfl (r_pick_f rfl (F229.ev (lk rfl hT21)) ev_c) (fun ac230 F230 => ?_)
                    clear F229 ac229
                    refine sv (v := .bool false) F230 (run_guard rfl) rfl rfl (r_assign rfl (F230.ev rfl)) (fun ac231 F231 => ?_)
                    clear F230 ac230
                    refine c_end F231 ?_
                    refine hK28 _ _ ?_
                    refine wp_ret ?_
                    (try simp only [Exit.then, Exit.inBlock])
                    refine retx (fn := Tryd.f10) F231 (results1 (fn := Tryd.f10) rfl (rv_t (t := 4) (v := .bool false) F231 rfl)) ?_
                    cases h
                    exact ⟨rfl, HB.out⟩
                | false =>
                  replace h := cond_f hT20 h
                  refine so F218 (g_off F218 rfl rfl rfl (lk rfl hT20)) rfl rfl (fun ac232 F232 => ?_)
                  clear F218 ac218
                  refine so F232 (g_off F232 rfl rfl rfl (lk rfl hT20)) rfl rfl (fun ac233 F233 => ?_)
                  clear F232 ac232
                  refine so F233 (g_off F233 rfl rfl rfl (lk rfl hT20)) rfl rfl (fun ac234 F234 => ?_)
                  clear F233 ac233
                  refine sv (v := .bool false) F234 (run_guard rfl) rfl rfl (r_pick_f rfl (F234.ev (lk rfl hT20)) ev_c) (fun ac235 F235 => ?_)
                  clear F234 ac234
                  refine sv (v := .bool false) F235 (run_guard rfl) rfl rfl (r_move rfl (F235.ev rfl)) (fun ac236 F236 => ?_)
                  clear F235 ac235
                  refine so F236 (g_off F236 rfl rfl rfl rfl) rfl rfl (fun ac237 F237 => ?_)
                  clear F236 ac236
                  refine so F237 (g_off F237 rfl rfl rfl rfl) rfl rfl (fun ac238 F238 => ?_)
                  clear F237 ac237
                  refine sv (v := .bool false) F238 (run_guard rfl) rfl rfl (r_pick_f rfl (F238.ev rfl) ev_c) (fun ac239 F239 => ?_)
                  clear F238 ac238
                  refine sv (v := .bool false) F239 (run_guard rfl) rfl rfl (r_assign rfl (F239.ev rfl)) (fun ac240 F240 => ?_)
                  clear F239 ac239
                  refine c_end F240 ?_
                  refine hK28 _ _ ?_
                  refine wp_ret ?_
                  (try simp only [Exit.then, Exit.inBlock])
                  refine retx (fn := Tryd.f10) F240 (results1 (fn := Tryd.f10) rfl (rv_t (t := 4) (v := .bool false) F240 rfl)) ?_
                  cases h
                  exact ⟨rfl, HB.out⟩
              | false =>
                replace h := cond_f hT19 h
                refine so F215 (g_off F215 rfl rfl rfl (lk rfl hT19)) rfl rfl (fun ac241 F241 => ?_)
                clear F215 ac215
                refine sv (v := .bool false) F241 (run_guard rfl) rfl rfl (r_pick_f rfl (F241.ev (lk rfl hT19)) ev_c) (fun ac242 F242 => ?_)
                clear F241 ac241
                refine sv (v := .bool false) F242 (run_guard rfl) rfl rfl (r_move rfl (F242.ev rfl)) (fun ac243 F243 => ?_)
                clear F242 ac242
                refine so F243 (g_off F243 rfl rfl rfl rfl) rfl rfl (fun ac244 F244 => ?_)
                clear F243 ac243
                refine so F244 (g_off F244 rfl rfl rfl rfl) rfl rfl (fun ac245 F245 => ?_)
                clear F244 ac244
                refine so F245 (g_off F245 rfl rfl rfl rfl) rfl rfl (fun ac246 F246 => ?_)
                clear F245 ac245
                refine sv (v := .bool false) F246 (run_guard rfl) rfl rfl (r_pick_f rfl (F246.ev rfl) ev_c) (fun ac247 F247 => ?_)
                clear F246 ac246
                refine sv (v := .bool false) F247 (run_guard rfl) rfl rfl (r_move rfl (F247.ev rfl)) (fun ac248 F248 => ?_)
                clear F247 ac247
                refine so F248 (g_off F248 rfl rfl rfl rfl) rfl rfl (fun ac249 F249 => ?_)
                clear F248 ac248
                refine so F249 (g_off F249 rfl rfl rfl rfl) rfl rfl (fun ac250 F250 => ?_)
                clear F249 ac249
                refine sv (v := .bool false) F250 (run_guard rfl) rfl rfl (r_pick_f rfl (F250.ev rfl) ev_c) (fun ac251 F251 => ?_)
                clear F250 ac250
                refine sv (v := .bool false) F251 (run_guard rfl) rfl rfl (r_assign rfl (F251.ev rfl)) (fun ac252 F252 => ?_)
                clear F251 ac251
                refine c_end F252 ?_
                refine hK28 _ _ ?_
                refine wp_ret ?_
                (try simp only [Exit.then, Exit.inBlock])
                refine retx (fn := Tryd.f10) F252 (results1 (fn := Tryd.f10) rfl (rv_t (t := 4) (v := .bool false) F252 rfl)) ?_
                cases h
                exact ⟨rfl, HB.out⟩
      | false =>
        replace h := cond_f hT3 h
        refine so F33 (g_off F33 rfl rfl rfl (lk rfl hT3)) rfl rfl (fun ac253 F253 => ?_)
        clear F33 ac33
        refine so F253 (g_off F253 rfl rfl rfl (lk rfl hT3)) rfl rfl (fun ac254 F254 => ?_)
        clear F253 ac253
        refine so F254 (g_off F254 rfl rfl rfl (lk rfl hT3)) rfl rfl (fun ac255 F255 => ?_)
        clear F254 ac254
        refine sv (v := .bool false) F255 (g_on F255 rfl rfl rfl (lk rfl hT2)) rfl rfl (r_pick_f rfl (F255.ev (lk rfl hT3)) ev_c) (fun ac256 F256 => ?_)
        clear F255 ac255
        refine sv (v := .bool false) F256 (run_guard rfl) rfl rfl (r_pick_f rfl (F256.ev (lk rfl hT2)) (F256.ev rfl)) (fun ac257 F257 => ?_)
        clear F256 ac256
        refine c_end F257 ?_
        refine hK8 _ _ ?_
        refine wp_cond_false (F257.ev rfl) ?_
        refine wp_skip ?_
        refine hK7 _ _ ?_
        refine wp_seq_k (fun K29 hK29 => ?_)
        refine wp_seq_k (fun K30 hK30 => ?_)
        refine wp_region_lit ?_
        refine sv (v := .bool y3) F257 (run_guard rfl) rfl rfl (r_move rfl (F257.ev rfl)) (fun ac258 F258 => ?_)
        clear F257 ac257
        refine c_end F258 ?_
        refine hK30 _ _ ?_
        cases hT22 : y3 with
        | true =>
          replace h := cond_t hT22 h
          refine wp_cond_true (F258.ev (lk rfl hT22)) ?_
          refine wp_seq_k (fun K31 hK31 => ?_)
          refine wp_region_lit ?_
          refine sv (v := .slice Aq1 y2.length cq1) F258 (run_guard rfl) rfl rfl (r_move rfl (F258.ev rfl)) (fun ac259 F259 => ?_)
          clear F258 ac258
          replace h := Option.bind_eq_some_iff.1 h
          obtain ⟨⟨y55, y56, y57, y58, y59, y60, y61, y62, y63, y64, y65, y66, y67, y68⟩, hy, h⟩ := h
          refine sc F259 (run_guard rfl) rfl rfl (r_call rfl Tryd.func28 (by kernel_rfl) rfl rfl (m1 (F259.ev rfl))) ?_
          refine (direct_Parse.calls k Aq1 cq1 y2 _ _ _ _ _ _ _ _ _ _ _ _ _ _ _ (Kd.R_reads' R1.out).2.2 (Kd.R_reads' R1.out).2.1 hy).mono ?_
          rintro e w20 ⟨rfl, hE⟩
          clear hy
          replace X1 := Aside0.mk (blk_below X1.out hE)
          replace R1 := Aside0.mk (Kd.R_below R1.out hE)
          replace HB := Aside0.mk (below_step HB.out hE)
          refine ⟨_, rfl, fun ac260 F260 => ?_⟩
          clear hE F259 ac259
          refine sv (v := .tuple #[.agg #[.int .i64 y55, .int .i64 y56, .int .i64 y57, .int .i64 y58, .int .i64 y59, .int .i64 y60, .int .i64 y61, .int .i64 y62, .int .i64 y63, .int .i64 y64, .int .i64 y65, .int .i64 y66, .int .i64 y67], .int .i64 y68]) F260 (run_guard rfl) rfl rfl (r_move rfl (F260.ev rfl)) (fun ac261 F261 => ?_)
          clear F260 ac260
          refine sv (v := .agg #[.int .i64 y55, .int .i64 y56, .int .i64 y57, .int .i64 y58, .int .i64 y59, .int .i64 y60, .int .i64 y61, .int .i64 y62, .int .i64 y63, .int .i64 y64, .int .i64 y65, .int .i64 y66, .int .i64 y67]) F261 (run_guard rfl) rfl rfl (r_extract rfl (F261.ev rfl) rfl) (fun ac262 F262 => ?_)
          clear F261 ac261
          refine sv (v := .int .i64 y68) F262 (run_guard rfl) rfl rfl (r_extract rfl (F262.ev rfl) rfl) (fun ac263 F263 => ?_)
          clear F262 ac262
          refine s_new (cs := #[.int .i64 0, .int .i64 0, .int .i64 0, .int .i64 0, .int .i64 0, .int .i64 0, .int .i64 0, .int .i64 0, .int .i64 0, .int .i64 0, .int .i64 0, .int .i64 0, .int .i64 0]) F263 (run_guard rfl) rfl rfl (r_alloc rfl (feluccalaw04_DirectBack.zv38 _) rfl) (fun ac264 w21 b5 hb hge hlt hE F264 => ?_)
          clear F263 ac263
          have GEX5 := Aside0.mk (Nat.le_trans HB.out.size hge)
          have LTX1_X5 := Aside0.mk (Nat.lt_of_lt_of_le (blk_lt X1.out) hge)
          replace X1 := Aside0.mk (blk_below X1.out hE)
          replace R1 := Aside0.mk (Kd.R_below R1.out hE)
          replace HB := Aside0.mk (below_step HB.out hE)
          have X5 := Aside0.mk hb
          clear hb hge hlt hE
          obtain ⟨w22, hs, hS⟩ := s_part (P := Tryd.prog) (t := 38) (l' := [.int .i64 y55, .int .i64 y56, .int .i64 y57, .int .i64 y58, .int .i64 y59, .int .i64 y60, .int .i64 y61, .int .i64 y62, .int .i64 y63, .int .i64 y64, .int .i64 y65, .int .i64 y66, .int .i64 y67]) X5.out 0 #[.int .i64 y55, .int .i64 y56, .int .i64 y57, .int .i64 y58, .int .i64 y59, .int .i64 y60, .int .i64 y61, .int .i64 y62, .int .i64 y63, .int .i64 y64, .int .i64 y65, .int .i64 y66, .int .i64 y67] rfl rfl feluccalaw04_DirectBack.sz38 rfl
          refine ss F264 (run_guard rfl) rfl (r_store rfl (F264.ev rfl) (F264.ev rfl) hs) ?_
          clear hs
          replace X1 := Aside0.mk (hS.blk X1.out (Nat.ne_of_lt LTX1_X5.out))
          replace R1 := Aside0.mk (R_set1 R1.out X5.out (by decide) hS)
          replace HB := Aside0.mk (HB.out.trans (hS.below _ GEX5.out))
          replace X5 := Aside0.mk hS.here
          clear hS
          refine sv (v := .int .i64 y68) F264 (run_guard rfl) rfl rfl (r_assign rfl (F264.ev rfl)) (fun ac265 F265 => ?_)
          clear F264 ac264
          refine c_end F265 ?_
          refine hK31 _ _ ?_
          refine wp_seq_k (fun K32 hK32 => ?_)
          clear R1
          refine wp_region_lit ?_
          refine sv (v := .int .i64 y68) F265 (run_guard rfl) rfl rfl (r_move rfl (F265.ev rfl)) (fun ac266 F266 => ?_)
          clear F265 ac265
          refine sv (v := .bool (!decide (y68 = 0))) F266 (run_guard rfl) rfl rfl (r_neq rfl (F266.ev rfl) ev_c) (fun ac267 F267 => ?_)
          clear F266 ac266
          refine sv (v := .bool (!decide (y68 = 0))) F267 (run_guard rfl) rfl rfl (r_move rfl (F267.ev rfl)) (fun ac268 F268 => ?_)
          clear F267 ac267
          cases hT23 : (!decide (y68 = 0)) with
          | true =>
            replace h := cond_t hT23 h
            refine so F268 (g_off F268 rfl rfl rfl (lk rfl hT23)) rfl rfl (fun ac269 F269 => ?_)
            clear F268 ac268
            refine so F269 (g_off F269 rfl rfl rfl (lk rfl hT23)) rfl rfl (fun ac270 F270 => ?_)
            clear F269 ac269
            refine so F270 (g_off F270 rfl rfl rfl (lk rfl hT23)) rfl rfl (fun ac271 F271 => ?_)
            clear F270 ac270
            refine sv (v := .bool true) F271 (run_guard rfl) rfl rfl (r_pick_t rfl (F271.ev (lk rfl hT23)) ev_c) (fun ac272 F272 => ?_)
            clear F271 ac271
            refine c_end F272 ?_
            refine hK32 _ _ ?_
            refine wp_cond_true (F272.ev rfl) ?_
            refine wp_seq_k (fun K33 hK33 => ?_)
            clear X1 X5
            refine wp_region_lit ?_
            refine sv (v := .bool false) F272 (run_guard rfl) rfl rfl (r_assign rfl ev_c) (fun ac273 F273 => ?_)
            clear F272 ac272
            refine c_end F273 ?_
            refine hK33 _ _ ?_
            refine wp_ret ?_
            (try simp only [Exit.then, Exit.inBlock])
            refine retx (fn := Tryd.f10) F273 (results1 (fn := Tryd.f10) rfl (rv_t (t := 4) (v := .bool false) F273 rfl)) ?_
            cases h
            exact ⟨rfl, HB.out⟩
          | false =>
            replace h := cond_f hT23 h
            refine sv (v := .agg #[.int .i64 y55, .int .i64 y56, .int .i64 y57, .int .i64 y58, .int .i64 y59, .int .i64 y60, .int .i64 y61, .int .i64 y62, .int .i64 y63, .int .i64 y64, .int .i64 y65, .int .i64 y66, .int .i64 y67]) F268 (g_on F268 rfl rfl rfl (lk rfl hT23)) rfl rfl (r_load rfl (F268.ev rfl) (l_part X5.out 0 [.int .i64 y55, .int .i64 y56, .int .i64 y57, .int .i64 y58, .int .i64 y59, .int .i64 y60, .int .i64 y61, .int .i64 y62, .int .i64 y63, .int .i64 y64, .int .i64 y65, .int .i64 y66, .int .i64 y67] rfl Tryd.underlying38 rfl feluccalaw04_DirectBack.sz38)) (fun ac274 F274 => ?_)
            clear F268 ac268
            refine sv (v := .agg #[.int .i64 a0_0, .int .i64 a0_1, .int .i64 a0_2, .int .i64 a0_3, .int .i64 a0_4, .int .i64 a0_5, .int .i64 a0_6, .int .i64 a0_7, .int .i64 a0_8, .int .i64 a0_9, .int .i64 a0_10, .int .i64 a0_11, .int .i64 a0_12]) F274 (g_on F274 rfl rfl rfl (lk rfl hT23)) rfl rfl (r_load rfl (F274.ev rfl) (l_part X1.out 0 [.int .i64 a0_0, .int .i64 a0_1, .int .i64 a0_2, .int .i64 a0_3, .int .i64 a0_4, .int .i64 a0_5, .int .i64 a0_6, .int .i64 a0_7, .int .i64 a0_8, .int .i64 a0_9, .int .i64 a0_10, .int .i64 a0_11, .int .i64 a0_12] rfl Tryd.underlying38 rfl feluccalaw04_DirectBack.sz38)) (fun ac275 F275 => ?_)
            clear F274 ac274
            refine sv (v := .bool (!(y55 == a0_0 && (y56 == a0_1 && ((y57 == a0_2 && (y58 == a0_3 && (y59 == a0_4 && (y60 == a0_5 && (y61 == a0_6 && (y62 == a0_7)))))) && ((y63 == a0_8 && (y64 == a0_9 && (y65 == a0_10 && (y66 == a0_11 && (y67 == a0_12))))))))))) F275 (g_on F275 rfl rfl rfl (lk rfl hT23)) rfl rfl (r_bin rfl (F275.ev rfl) (F275.ev rfl) (eqg_no feluccalaw04_DirectBack.eg38 _) (feluccalaw04_DirectBack.eqn38 _ _ _ _ _ _ _ _ _ _ _ _ _ _ _ _ _ _ _ _ _ _ _ _ _ _ _)) (fun ac276 F276 => ?_)
            clear F275 ac275
            refine sv (v := .bool (!(y55 == a0_0 && (y56 == a0_1 && ((y57 == a0_2 && (y58 == a0_3 && (y59 == a0_4 && (y60 == a0_5 && (y61 == a0_6 && (y62 == a0_7)))))) && ((y63 == a0_8 && (y64 == a0_9 && (y65 == a0_10 && (y66 == a0_11 && (y67 == a0_12))))))))))) F276 (run_guard rfl) rfl rfl (r_pick_f rfl (F276.ev (lk rfl hT23)) (F276.ev rfl)) (fun ac277 F277 => ?_)
            clear F276 ac276
            refine c_end F277 ?_
            refine hK32 _ _ ?_
            cases hT24 : (!(y55 == a0_0 && (y56 == a0_1 && ((y57 == a0_2 && (y58 == a0_3 && (y59 == a0_4 && (y60 == a0_5 && (y61 == a0_6 && (y62 == a0_7)))))) && ((y63 == a0_8 && (y64 == a0_9 && (y65 == a0_10 && (y66 == a0_11 && (y67 == a0_12)))))))))) with
            | true =>
              replace h := cond_t hT24 h
              refine wp_cond_true (F277.ev (lk rfl hT24)) ?_
              refine wp_seq_k (fun K34 hK34 => ?_)
              clear X1 X5
              refine wp_region_lit ?_
              refine sv (v := .bool false) F277 (run_guard rfl) rfl rfl (r_assign rfl ev_c) (fun ac278 F278 => ?_)
              clear F277 ac277
              refine c_end F278 ?_
              refine hK34 _ _ ?_
              refine wp_ret ?_
              (try simp only [Exit.then, Exit.inBlock])
              refine retx (fn := Tryd.f10) F278 (results1 (fn := Tryd.f10) rfl (rv_t (t := 4) (v := .bool false) F278 rfl)) ?_
              cases h
              exact ⟨rfl, HB.out⟩
            | false =>
              replace h := cond_f hT24 h
              refine wp_cond_false (F277.ev (lk rfl hT24)) ?_
              refine wp_skip ?_
              refine hK29 _ _ ?_
              refine wp_seq_k (fun K35 hK35 => ?_)
              clear X1 X5
              refine wp_region_lit ?_
              refine sv (v := .slice A1 l1.length c1) F277 (run_guard rfl) rfl rfl (r_move rfl (F277.ev rfl)) (fun ac279 F279 => ?_)
              clear F277 ac277
              replace h := Option.bind_eq_some_iff.1 h
              obtain ⟨⟨y69, y70, y71, y72, y73, y74, y75, y76, y77, y78, y79, y80, y81, y82⟩, hy, h⟩ := h
              refine sc F279 (run_guard rfl) rfl rfl (r_call rfl Tryd.func28 (by kernel_rfl) rfl rfl (m1 (F279.ev rfl))) ?_
              refine (direct_Parse.calls k A1 c1 l1 _ _ _ _ _ _ _ _ _ _ _ _ _ _ _ (Kd.C_below HR1.out HB.out) HC1.out hy).mono ?_
              rintro e w23 ⟨rfl, hE⟩
              clear hy
              replace HB := Aside0.mk (below_step HB.out hE)
              refine ⟨_, rfl, fun ac280 F280 => ?_⟩
              clear hE F279 ac279
              refine sv (v := .tuple #[.agg #[.int .i64 y69, .int .i64 y70, .int .i64 y71, .int .i64 y72, .int .i64 y73, .int .i64 y74, .int .i64 y75, .int .i64 y76, .int .i64 y77, .int .i64 y78, .int .i64 y79, .int .i64 y80, .int .i64 y81], .int .i64 y82]) F280 (run_guard rfl) rfl rfl (r_move rfl (F280.ev rfl)) (fun ac281 F281 => ?_)
              clear F280 ac280
              refine sv (v := .agg #[.int .i64 y69, .int .i64 y70, .int .i64 y71, .int .i64 y72, .int .i64 y73, .int .i64 y74, .int .i64 y75, .int .i64 y76, .int .i64 y77, .int .i64 y78, .int .i64 y79, .int .i64 y80, .int .i64 y81]) F281 (run_guard rfl) rfl rfl (r_extract rfl (F281.ev rfl) rfl) (fun ac282 F282 => ?_)
              clear F281 ac281
              refine sv (v := .int .i64 y82) F282 (run_guard rfl) rfl rfl (r_extract rfl (F282.ev rfl) rfl) (fun ac283 F283 => ?_)
              clear F282 ac282
              refine s_new (cs := #[.int .i64 0, .int .i64 0, .int .i64 0, .int .i64 0, .int .i64 0, .int .i64 0, .int .i64 0, .int .i64 0, .int .i64 0, .int .i64 0, .int .i64 0, .int .i64 0, .int .i64 0]) F283 (run_guard rfl) rfl rfl (r_alloc rfl (feluccalaw04_DirectBack.zv38 _) rfl) (fun ac284 w24 b6 hb hge hlt hE F284 => ?_)
              clear F283 ac283
              have GEX6 := Aside0.mk (Nat.le_trans HB.out.size hge)
              replace HB := Aside0.mk (below_step HB.out hE)
              have X6 := Aside0.mk hb
              clear hb hge hlt hE
              obtain ⟨w25, hs, hS⟩ := s_part (P := Tryd.prog) (t := 38) (l' := [.int .i64 y69, .int .i64 y70, .int .i64 y71, .int .i64 y72, .int .i64 y73, .int .i64 y74, .int .i64 y75, .int .i64 y76, .int .i64 y77, .int .i64 y78, .int .i64 y79, .int .i64 y80, .int .i64 y81]) X6.out 0 #[.int .i64 y69, .int .i64 y70, .int .i64 y71, .int .i64 y72, .int .i64 y73, .int .i64 y74, .int .i64 y75, .int .i64 y76, .int .i64 y77, .int .i64 y78, .int .i64 y79, .int .i64 y80, .int .i64 y81] rfl rfl feluccalaw04_DirectBack.sz38 rfl
              refine ss F284 (run_guard rfl) rfl (r_store rfl (F284.ev rfl) (F284.ev rfl) hs) ?_
              clear hs
              replace HB := Aside0.mk (HB.out.trans (hS.below _ GEX6.out))
              replace X6 := Aside0.mk hS.here
              clear hS
              refine sv (v := .int .i64 y82) F284 (run_guard rfl) rfl rfl (r_assign rfl (F284.ev rfl)) (fun ac285 F285 => ?_)
              clear F284 ac284
              refine c_end F285 ?_
              refine hK35 _ _ ?_
              refine wp_seq_k (fun K36 hK36 => ?_)
              refine wp_seq_k (fun K37 hK37 => ?_)
              refine wp_region_lit ?_
              refine sv (v := .int .i64 y82) F285 (run_guard rfl) rfl rfl (r_move rfl (F285.ev rfl)) (fun ac286 F286 => ?_)
              clear F285 ac285
              refine sv (v := .bool (!decide (y82 = 0))) F286 (run_guard rfl) rfl rfl (r_neq rfl (F286.ev rfl) ev_c) (fun ac287 F287 => ?_)
              clear F286 ac286
              refine c_end F287 ?_
              refine hK37 _ _ ?_
              cases hT25 : (!decide (y82 = 0)) with
              | true =>
                replace h := cond_t hT25 h
                refine wp_cond_true (F287.ev (lk rfl hT25)) ?_
                refine wp_seq_k (fun K38 hK38 => ?_)
                refine wp_region_lit ?_
                refine sv (v := .bool y1) F287 (run_guard rfl) rfl rfl (r_move rfl (F287.ev rfl)) (fun ac288 F288 => ?_)
                clear F287 ac287
                refine sv (v := .bool y1) F288 (run_guard rfl) rfl rfl (r_move rfl (F288.ev rfl)) (fun ac289 F289 => ?_)
                clear F288 ac288
                cases hT26 : y1 with
                | true =>
                  replace h := cond_t hT26 h
                  refine sv (v := .agg #[.int .i64 y69, .int .i64 y70, .int .i64 y71, .int .i64 y72, .int .i64 y73, .int .i64 y74, .int .i64 y75, .int .i64 y76, .int .i64 y77, .int .i64 y78, .int .i64 y79, .int .i64 y80, .int .i64 y81]) F289 (g_on F289 rfl rfl rfl (lk rfl hT26)) rfl rfl (r_load rfl (F289.ev rfl) (l_part X6.out 0 [.int .i64 y69, .int .i64 y70, .int .i64 y71, .int .i64 y72, .int .i64 y73, .int .i64 y74, .int .i64 y75, .int .i64 y76, .int .i64 y77, .int .i64 y78, .int .i64 y79, .int .i64 y80, .int .i64 y81] rfl Tryd.underlying38 rfl feluccalaw04_DirectBack.sz38)) (fun ac290 F290 => ?_)
                  clear F289 ac289
                  refine sv (v := .agg #[.int .i64 0, .int .i64 0, .int .i64 0, .int .i64 0, .int .i64 0, .int .i64 0, .int .i64 0, .int .i64 0, .int .i64 0, .int .i64 0, .int .i64 0, .int .i64 0, .int .i64 0]) F290 (g_on F290 rfl rfl rfl (lk rfl hT26)) rfl rfl (r_build rfl p0 (feluccalaw04_DirectBack.bld38_ _)) (fun ac291 F291 => ?_)
                  clear F290 ac290
                  refine sv (v := .bool (y69 == 0 && (y70 == 0 && ((y71 == 0 && (y72 == 0 && (y73 == 0 && (y74 == 0 && (y75 == 0 && (y76 == 0)))))) && ((y77 == 0 && (y78 == 0 && (y79 == 0 && (y80 == 0 && (y81 == 0)))))))))) F291 (g_on F291 rfl rfl rfl (lk rfl hT26)) rfl rfl (r_bin rfl (F291.ev rfl) (F291.ev rfl) (eqg_no feluccalaw04_DirectBack.eg38 _) (feluccalaw04_DirectBack.eq38 _ _ _ _ _ _ _ _ _ _ _ _ _ _ _ _ _ _ _ _ _ _ _ _ _ _ _)) (fun ac292 F292 => ?_)
                  clear F291 ac291
                  refine sv (v := .bool (y69 == 0 && (y70 == 0 && ((y71 == 0 && (y72 == 0 && (y73 == 0 && (y74 == 0 && (y75 == 0 && (y76 == 0)))))) && ((y77 == 0 && (y78 == 0 && (y79 == 0 && (y80 == 0 && (y81 == 0)))))))))) F292 (run_guard rfl) rfl rfl (r_pick_t rfl (F292.ev (lk rfl hT26)) (F292.ev rfl)) (fun ac293 F293 => ?_)
                  clear F292 ac292
                  refine sv (v := .bool (y69 == 0 && (y70 == 0 && ((y71 == 0 && (y72 == 0 && (y73 == 0 && (y74 == 0 && (y75 == 0 && (y76 == 0)))))) && ((y77 == 0 && (y78 == 0 && (y79 == 0 && (y80 == 0 && (y81 == 0)))))))))) F293 (run_guard rfl) rfl rfl (r_move rfl (F293.ev rfl)) (fun ac294 F294 => ?_)
                  clear F293 ac293
                  cases hT27 : (y69 == 0 && (y70 == 0 && ((y71 == 0 && (y72 == 0 && (y73 == 0 && (y74 == 0 && (y75 == 0 && (y76 == 0)))))) && ((y77 == 0 && (y78 == 0 && (y79 == 0 && (y80 == 0 && (y81 == 0))))))))) with
                  | true =>
                    replace h := cond_t hT27 h
                    refine sv (v := .int .i64 y82) F294 (g_on F294 rfl rfl rfl (lk rfl hT27)) rfl rfl (r_move rfl (F294.ev rfl)) (fun ac295 F295 => ?_)
                    clear F294 ac294
                    refine sv (v := .bool (decide (y82 = 2))) F295 (g_on F295 rfl rfl rfl (lk rfl hT27)) rfl rfl (r_eql rfl (F295.ev rfl) ev_c) (fun ac296 F296 => ?_)
                    clear F295 ac295
                    refine sv (v := .bool (decide (y82 = 2))) F296 (g_on F296 rfl rfl rfl (lk rfl hT27)) rfl rfl (r_move rfl (F296.ev rfl)) (fun ac297 F297 => ?_)
                    clear F296 ac296
                    cases hT28 : decide (y82 = 2) with
                    | true =>
                      replace h := cond_t hT28 h
                      refine so F297 (g_off F297 rfl rfl rfl (lk rfl hT28)) rfl rfl (fun ac298 F298 => ?_)
                      clear F297 ac297
                      refine so F298 (g_off F298 rfl rfl rfl (lk rfl hT28)) rfl rfl (fun ac299 F299 => ?_)
                      clear F298 ac298
                      refine sv (v := .bool true) F299 (g_on F299 rfl rfl rfl (lk rfl hT27)) rfl rfl (r_pick_t rfl (F299.ev (lk rfl hT28)) ev_c) (fun ac300 F300 => ?_)
                      clear F299 ac299
                      refine sv (v := .bool true) F300 (run_guard rfl) rfl rfl (r_pick_t rfl (F300.ev (lk rfl hT27)) (F300.ev rfl)) (fun ac301 F301 => ?_)
                      clear F300 ac300
                      refine sv (v := .bool true) F301 (run_guard rfl) rfl rfl (r_assign rfl (F301.ev rfl)) (fun ac302 F302 => ?_)
                      clear F301 ac301
                      refine c_end F302 ?_
                      refine hK38 _ _ ?_
                      refine wp_ret ?_
                      (try simp only [Exit.then, Exit.inBlock])
                      refine retx (fn := Tryd.f10) F302 (results1 (fn := Tryd.f10) rfl (rv_t (t := 4) (v := .bool true) F302 rfl)) ?_
                      cases h
                      exact ⟨rfl, HB.out⟩
                    | false =>
                      replace h := cond_f hT28 h
                      refine sv (v := .int .i64 y82) F297 (g_on F297 rfl rfl rfl (lk rfl hT28)) rfl rfl (r_move rfl (F297.ev rfl)) (fun ac303 F303 => ?_)
                      clear F297 ac297
                      refine sv (v := .bool (decide (y82 = 1))) F303 (g_on F303 rfl rfl rfl (lk rfl hT28)) rfl rfl (r_eql rfl (F303.ev rfl) ev_c) (fun ac304 F304 => ?_)
                      clear F303 ac303
                      refine sv (v := .bool (decide (y82 = 1))) F304 (g_on F304 rfl rfl rfl (lk rfl hT27)) rfl rfl (r_pick_f rfl (F304.ev (lk rfl hT28)) (F304.ev rfl)) (fun ac305 F305 => ?_)
                      clear F304 ac304
                      refine sv (v := .bool (decide (y82 = 1))) F305 (run_guard rfl) rfl rfl (r_pick_t rfl (F305.ev (lk rfl hT27)) (F305.ev rfl)) (fun ac306 F306 => ?_)
                      clear F305 ac305
                      refine sv (v := .bool (decide (y82 = 1))) F306 (run_guard rfl) rfl rfl (r_assign rfl (F306.ev rfl)) (fun ac307 F307 => ?_)
                      clear F306 ac306
                      refine c_end F307 ?_
                      refine hK38 _ _ ?_
                      refine wp_ret ?_
                      (try simp only [Exit.then, Exit.inBlock])
                      refine retx (fn := Tryd.f10) F307 (results1 (fn := Tryd.f10) rfl (rv_t (t := 4) (v := .bool (decide (y82 = 1))) F307 rfl)) ?_
                      cases h
                      exact ⟨rfl, HB.out⟩
                  | false =>
                    replace h := cond_f hT27 h
                    refine so F294 (g_off F294 rfl rfl rfl (lk rfl hT27)) rfl rfl (fun ac308 F308 => ?_)
                    clear F294 ac294
                    refine so F308 (g_off F308 rfl rfl rfl (lk rfl hT27)) rfl rfl (fun ac309 F309 => ?_)
                    clear F308 ac308
                    refine so F309 (g_off F309 rfl rfl rfl (lk rfl hT27)) rfl rfl (fun ac310 F310 => ?_)
                    clear F309 ac309
                    refine so F310 (g_none F310 rfl rfl rfl rfl) rfl rfl (fun ac311 F311 => ?_)
                    clear F310 ac310
                    refine so F311 (g_none F311 rfl rfl rfl rfl) rfl rfl (fun ac312 F312 => ?_)
                    clear F311 ac311
                    refine so F312 (g_off F312 rfl rfl rfl (lk rfl hT27)) rfl rfl (fun ac313 F313 => ?_)
                    clear F312 ac312
                    refine sv (v := .bool false) F313 (run_guard rfl) rfl rfl (r_pick_f rfl (F313.ev (lk rfl hT27)) ev_c) (fun ac314 F314 => ?_)
                    clear F313 ac313
                    refine sv (v := .bool false) F314 (run_guard rfl) rfl rfl (r_assign rfl (F314.ev rfl)) (fun ac315 F315 => ?_)
                    clear F314 ac314
                    refine c_end F315 ?_
                    refine hK38 _ _ ?_
                    refine wp_ret ?_
                    (try simp only [Exit.then, Exit.inBlock])
                    refine retx (fn := Tryd.f10) F315 (results1 (fn := Tryd.f10) rfl (rv_t (t := 4) (v := .bool false) F315 rfl)) ?_
                    cases h
                    exact ⟨rfl, HB.out⟩
                | false =>
                  replace h := cond_f hT26 h
                  refine so F289 (g_off F289 rfl rfl rfl (lk rfl hT26)) rfl rfl (fun ac316 F316 => ?_)
                  clear F289 ac289
                  refine so F316 (g_off F316 rfl rfl rfl (lk rfl hT26)) rfl rfl (fun ac317 F317 => ?_)
                  clear F316 ac316
                  refine so F317 (g_off F317 rfl rfl rfl (lk rfl hT26)) rfl rfl (fun ac318 F318 => ?_)
                  clear F317 ac317
                  refine sv (v := .bool false) F318 (run_guard rfl) rfl rfl (r_pick_f rfl (F318.ev (lk rfl hT26)) ev_c) (fun ac319 F319 => ?_)
                  clear F318 ac318
                  refine sv (v := .bool false) F319 (run_guard rfl) rfl rfl (r_move rfl (F319.ev rfl)) (fun ac320 F320 => ?_)
                  clear F319 ac319
                  refine so F320 (g_off F320 rfl rfl rfl rfl) rfl rfl (fun ac321 F321 => ?_)
                  clear F320 ac320
                  refine so F321 (g_off F321 rfl rfl rfl rfl) rfl rfl (fun ac322 F322 => ?_)
                  clear F321 ac321
                  refine so F322 (g_off F322 rfl rfl rfl rfl) rfl rfl (fun ac323 F323 => ?_)
                  clear F322 ac322
                  refine so F323 (g_none F323 rfl rfl rfl rfl) rfl rfl (fun ac324 F324 => ?_)
                  clear F323 ac323
                  refine so F324 (g_none F324 rfl rfl rfl rfl) rfl rfl (fun ac325 F325 => ?_)
                  clear F324 ac324
                  refine so F325 (g_off F325 rfl rfl rfl rfl) rfl rfl (fun ac326 F326 => ?_)
                  clear F325 ac325
                  refine sv (v := .bool false) F326 (run_guard rfl) rfl rfl (r_pick_f rfl (F326.ev rfl) ev_c) (fun ac327 F327 => ?_)
                  clear F326 ac326
                  refine sv (v := .bool false) F327 (run_guard rfl) rfl rfl (r_assign rfl (F327.ev rfl)) (fun ac328 F328 => ?_)
                  clear F327 ac327
                  refine c_end F328 ?_
                  refine hK38 _ _ ?_
                  refine wp_ret ?_
                  (try simp only [Exit.then, Exit.inBlock])
                  refine retx (fn := Tryd.f10) F328 (results1 (fn := Tryd.f10) rfl (rv_t (t := 4) (v := .bool false) F328 rfl)) ?_
                  cases h
                  exact ⟨rfl, HB.out⟩
              | false =>
                replace h := cond_f hT25 h
                refine wp_cond_false (F287.ev (lk rfl hT25)) ?_
                refine wp_skip ?_
                refine hK36 _ _ ?_
                refine wp_seq_k (fun K39 hK39 => ?_)
                refine wp_region_lit ?_
                refine sv (v := .agg #[.int .i64 y69, .int .i64 y70, .int .i64 y71, .int .i64 y72, .int .i64 y73, .int .i64 y74, .int .i64 y75, .int .i64 y76, .int .i64 y77, .int .i64 y78, .int .i64 y79, .int .i64 y80, .int .i64 y81]) F287 (run_guard rfl) rfl rfl (r_load rfl (F287.ev rfl) (l_part X6.out 0 [.int .i64 y69, .int .i64 y70, .int .i64 y71, .int .i64 y72, .int .i64 y73, .int .i64 y74, .int .i64 y75, .int .i64 y76, .int .i64 y77, .int .i64 y78, .int .i64 y79, .int .i64 y80, .int .i64 y81] rfl Tryd.underlying38 rfl feluccalaw04_DirectBack.sz38)) (fun ac329 F329 => ?_)
                clear F287 ac287
                replace h := Option.bind_eq_some_iff.1 h
                obtain ⟨⟨y83, y84⟩, hy, h⟩ := h
                refine sc F329 (run_guard rfl) rfl rfl (r_call rfl Tryd.func26 (by kernel_rfl) rfl rfl (m1 (F329.ev rfl))) ?_
                refine (direct_Words.calls k y69 y70 y71 y72 y73 y74 y75 y76 y77 y78 y79 y80 y81 _ _ _ (TabP.below XTabP.out HB.out) hy).mono ?_
                rintro e w26 ⟨v4, rfl, hR0, hE⟩
                clear hy
                replace hR0 := Kd.R_lower hR0 HB.out.size
                replace X6 := Aside0.mk (blk_below X6.out hE)
                replace HB := Aside0.mk (below_step HB.out hE)
                obtain ⟨Aq4, cq4, rfl⟩ := Kd.R_slice hR0
                have R4 := Aside0.mk hR0
                clear hR0
                refine ⟨_, rfl, fun ac330 F330 => ?_⟩
                clear hE F329 ac329
                refine sv (v := .tuple #[.slice Aq4 y83.length cq4, .bool y84]) F330 (run_guard rfl) rfl rfl (r_move rfl (F330.ev rfl)) (fun ac331 F331 => ?_)
                clear F330 ac330
                refine sv (v := .slice Aq4 y83.length cq4) F331 (run_guard rfl) rfl rfl (r_extract rfl (F331.ev rfl) rfl) (fun ac332 F332 => ?_)
                clear F331 ac331
                refine sv (v := .bool y84) F332 (run_guard rfl) rfl rfl (r_extract rfl (F332.ev rfl) rfl) (fun ac333 F333 => ?_)
                clear F332 ac332
                refine sv (v := .slice Aq4 y83.length cq4) F333 (run_guard rfl) rfl rfl (r_assign rfl (F333.ev rfl)) (fun ac334 F334 => ?_)
                clear F333 ac333
                refine sv (v := .bool y84) F334 (run_guard rfl) rfl rfl (r_assign rfl (F334.ev rfl)) (fun ac335 F335 => ?_)
                clear F334 ac334
                refine c_end F335 ?_
                refine hK39 _ _ ?_
                refine wp_seq_k (fun K40 hK40 => ?_)
                refine wp_region_lit ?_
                refine sv (v := .bool y1) F335 (run_guard rfl) rfl rfl (r_move rfl (F335.ev rfl)) (fun ac336 F336 => ?_)
                clear F335 ac335
                refine sv (v := .bool y1) F336 (run_guard rfl) rfl rfl (r_move rfl (F336.ev rfl)) (fun ac337 F337 => ?_)
                clear F336 ac336
                cases hT29 : y1 with
                | true =>
                  replace h := cond_t hT29 h
                  refine sv (v := .bool y84) F337 (g_on F337 rfl rfl rfl (lk rfl hT29)) rfl rfl (r_move rfl (F337.ev rfl)) (fun ac338 F338 => ?_)
                  clear F337 ac337
                  refine sv (v := .bool y84) F338 (run_guard rfl) rfl rfl (r_pick_t rfl (F338.ev (lk rfl hT29)) (F338.ev rfl)) (fun ac339 F339 => ?_)
                  clear F338 ac338
                  refine sv (v := .bool y84) F339 (run_guard rfl) rfl rfl (r_move rfl (F339.ev rfl)) (fun ac340 F340 => ?_)
                  clear F339 ac339
                  cases hT30 : y84 with
                  | true =>
                    replace h := cond_t hT30 h
                    refine sv (v := .slice Aq4 y83.length cq4) F340 (g_on F340 rfl rfl rfl (lk rfl hT30)) rfl rfl (r_move rfl (F340.ev rfl)) (fun ac341 F341 => ?_)
                    clear F340 ac340
                    refine sv (v := .slice A1 l1.length c1) F341 (g_on F341 rfl rfl rfl (lk rfl hT30)) rfl rfl (r_move rfl (F341.ev rfl)) (fun ac342 F342 => ?_)
                    clear F341 ac341
                    replace h := Option.bind_eq_some_iff.1 h
                    obtain ⟨y85, hy, h⟩ := h
                    refine sc F342 (g_on F342 rfl rfl rfl (lk rfl hT30)) rfl rfl (r_call rfl Tryd.func32 (by kernel_rfl) rfl rfl (m2 (F342.ev rfl) (F342.ev rfl))) ?_
                    refine (feluccaref02_Same.calls k Aq4 cq4 y83 A1 c1 l1 _ _ (Kd.R_reads' R4.out).2.2 (Kd.R_reads' R4.out).2.1 (Kd.C_below HR1.out HB.out) HC1.out hy).mono ?_
                    rintro e w27 ⟨rfl, hE⟩
                    clear hy
                    replace X6 := Aside0.mk (blk_below X6.out hE)
                    replace R4 := Aside0.mk (Kd.R_below R4.out hE)
                    replace HB := Aside0.mk (below_step HB.out hE)
                    refine ⟨_, rfl, fun ac343 F343 => ?_⟩
                    clear hE F342 ac342
                    refine sv (v := .bool y85) F343 (run_guard rfl) rfl rfl (r_pick_t rfl (F343.ev (lk rfl hT30)) (F343.ev rfl)) (fun ac344 F344 => ?_)
                    clear F343 ac343
                    refine sv (v := .bool y85) F344 (run_guard rfl) rfl rfl (r_move rfl (F344.ev rfl)) (fun ac345 F345 => ?_)
                    clear F344 ac344
                    cases hT31 : y85 with
                    | true =>
                      replace h := cond_t hT31 h
                      refine sv (v := .agg #[.int .i64 y69, .int .i64 y70, .int .i64 y71, .int .i64 y72, .int .i64 y73, .int .i64 y74, .int .i64 y75, .int .i64 y76, .int .i64 y77, .int .i64 y78, .int .i64 y79, .int .i64 y80, .int .i64 y81]) F345 (g_on F345 rfl rfl rfl (lk rfl hT31)) rfl rfl (r_load rfl (F345.ev rfl) (l_part X6.out 0 [.int .i64 y69, .int .i64 y70, .int .i64 y71, .int .i64 y72, .int .i64 y73, .int .i64 y74, .int .i64 y75, .int .i64 y76, .int .i64 y77, .int .i64 y78, .int .i64 y79, .int .i64 y80, .int .i64 y81] rfl Tryd.underlying38 rfl feluccalaw04_DirectBack.sz38)) (fun ac346 F346 => ?_)
                      clear F345 ac345
                      replace h := Option.bind_eq_some_iff.1 h
                      obtain ⟨y86, hy, h⟩ := h
                      refine sc F346 (g_on F346 rfl rfl rfl (lk rfl hT31)) rfl rfl (r_call rfl Tryd.func30 (by kernel_rfl) rfl rfl (m1 (F346.ev rfl))) ?_
                      refine (direct_Right.calls y69 y70 y71 y72 y73 y74 y75 y76 y77 y78 y79 y80 y81 _ _ hy).mono ?_
                      rintro e w28 ⟨rfl, hE⟩
                      clear hy
                      replace X6 := Aside0.mk (blk_below X6.out hE)
                      replace R4 := Aside0.mk (Kd.R_below R4.out hE)
                      replace HB := Aside0.mk (below_step HB.out hE)
                      refine ⟨_, rfl, fun ac347 F347 => ?_⟩
                      clear hE F346 ac346
                      refine sv (v := .bool y86) F347 (run_guard rfl) rfl rfl (r_pick_t rfl (F347.ev (lk rfl hT31)) (F347.ev rfl)) (fun ac348 F348 => ?_)
                      clear F347 ac347
                      refine sv (v := .bool y86) F348 (run_guard rfl) rfl rfl (r_assign rfl (F348.ev rfl)) (fun ac349 F349 => ?_)
                      clear F348 ac348
                      refine c_end F349 ?_
                      refine hK40 _ _ ?_
                      refine wp_ret ?_
                      (try simp only [Exit.then, Exit.inBlock])
                      refine retx (fn := Tryd.f10) F349 (results1 (fn := Tryd.f10) rfl (rv_t (t := 4) (v := .bool y86) F349 rfl)) ?_
                      cases h
                      exact ⟨rfl, HB.out⟩
                    | false =>
                      replace h := cond_f hT31 h
                      refine so F345 (g_off F345 rfl rfl rfl (lk rfl hT31)) rfl rfl (fun ac350 F350 => ?_)
                      clear F345 ac345
                      refine so F350 (g_off F350 rfl rfl rfl (lk rfl hT31)) rfl rfl (fun ac351 F351 => ?_)
                      clear F350 ac350
                      refine sv (v := .bool false) F351 (run_guard rfl) rfl rfl (r_pick_f rfl (F351.ev (lk rfl hT31)) ev_c) (fun ac352 F352 => ?_)
                      clear F351 ac351
                      refine sv (v := .bool false) F352 (run_guard rfl) rfl rfl (r_assign rfl (F352.ev rfl)) (fun ac353 F353 => ?_)
                      clear F352 ac352
                      refine c_end F353 ?_
                      refine hK40 _ _ ?_
                      refine wp_ret ?_
                      (try simp only [Exit.then, Exit.inBlock])
                      refine retx (fn := Tryd.f10) F353 (results1 (fn := Tryd.f10) rfl (rv_t (t := 4) (v := .bool false) F353 rfl)) ?_
                      cases h
                      exact ⟨rfl, HB.out⟩
                  | false =>
                    replace h := cond_f hT30 h
                    refine so F340 (g_off F340 rfl rfl rfl (lk rfl hT30)) rfl rfl (fun ac354 F354 => ?_)
                    clear F340 ac340
                    refine so F354 (g_off F354 rfl rfl rfl (lk rfl hT30)) rfl rfl (fun ac355 F355 => ?_)
                    clear F354 ac354
                    refine so F355 (g_off F355 rfl rfl rfl (lk rfl hT30)) rfl rfl (fun ac356 F356 => ?_)
                    clear F355 ac355
                    refine sv (v := .bool false) F356 (run_guard rfl) rfl rfl (r_pick_f rfl (F356.ev (lk rfl hT30)) ev_c) (fun ac357 F357 => ?_)
                    clear F356 ac356
                    refine sv (v := .bool false) F357 (run_guard rfl) rfl rfl (r_move rfl (F357.ev rfl)) (fun ac358 F358 => ?_)
                    clear F357 ac357
                    refine so F358 (g_off F358 rfl rfl rfl rfl) rfl rfl (fun ac359 F359 => ?_)
                    clear F358 ac358
                    refine so F359 (g_off F359 rfl rfl rfl rfl) rfl rfl (fun ac360 F360 => ?_)
                    clear F359 ac359
                    refine sv (v := .bool false) F360 (run_guard rfl) rfl rfl (r_pick_f rfl (F360.ev rfl) ev_c) (fun ac361 F361 => ?_)
                    clear F360 ac360
                    refine sv (v := .bool false) F361 (run_guard rfl) rfl rfl (r_assign rfl (F361.ev rfl)) (fun ac362 F362 => ?_)
                    clear F361 ac361
                    refine c_end F362 ?_
                    refine hK40 _ _ ?_
                    refine wp_ret ?_
                    (try simp only [Exit.then, Exit.inBlock])
                    refine retx (fn := Tryd.f10) F362 (results1 (fn := Tryd.f10) rfl (rv_t (t := 4) (v := .bool false) F362 rfl)) ?_
                    cases h
                    exact ⟨rfl, HB.out⟩
                | false =>
                  replace h := cond_f hT29 h
                  refine so F337 (g_off F337 rfl rfl rfl (lk rfl hT29)) rfl rfl (fun ac363 F363 => ?_)
                  clear F337 ac337
                  refine sv (v := .bool false) F363 (run_guard rfl) rfl rfl (r_pick_f rfl (F363.ev (lk rfl hT29)) ev_c) (fun ac364 F364 => ?_)
                  clear F363 ac363
                  refine sv (v := .bool false) F364 (run_guard rfl) rfl rfl (r_move rfl (F364.ev rfl)) (fun ac365 F365 => ?_)
                  clear F364 ac364
                  refine so F365 (g_off F365 rfl rfl rfl rfl) rfl rfl (fun ac366 F366 => ?_)
                  clear F365 ac365
                  refine so F366 (g_off F366 rfl rfl rfl rfl) rfl rfl (fun ac367 F367 => ?_)
                  clear F366 ac366
                  refine so F367 (g_off F367 rfl rfl rfl rfl) rfl rfl (fun ac368 F368 => ?_)
                  clear F367 ac367
                  refine sv (v := .bool false) F368 (run_guard rfl) rfl rfl (r_pick_f rfl (F368.ev rfl) ev_c) (fun ac369 F369 => ?_)
                  clear F368 ac368
                  refine sv (v := .bool false) F369 (run_guard rfl) rfl rfl (r_move rfl (F369.ev rfl)) (fun ac370 F370 => ?_)
                  clear F369 ac369
                  refine so F370 (g_off F370 rfl rfl rfl rfl) rfl rfl (fun ac371 F371 => ?_)
                  clear F370 ac370
                  refine so F371 (g_off F371 rfl rfl rfl rfl) rfl rfl (fun ac372 F372 => ?_)
                  clear F371 ac371
                  refine sv (v := .bool false) F372 (run_guard rfl) rfl rfl (r_pick_f rfl (F372.ev rfl) ev_c) (fun ac373 F373 => ?_)
                  clear F372 ac372
                  refine sv (v := .bool false) F373 (run_guard rfl) rfl rfl (r_assign rfl (F373.ev rfl)) (fun ac374 F374 => ?_)
                  clear F373 ac373
                  refine c_end F374 ?_
                  refine hK40 _ _ ?_
                  refine wp_ret ?_
                  (try simp only [Exit.then, Exit.inBlock])
                  refine retx (fn := Tryd.f10) F374 (results1 (fn := Tryd.f10) rfl (rv_t (t := 4) (v := .bool false) F374 rfl)) ?_
                  cases h
                  exact ⟨rfl, HB.out⟩
        | false =>
          replace h := cond_f hT22 h
          refine wp_cond_false (F258.ev (lk rfl hT22)) ?_
          refine wp_skip ?_
          refine hK29 _ _ ?_
          refine wp_seq_k (fun K41 hK41 => ?_)
          clear X1 R1
          refine wp_region_lit ?_
          refine sv (v := .slice A1 l1.length c1) F258 (run_guard rfl) rfl rfl (r_move rfl (F258.ev rfl)) (fun ac375 F375 => ?_)
          clear F258 ac258
          replace h := Option.bind_eq_some_iff.1 h
          obtain ⟨⟨y87, y88, y89, y90, y91, y92, y93, y94, y95, y96, y97, y98, y99, y100⟩, hy, h⟩ := h
          refine sc F375 (run_guard rfl) rfl rfl (r_call rfl Tryd.func28 (by kernel_rfl) rfl rfl (m1 (F375.ev rfl))) ?_
          refine (direct_Parse.calls k A1 c1 l1 _ _ _ _ _ _ _ _ _ _ _ _ _ _ _ (Kd.C_below HR1.out HB.out) HC1.out hy).mono ?_
          rintro e w29 ⟨rfl, hE⟩
          clear hy
          replace HB := Aside0.mk (below_step HB.out hE)
          refine ⟨_, rfl, fun ac376 F376 => ?_⟩
          clear hE F375 ac375
          refine sv (v := .tuple #[.agg #[.int .i64 y87, .int .i64 y88, .int .i64 y89, .int .i64 y90, .int .i64 y91, .int .i64 y92, .int .i64 y93, .int .i64 y94, .int .i64 y95, .int .i64 y96, .int .i64 y97, .int .i64 y98, .int .i64 y99], .int .i64 y100]) F376 (run_guard rfl) rfl rfl (r_move rfl (F376.ev rfl)) (fun ac377 F377 => ?_)
          clear F376 ac376
          refine sv (v := .agg #[.int .i64 y87, .int .i64 y88, .int .i64 y89, .int .i64 y90, .int .i64 y91, .int .i64 y92, .int .i64 y93, .int .i64 y94, .int .i64 y95, .int .i64 y96, .int .i64 y97, .int .i64 y98, .int .i64 y99]) F377 (run_guard rfl) rfl rfl (r_extract rfl (F377.ev rfl) rfl) (fun ac378 F378 => ?_)
          clear F377 ac377
          refine sv (v := .int .i64 y100) F378 (run_guard rfl) rfl rfl (r_extract rfl (F378.ev rfl) rfl) (fun ac379 F379 => ?_)
          clear F378 ac378
          refine s_new (cs := #[.int .i64 0, .int .i64 0, .int .i64 0, .int .i64 0, .int .i64 0, .int .i64 0, .int .i64 0, .int .i64 0, .int .i64 0, .int .i64 0, .int .i64 0, .int .i64 0, .int .i64 0]) F379 (run_guard rfl) rfl rfl (r_alloc rfl (feluccalaw04_DirectBack.zv38 _) rfl) (fun ac380 w30 b7 hb hge hlt hE F380 => ?_)
          clear F379 ac379
          have GEX7 := Aside0.mk (Nat.le_trans HB.out.size hge)
          replace HB := Aside0.mk (below_step HB.out hE)
          have X7 := Aside0.mk hb
          clear hb hge hlt hE
          obtain ⟨w31, hs, hS⟩ := s_part (P := Tryd.prog) (t := 38) (l' := [.int .i64 y87, .int .i64 y88, .int .i64 y89, .int .i64 y90, .int .i64 y91, .int .i64 y92, .int .i64 y93, .int .i64 y94, .int .i64 y95, .int .i64 y96, .int .i64 y97, .int .i64 y98, .int .i64 y99]) X7.out 0 #[.int .i64 y87, .int .i64 y88, .int .i64 y89, .int .i64 y90, .int .i64 y91, .int .i64 y92, .int .i64 y93, .int .i64 y94, .int .i64 y95, .int .i64 y96, .int .i64 y97, .int .i64 y98, .int .i64 y99] rfl rfl feluccalaw04_DirectBack.sz38 rfl
          refine ss F380 (run_guard rfl) rfl (r_store rfl (F380.ev rfl) (F380.ev rfl) hs) ?_
          clear hs
          replace HB := Aside0.mk (HB.out.trans (hS.below _ GEX7.out))
          replace X7 := Aside0.mk hS.here
          clear hS
          refine sv (v := .int .i64 y100) F380 (run_guard rfl) rfl rfl (r_assign rfl (F380.ev rfl)) (fun ac381 F381 => ?_)
          clear F380 ac380
          refine c_end F381 ?_
          refine hK41 _ _ ?_
          refine wp_seq_k (fun K42 hK42 => ?_)
          refine wp_seq_k (fun K43 hK43 => ?_)
          refine wp_region_lit ?_
          refine sv (v := .int .i64 y100) F381 (run_guard rfl) rfl rfl (r_move rfl (F381.ev rfl)) (fun ac382 F382 => ?_)
          clear F381 ac381
          refine sv (v := .bool (!decide (y100 = 0))) F382 (run_guard rfl) rfl rfl (r_neq rfl (F382.ev rfl) ev_c) (fun ac383 F383 => ?_)
          clear F382 ac382
          refine c_end F383 ?_
          refine hK43 _ _ ?_
          cases hT32 : (!decide (y100 = 0)) with
          | true =>
            replace h := cond_t hT32 h
            refine wp_cond_true (F383.ev (lk rfl hT32)) ?_
            refine wp_seq_k (fun K44 hK44 => ?_)
            refine wp_region_lit ?_
            refine sv (v := .bool y1) F383 (run_guard rfl) rfl rfl (r_move rfl (F383.ev rfl)) (fun ac384 F384 => ?_)
            clear F383 ac383
            refine sv (v := .bool y1) F384 (run_guard rfl) rfl rfl (r_move rfl (F384.ev rfl)) (fun ac385 F385 => ?_)
            clear F384 ac384
            cases hT33 : y1 with
            | true =>
              replace h := cond_t hT33 h
              refine sv (v := .agg #[.int .i64 y87, .int .i64 y88, .int .i64 y89, .int .i64 y90, .int .i64 y91, .int .i64 y92, .int .i64 y93, .int .i64 y94, .int .i64 y95, .int .i64 y96, .int .i64 y97, .int .i64 y98, .int .i64 y99]) F385 (g_on F385 rfl rfl rfl (lk rfl hT33)) rfl rfl (r_load rfl (F385.ev rfl) (l_part X7.out 0 [.int .i64 y87, .int .i64 y88, .int .i64 y89, .int .i64 y90, .int .i64 y91, .int .i64 y92, .int .i64 y93, .int .i64 y94, .int .i64 y95, .int .i64 y96, .int .i64 y97, .int .i64 y98, .int .i64 y99] rfl Tryd.underlying38 rfl feluccalaw04_DirectBack.sz38)) (fun ac386 F386 => ?_)
              clear F385 ac385
              refine sv (v := .agg #[.int .i64 0, .int .i64 0, .int .i64 0, .int .i64 0, .int .i64 0, .int .i64 0, .int .i64 0, .int .i64 0, .int .i64 0, .int .i64 0, .int .i64 0, .int .i64 0, .int .i64 0]) F386 (g_on F386 rfl rfl rfl (lk rfl hT33)) rfl rfl (r_build rfl p0 (feluccalaw04_DirectBack.bld38_ _)) (fun ac387 F387 => ?_)
              clear F386 ac386
              refine sv (v := .bool (y87 == 0 && (y88 == 0 && ((y89 == 0 && (y90 == 0 && (y91 == 0 && (y92 == 0 && (y93 == 0 && (y94 == 0)))))) && ((y95 == 0 && (y96 == 0 && (y97 == 0 && (y98 == 0 && (y99 == 0)))))))))) F387 (g_on F387 rfl rfl rfl (lk rfl hT33)) rfl rfl (r_bin rfl (F387.ev rfl) (F387.ev rfl) (eqg_no feluccalaw04_DirectBack.eg38 _) (feluccalaw04_DirectBack.eq38 _ _ _ _ _ _ _ _ _ _ _ _ _ _ _ _ _ _ _ _ _ _ _ _ _ _ _)) (fun ac388 F388 => ?_)
              clear F387 ac387
              refine sv (v := .bool (y87 == 0 && (y88 == 0 && ((y89 == 0 && (y90 == 0 && (y91 == 0 && (y92 == 0 && (y93 == 0 && (y94 == 0)))))) && ((y95 == 0 && (y96 == 0 && (y97 == 0 && (y98 == 0 && (y99 == 0)))))))))) F388 (run_guard rfl) rfl rfl (r_pick_t rfl (F388.ev (lk rfl hT33)) (F388.ev rfl)) (fun ac389 F389 => ?_)
              clear F388 ac388
              refine sv (v := .bool (y87 == 0 && (y88 == 0 && ((y89 == 0 && (y90 == 0 && (y91 == 0 && (y92 == 0 && (y93 == 0 && (y94 == 0)))))) && ((y95 == 0 && (y96 == 0 && (y97 == 0 && (y98 == 0 && (y99 == 0)))))))))) F389 (run_guard rfl) rfl rfl (r_move rfl (F389.ev rfl)) (fun ac390 F390 => ?_)
              clear F389 ac389
              cases hT34 : (y87 == 0 && (y88 == 0 && ((y89 == 0 && (y90 == 0 && (y91 == 0 && (y92 == 0 && (y93 == 0 && (y94 == 0)))))) && ((y95 == 0 && (y96 == 0 && (y97 == 0 && (y98 == 0 && (y99 == 0))))))))) with
              | true =>
                replace h := cond_t hT34 h
                refine sv (v := .int .i64 y100) F390 (g_on F390 rfl rfl rfl (lk rfl hT34)) rfl rfl (r_move rfl (F390.ev rfl)) (fun ac391 F391 => ?_)
                clear F390 ac390
                refine sv (v := .bool (decide (y100 = 2))) F391 (g_on F391 rfl rfl rfl (lk rfl hT34)) rfl rfl (r_eql rfl (F391.ev rfl) ev_c) (fun ac392 F392 => ?_)
                clear F391 ac391
                refine sv (v := .bool (decide (y100 = 2))) F392 (g_on F392 rfl rfl rfl (lk rfl hT34)) rfl rfl (r_move rfl (F392.ev rfl)) (fun ac393 F393 => ?_)
                clear F392 ac392
                cases hT35 : decide (y100 = 2) with
                | true =>
                  replace h := cond_t hT35 h
                  refine so F393 (g_off F393 rfl rfl rfl (lk rfl hT35)) rfl rfl (fun ac394 F394 => ?_)
                  clear F393 ac393
                  refine so F394 (g_off F394 rfl rfl rfl (lk rfl hT35)) rfl rfl (fun ac395 F395 => ?_)
                  clear F394 ac394
                  refine sv (v := .bool true) F395 (g_on F395 rfl rfl rfl (lk rfl hT34)) rfl rfl (r_pick_t rfl (F395.ev (lk rfl hT35)) ev_c) (fun ac396 F396 => ?_)
                  clear F395 ac395
                  refine sv (v := .bool true) F396 (run_guard rfl) rfl rfl (r_pick_t rfl (F396.ev (lk rfl hT34)) (F396.ev rfl)) (fun ac397 F397 => ?_)
                  clear F396 ac396
                  refine sv (v := .bool true) F397 (run_guard rfl) rfl rfl (r_assign rfl (F397.ev rfl)) (fun ac398 F398 => ?_)
                  clear F397 ac397
                  refine c_end F398 ?_
                  refine hK44 _ _ ?_
                  refine wp_ret ?_
                  (try simp only [Exit.then, Exit.inBlock])
                  refine retx (fn := Tryd.f10) F398 (results1 (fn := Tryd.f10) rfl (rv_t (t := 4) (v := .bool true) F398 rfl)) ?_
                  cases h
                  exact ⟨rfl, HB.out⟩
                | false =>
                  replace h := cond_f hT35 h
                  refine sv (v := .int .i64 y100) F393 (g_on F393 rfl rfl rfl (lk rfl hT35)) rfl rfl (r_move rfl (F393.ev rfl)) (fun ac399 F399 => ?_)
                  clear F393 ac393
                  refine sv (v := .bool (decide (y100 = 1))) F399 (g_on F399 rfl rfl rfl (lk rfl hT35)) rfl rfl (r_eql rfl (F399.ev rfl) ev_c) (fun ac400 F400 => ?_)
                  clear F399 ac399
                  refine sv (v := .bool (decide (y100 = 1))) F400 (g_on F400 rfl rfl rfl (lk rfl hT34)) rfl rfl (r_pick_f rfl (F400.ev (lk rfl hT35)) (F400.ev rfl)) (fun ac401 F401 => ?_)
                  clear F400 ac400
                  refine sv (v := .bool (decide (y100 = 1))) F401 (run_guard rfl) rfl rfl (r_pick_t rfl (F401.ev (lk rfl hT34)) (F401.ev rfl)) (fun ac402 F402 => ?_)
                  clear F401 ac401
                  refine sv (v := .bool (decide (y100 = 1))) F402 (run_guard rfl) rfl rfl (r_assign rfl (F402.ev rfl)) (fun ac403 F403 => ?_)
                  clear F402 ac402
                  refine c_end F403 ?_
                  refine hK44 _ _ ?_
                  refine wp_ret ?_
                  (try simp only [Exit.then, Exit.inBlock])
                  refine retx (fn := Tryd.f10) F403 (results1 (fn := Tryd.f10) rfl (rv_t (t := 4) (v := .bool (decide (y100 = 1))) F403 rfl)) ?_
                  cases h
                  exact ⟨rfl, HB.out⟩
              | false =>
                replace h := cond_f hT34 h
                refine so F390 (g_off F390 rfl rfl rfl (lk rfl hT34)) rfl rfl (fun ac404 F404 => ?_)
                clear F390 ac390
                refine so F404 (g_off F404 rfl rfl rfl (lk rfl hT34)) rfl rfl (fun ac405 F405 => ?_)
                clear F404 ac404
                refine so F405 (g_off F405 rfl rfl rfl (lk rfl hT34)) rfl rfl (fun ac406 F406 => ?_)
                clear F405 ac405
                refine so F406 (g_none F406 rfl rfl rfl rfl) rfl rfl (fun ac407 F407 => ?_)
                clear F406 ac406
                refine so F407 (g_none F407 rfl rfl rfl rfl) rfl rfl (fun ac408 F408 => ?_)
                clear F407 ac407
                refine so F408 (g_off F408 rfl rfl rfl (lk rfl hT34)) rfl rfl (fun ac409 F409 => ?_)
                clear F408 ac408
                refine sv (v := .bool false) F409 (run_guard rfl) rfl rfl (r_pick_f rfl (F409.ev (lk rfl hT34)) ev_c) (fun ac410 F410 => ?_)
                clear F409 ac409
                refine sv (v := .bool false) F410 (run_guard rfl) rfl rfl (r_assign rfl (F410.ev rfl)) (fun ac411 F411 => ?_)
                clear F410 ac410
                refine c_end F411 ?_
                refine hK44 _ _ ?_
                refine wp_ret ?_
                (try simp only [Exit.then, Exit.inBlock])
                refine retx (fn := Tryd.f10) F411 (results1 (fn := Tryd.f10) rfl (rv_t (t := 4) (v := .bool false) F411 rfl)) ?_
                cases h
                exact ⟨rfl, HB.out⟩
            | false =>
              replace h := cond_f hT33 h
              refine so F385 (g_off F385 rfl rfl rfl (lk rfl hT33)) rfl rfl (fun ac412 F412 => ?_)
              clear F385 ac385
              refine so F412 (g_off F412 rfl rfl rfl (lk rfl hT33)) rfl rfl (fun ac413 F413 => ?_)
              clear F412 ac412
              refine so F413 (g_off F413 rfl rfl rfl (lk rfl hT33)) rfl rfl (fun ac414 F414 => ?_)
              clear F413 ac413
              refine sv (v := .bool false) F414 (run_guard rfl) rfl rfl (r_pick_f rfl (F414.ev (lk rfl hT33)) ev_c) (fun ac415 F415 => ?_)
              clear F414 ac414
              refine sv (v := .bool false) F415 (run_guard rfl) rfl rfl (r_move rfl (F415.ev rfl)) (fun ac416 F416 => ?_)
              clear F415 ac415
              refine so F416 (g_off F416 rfl rfl rfl rfl) rfl rfl (fun ac417 F417 => ?_)
              clear F416 ac416
              refine so F417 (g_off F417 rfl rfl rfl rfl) rfl rfl (fun ac418 F418 => ?_)
              clear F417 ac417
              refine so F418 (g_off F418 rfl rfl rfl rfl) rfl rfl (fun ac419 F419 => ?_)
              clear F418 ac418
              refine so F419 (g_none F419 rfl rfl rfl rfl) rfl rfl (fun ac420 F420 => ?_)
              clear F419 ac419
              refine so F420 (g_none F420 rfl rfl rfl rfl) rfl rfl (fun ac421 F421 => ?_)
              clear F420 ac420
              refine so F421 (g_off F421 rfl rfl rfl rfl) rfl rfl (fun ac422 F422 => ?_)
              clear F421 ac421
              refine sv (v := .bool false) F422 (run_guard rfl) rfl rfl (r_pick_f rfl (F422.ev rfl) ev_c) (fun ac423 F423 => ?_)
              clear F422 ac422
              refine sv (v := .bool false) F423 (run_guard rfl) rfl rfl (r_assign rfl (F423.ev rfl)) (fun ac424 F424 => ?_)
              clear F423 ac423
              refine c_end F424 ?_
              refine hK44 _ _ ?_
              refine wp_ret ?_
              (try simp only [Exit.then, Exit.inBlock])
              refine retx (fn := Tryd.f10) F424 (results1 (fn := Tryd.f10) rfl (rv_t (t := 4) (v := .bool false) F424 rfl)) ?_
              cases h
              exact ⟨rfl, HB.out⟩
          | false =>
            replace h := cond_f hT32 h
            refine wp_cond_false (F383.ev (lk rfl hT32)) ?_
            refine wp_skip ?_
            refine hK42 _ _ ?_
            refine wp_seq_k (fun K45 hK45 => ?_)
            refine wp_region_lit ?_
            refine sv (v := .agg #[.int .i64 y87, .int .i64 y88, .int .i64 y89, .int .i64 y90, .int .i64 y91, .int .i64 y92, .int .i64 y93, .int .i64 y94, .int .i64 y95, .int .i64 y96, .int .i64 y97, .int .i64 y98, .int .i64 y99]) F383 (run_guard rfl) rfl rfl (r_load rfl (F383.ev rfl) (l_part X7.out 0 [.int .i64 y87, .int .i64 y88, .int .i64 y89, .int .i64 y90, .int .i64 y91, .int .i64 y92, .int .i64 y93, .int .i64 y94, .int .i64 y95, .int .i64 y96, .int .i64 y97, .int .i64 y98, .int .i64 y99] rfl Tryd.underlying38 rfl feluccalaw04_DirectBack.sz38)) (fun ac425 F425 => ?_)
            clear F383 ac383
            replace h := Option.bind_eq_some_iff.1 h
            obtain ⟨⟨y101, y102⟩, hy, h⟩ := h
            refine sc F425 (run_guard rfl) rfl rfl (r_call rfl Tryd.func26 (by kernel_rfl) rfl rfl (m1 (F425.ev rfl))) ?_
            refine (direct_Words.calls k y87 y88 y89 y90 y91 y92 y93 y94 y95 y96 y97 y98 y99 _ _ _ (TabP.below XTabP.out HB.out) hy).mono ?_
            rintro e w32 ⟨v5, rfl, hR0, hE⟩
            clear hy
            replace hR0 := Kd.R_lower hR0 HB.out.size
            replace X7 := Aside0.mk (blk_below X7.out hE)
            replace HB := Aside0.mk (below_step HB.out hE)
            obtain ⟨Aq5, cq5, rfl⟩ := Kd.R_slice hR0
            have R5 := Aside0.mk hR0
            clear hR0
            refine ⟨_, rfl, fun ac426 F426 => ?_⟩
            clear hE F425 ac425
            refine sv (v := .tuple #[.slice Aq5 y101.length cq5, .bool y102]) F426 (run_guard rfl) rfl rfl (r_move rfl (F426.ev rfl)) (fun ac427 F427 => ?_)
            clear F426 ac426
            refine sv (v := .slice Aq5 y101.length cq5) F427 (run_guard rfl) rfl rfl (r_extract rfl (F427.ev rfl) rfl) (fun ac428 F428 => ?_)
            clear F427 ac427
            refine sv (v := .bool y102) F428 (run_guard rfl) rfl rfl (r_extract rfl (F428.ev rfl) rfl) (fun ac429 F429 => ?_)
            clear F428 ac428
            refine sv (v := .slice Aq5 y101.length cq5) F429 (run_guard rfl) rfl rfl (r_assign rfl (F429.ev rfl)) (fun ac430 F430 => ?_)
            clear F429 ac429
            refine sv (v := .bool y102) F430 (run_guard rfl) rfl rfl (r_assign rfl (F430.ev rfl)) (fun ac431 F431 => ?_)
            clear F430 ac430
            refine c_end F431 ?_
            refine hK45 _ _ ?_
            refine wp_seq_k (fun K46 hK46 => ?_)
            refine wp_region_lit ?_
            refine sv (v := .bool y1) F431 (run_guard rfl) rfl rfl (r_move rfl (F431.ev rfl)) (fun ac432 F432 => ?_)
            clear F431 ac431
            refine sv (v := .bool y1) F432 (run_guard rfl) rfl rfl (r_move rfl (F432.ev rfl)) (fun ac433 F433 => ?_)
            clear F432 ac432
            cases hT36 : y1 with
            | true =>
              replace h := cond_t hT36 h
              refine sv (v := .bool y102) F433 (g_on F433 rfl rfl rfl (lk rfl hT36)) rfl rfl (r_move rfl (F433.ev rfl)) (fun ac434 F434 => ?_)
              clear F433 ac433
              refine sv (v := .bool y102) F434 (run_guard rfl) rfl rfl (r_pick_t rfl (F434.ev (lk rfl hT36)) (F434.ev rfl)) (fun ac435 F435 => ?_)
              clear F434 ac434
              refine sv (v := .bool y102) F435 (run_guard rfl) rfl rfl (r_move rfl (F435.ev rfl)) (fun ac436 F436 => ?_)
              clear F435 ac435
              cases hT37 : y102 with
              | true =>
                replace h := cond_t hT37 h
                refine sv (v := .slice Aq5 y101.length cq5) F436 (g_on F436 rfl rfl rfl (lk rfl hT37)) rfl rfl (r_move rfl (F436.ev rfl)) (fun ac437 F437 => ?_)
                clear F436 ac436
                refine sv (v := .slice A1 l1.length c1) F437 (g_on F437 rfl rfl rfl (lk rfl hT37)) rfl rfl (r_move rfl (F437.ev rfl)) (fun ac438 F438 => ?_)
                clear F437 ac437
                replace h := Option.bind_eq_some_iff.1 h
                obtain ⟨y103, hy, h⟩ := h
                refine sc F438 (g_on F438 rfl rfl rfl (lk rfl hT37)) rfl rfl (r_call rfl Tryd.func32 (by kernel_rfl) rfl rfl (m2 (F438.ev rfl) (F438.ev rfl))) ?_
                refine (feluccaref02_Same.calls k Aq5 cq5 y101 A1 c1 l1 _ _ (Kd.R_reads' R5.out).2.2 (Kd.R_reads' R5.out).2.1 (Kd.C_below HR1.out HB.out) HC1.out hy).mono ?_
                rintro e w33 ⟨rfl, hE⟩
                clear hy
                replace X7 := Aside0.mk (blk_below X7.out hE)
                replace R5 := Aside0.mk (Kd.R_below R5.out hE)
                replace HB := Aside0.mk (below_step HB.out hE)
                refine ⟨_, rfl, fun ac439 F439 => ?_⟩
                clear hE F438 ac438
                refine sv (v := .bool y103) F439 (run_guard rfl) rfl rfl (r_pick_t rfl (F439.ev (lk rfl hT37)) (F439.ev rfl)) (fun ac440 F440 => ?_)
                clear F439 ac439
                refine sv (v := .bool y103) F440 (run_guard rfl) rfl rfl (r_move rfl (F440.ev rfl)) (fun ac441 F441 => ?_)
                clear F440 ac440
                cases hT38 : y103 with
                | true =>
                  replace h := cond_t hT38 h
                  refine sv (v := .agg #[.int .i64 y87, .int .i64 y88, .int .i64 y89, .int .i64 y90, .int .i64 y91, .int .i64 y92, .int .i64 y93, .int .i64 y94, .int .i64 y95, .int .i64 y96, .int .i64 y97, .int .i64 y98, .int .i64 y99]) F441 (g_on F441 rfl rfl rfl (lk rfl hT38)) rfl rfl (r_load rfl (F441.ev rfl) (l_part X7.out 0 [.int .i64 y87, .int .i64 y88, .int .i64 y89, .int .i64 y90, .int .i64 y91, .int .i64 y92, .int .i64 y93, .int .i64 y94, .int .i64 y95, .int .i64 y96, .int .i64 y97, .int .i64 y98, .int .i64 y99] rfl Tryd.underlying38 rfl feluccalaw04_DirectBack.sz38)) (fun ac442 F442 => ?_)
                  clear F441 ac441
                  replace h := Option.bind_eq_some_iff.1 h
                  obtain ⟨y104, hy, h⟩ := h
                  refine sc F442 (g_on F442 rfl rfl rfl (lk rfl hT38)) rfl rfl (r_call rfl Tryd.func30 (by kernel_rfl) rfl rfl (m1 (F442.ev rfl))) ?_
                  refine (direct_Right.calls y87 y88 y89 y90 y91 y92 y93 y94 y95 y96 y97 y98 y99 _ _ hy).mono ?_
                  rintro e w34 ⟨rfl, hE⟩
                  clear hy
                  replace X7 := Aside0.mk (blk_below X7.out hE)
                  replace R5 := Aside0.mk (Kd.R_below R5.out hE)
                  replace HB := Aside0.mk (below_step HB.out hE)
                  refine ⟨_, rfl, fun ac443 F443 => ?_⟩
                  clear hE F442 ac442
                  refine sv (v := .bool y104) F443 (run_guard rfl) rfl rfl (r_pick_t rfl (F443.ev (lk rfl hT38)) (F443.ev rfl)) (fun ac444 F444 => ?_)
                  clear F443 ac443
                  refine sv (v := .bool y104) F444 (run_guard rfl) rfl rfl (r_assign rfl (F444.ev rfl)) (fun ac445 F445 => ?_)
                  clear F444 ac444
                  refine c_end F445 ?_
                  refine hK46 _ _ ?_
                  refine wp_ret ?_
                  (try simp only [Exit.then, Exit.inBlock])
                  refine retx (fn := Tryd.f10) F445 (results1 (fn := Tryd.f10) rfl (rv_t (t := 4) (v := .bool y104) F445 rfl)) ?_
                  cases h
                  exact ⟨rfl, HB.out⟩
                | false =>
                  replace h := cond_f hT38 h
                  refine so F441 (g_off F441 rfl rfl rfl (lk rfl hT38)) rfl rfl (fun ac446 F446 => ?_)
                  clear F441 ac441
                  refine so F446 (g_off F446 rfl rfl rfl (lk rfl hT38)) rfl rfl (fun ac447 F447 => ?_)
                  clear F446 ac446
                  refine sv (v := .bool false) F447 (run_guard rfl) rfl rfl (r_pick_f rfl (F447.ev (lk rfl hT38)) ev_c) (fun ac448 F448 => ?_)
                  clear F447 ac447
                  refine sv (v := .bool false) F448 (run_guard rfl) rfl rfl (r_assign rfl (F448.ev rfl)) (fun ac449 F449 => ?_)
                  clear F448 ac448
                  refine c_end F449 ?_
                  refine hK46 _ _ ?_
                  refine wp_ret ?_
                  (try simp only [Exit.then, Exit.inBlock])
                  refine retx (fn := Tryd.f10) F449 (results1 (fn := Tryd.f10) rfl (rv_t (t := 4) (v := .bool false) F449 rfl)) ?_
                  cases h
                  exact ⟨rfl, HB.out⟩
              | false =>
                replace h := cond_f hT37 h
                refine so F436 (g_off F436 rfl rfl rfl (lk rfl hT37)) rfl rfl (fun ac450 F450 => ?_)
                clear F436 ac436
                refine so F450 (g_off F450 rfl rfl rfl (lk rfl hT37)) rfl rfl (fun ac451 F451 => ?_)
                clear F450 ac450
                refine so F451 (g_off F451 rfl rfl rfl (lk rfl hT37)) rfl rfl (fun ac452 F452 => ?_)
                clear F451 ac451
                refine sv (v := .bool false) F452 (run_guard rfl) rfl rfl (r_pick_f rfl (F452.ev (lk rfl hT37)) ev_c) (fun ac453 F453 => ?_)
                clear F452 ac452
                refine sv (v := .bool false) F453 (run_guard rfl) rfl rfl (r_move rfl (F453.ev rfl)) (fun ac454 F454 => ?_)
                clear F453 ac453
                refine so F454 (g_off F454 rfl rfl rfl rfl) rfl rfl (fun ac455 F455 => ?_)
                clear F454 ac454
                refine so F455 (g_off F455 rfl rfl rfl rfl) rfl rfl (fun ac456 F456 => ?_)
                clear F455 ac455
                refine sv (v := .bool false) F456 (run_guard rfl) rfl rfl (r_pick_f rfl (F456.ev rfl) ev_c) (fun ac457 F457 => ?_)
                clear F456 ac456
                refine sv (v := .bool false) F457 (run_guard rfl) rfl rfl (r_assign rfl (F457.ev rfl)) (fun ac458 F458 => ?_)
                clear F457 ac457
                refine c_end F458 ?_
                refine hK46 _ _ ?_
                refine wp_ret ?_
                (try simp only [Exit.then, Exit.inBlock])
                refine retx (fn := Tryd.f10) F458 (results1 (fn := Tryd.f10) rfl (rv_t (t := 4) (v := .bool false) F458 rfl)) ?_
                cases h
                exact ⟨rfl, HB.out⟩
            | false =>
              replace h := cond_f hT36 h
              refine so F433 (g_off F433 rfl rfl rfl (lk rfl hT36)) rfl rfl (fun ac459 F459 => ?_)
              clear F433 ac433
              refine sv (v := .bool false) F459 (run_guard rfl) rfl rfl (r_pick_f rfl (F459.ev (lk rfl hT36)) ev_c) (fun ac460 F460 => ?_)
              clear F459 ac459
              refine sv (v := .bool false) F460 (run_guard rfl) rfl rfl (r_move rfl (F460.ev rfl)) (fun ac461 F461 => ?_)
              clear F460 ac460
              refine so F461 (g_off F461 rfl rfl rfl rfl) rfl rfl (fun ac462 F462 => ?_)
              clear F461 ac461
              refine so F462 (g_off F462 rfl rfl rfl rfl) rfl rfl (fun ac463 F463 => ?_)
              clear F462 ac462
              refine so F463 (g_off F463 rfl rfl rfl rfl) rfl rfl (fun ac464 F464 => ?_)
              clear F463 ac463
              refine sv (v := .bool false) F464 (run_guard rfl) rfl rfl (r_pick_f rfl (F464.ev rfl) ev_c) (fun ac465 F465 => ?_)
              clear F464 ac464
              refine sv (v := .bool false) F465 (run_guard rfl) rfl rfl (r_move rfl (F465.ev rfl)) (fun ac466 F466 => ?_)
              clear F465 ac465
              refine so F466 (g_off F466 rfl rfl rfl rfl) rfl rfl (fun ac467 F467 => ?_)
              clear F466 ac466
              refine so F467 (g_off F467 rfl rfl rfl rfl) rfl rfl (fun ac468 F468 => ?_)
              clear F467 ac467
              refine sv (v := .bool false) F468 (run_guard rfl) rfl rfl (r_pick_f rfl (F468.ev rfl) ev_c) (fun ac469 F469 => ?_)
              clear F468 ac468
              refine sv (v := .bool false) F469 (run_guard rfl) rfl rfl (r_assign rfl (F469.ev rfl)) (fun ac470 F470 => ?_)
              clear F469 ac469
              refine c_end F470 ?_
              refine hK46 _ _ ?_
              refine wp_ret ?_
              (try simp only [Exit.then, Exit.inBlock])
              refine retx (fn := Tryd.f10) F470 (results1 (fn := Tryd.f10) rfl (rv_t (t := 4) (v := .bool false) F470 rfl)) ?_
              cases h
              exact ⟨rfl, HB.out⟩
end Go.Proofs.YtndijkndllpkgaaDoor.Pr
