/- The walk of feluccalaw04.DirectKinds by explicit steps (wip/xw.py). -/
import Derived.Test.YtndijkndllpkgaaDoorWalkAC
namespace Go.Proofs.YtndijkndllpkgaaDoor.Pr
open Go.RowKit Go.Proofs.YtndijkndllpkgaaDoorW.PrintWords Go.Proofs.YtndijkndllpkgaaDoorW.PrintLast Go.Proofs.YtndijkndllpkgaaDoorW.PrintMore Go.Proofs.YtndijkndllpkgaaDoor.X
set_option linter.unusedVariables false
set_option linter.unusedSimpArgs false
theorem feluccalaw04_DirectKinds.sz34 : (Tryd.prog.info? 34).map (·.size) = some 6 := by
  kernel_rfl
theorem feluccalaw04_DirectKinds.sz36 : (Tryd.prog.info? 36).map (·.size) = some 5 := by
  kernel_rfl
theorem feluccalaw04_DirectKinds.bld38_0_1_2 (p0_0 : Int) (p1_0 : Int) (p2_0 : Int) (p2_1 : Int) (p2_2 : Int) (p2_3 : Int) (p2_4 : Int) (p2_5 : Int) (w : World) : (Instr.build 38 #[(0, .int .i64 p0_0), (1, .int .i64 p1_0), (2, .agg #[.int .i64 p2_0, .int .i64 p2_1, .int .i64 p2_2, .int .i64 p2_3, .int .i64 p2_4, .int .i64 p2_5])]).run Tryd.prog w = .ok (.agg #[.int .i64 p0_0, .int .i64 p1_0, .int .i64 p2_0, .int .i64 p2_1, .int .i64 p2_2, .int .i64 p2_3, .int .i64 p2_4, .int .i64 p2_5, .int .i64 0, .int .i64 0, .int .i64 0, .int .i64 0, .int .i64 0]) w := by
  first | (go_simp; done) | (go_simp; rfl) | rfl
theorem feluccalaw04_DirectKinds.fa34_0 (b o : Nat) (w : World) : (Instr.fieldAt 34 (.pointer (some ⟨b, o, none⟩)) 0).run Tryd.prog w = .ok (.pointer (some ⟨b, o, none⟩)) w := by
  first | (go_simp; done) | (simp [Instr.fieldAt, Instr.sureAddr, Sem.run_bind, run_underlying Tryd.underlying34, fieldPlace, sizeOf, typeInfo, Addr.add]; done) | (go_simp; simp [Addr.add])
theorem feluccalaw04_DirectKinds.bld34_0 (p0_0 : Int) (w : World) : (Instr.build 34 #[(0, .int .i64 p0_0)]).run Tryd.prog w = .ok (.agg #[.int .i64 p0_0, .int .i64 0, .int .i64 0, .int .i64 0, .int .i64 0, .int .i64 0]) w := by
  first | (go_simp; done) | (go_simp; rfl) | rfl
theorem feluccalaw04_DirectKinds.fa34_5 (b o : Nat) (w : World) : (Instr.fieldAt 34 (.pointer (some ⟨b, o, none⟩)) 5).run Tryd.prog w = .ok (.pointer (some ⟨b, o + 5, none⟩)) w := by
  first | (go_simp; done) | (simp [Instr.fieldAt, Instr.sureAddr, Sem.run_bind, run_underlying Tryd.underlying34, fieldPlace, sizeOf, typeInfo, Addr.add]; done) | (go_simp; simp [Addr.add])
theorem feluccalaw04_DirectKinds.bld34_0_5 (p0_0 : Int) (p1_0 : Int) (w : World) : (Instr.build 34 #[(0, .int .i64 p0_0), (5, .int .i64 p1_0)]).run Tryd.prog w = .ok (.agg #[.int .i64 p0_0, .int .i64 0, .int .i64 0, .int .i64 0, .int .i64 0, .int .i64 p1_0]) w := by
  first | (go_simp; done) | (go_simp; rfl) | rfl
theorem feluccalaw04_DirectKinds.bld38_0_1_3 (p0_0 : Int) (p1_0 : Int) (p2_0 : Int) (p2_1 : Int) (p2_2 : Int) (p2_3 : Int) (p2_4 : Int) (w : World) : (Instr.build 38 #[(0, .int .i64 p0_0), (1, .int .i64 p1_0), (3, .agg #[.int .i64 p2_0, .int .i64 p2_1, .int .i64 p2_2, .int .i64 p2_3, .int .i64 p2_4])]).run Tryd.prog w = .ok (.agg #[.int .i64 p0_0, .int .i64 p1_0, .int .i64 0, .int .i64 0, .int .i64 0, .int .i64 0, .int .i64 0, .int .i64 0, .int .i64 p2_0, .int .i64 p2_1, .int .i64 p2_2, .int .i64 p2_3, .int .i64 p2_4]) w := by
  first | (go_simp; done) | (go_simp; rfl) | rfl
theorem feluccalaw04_DirectKinds.fa36_0 (b o : Nat) (w : World) : (Instr.fieldAt 36 (.pointer (some ⟨b, o, none⟩)) 0).run Tryd.prog w = .ok (.pointer (some ⟨b, o, none⟩)) w := by
  first | (go_simp; done) | (simp [Instr.fieldAt, Instr.sureAddr, Sem.run_bind, run_underlying Tryd.underlying36, fieldPlace, sizeOf, typeInfo, Addr.add]; done) | (go_simp; simp [Addr.add])
theorem feluccalaw04_DirectKinds.fa36_1 (b o : Nat) (w : World) : (Instr.fieldAt 36 (.pointer (some ⟨b, o, none⟩)) 1).run Tryd.prog w = .ok (.pointer (some ⟨b, o + 1, none⟩)) w := by
  first | (go_simp; done) | (simp [Instr.fieldAt, Instr.sureAddr, Sem.run_bind, run_underlying Tryd.underlying36, fieldPlace, sizeOf, typeInfo, Addr.add]; done) | (go_simp; simp [Addr.add])
theorem feluccalaw04_DirectKinds.fa36_2 (b o : Nat) (w : World) : (Instr.fieldAt 36 (.pointer (some ⟨b, o, none⟩)) 2).run Tryd.prog w = .ok (.pointer (some ⟨b, o + 2, none⟩)) w := by
  first | (go_simp; done) | (simp [Instr.fieldAt, Instr.sureAddr, Sem.run_bind, run_underlying Tryd.underlying36, fieldPlace, sizeOf, typeInfo, Addr.add]; done) | (go_simp; simp [Addr.add])
theorem feluccalaw04_DirectKinds.bld36_0_1_2 (p0_0 : Int) (p1_0 : Int) (p2_0 : Int) (w : World) : (Instr.build 36 #[(0, .int .i64 p0_0), (1, .int .i64 p1_0), (2, .int .i64 p2_0)]).run Tryd.prog w = .ok (.agg #[.int .i64 p0_0, .int .i64 p1_0, .int .i64 p2_0, .int .i64 0, .int .i64 0]) w := by
  first | (go_simp; done) | (go_simp; rfl) | rfl
theorem feluccalaw04_DirectKinds.fa36_4 (b o : Nat) (w : World) : (Instr.fieldAt 36 (.pointer (some ⟨b, o, none⟩)) 4).run Tryd.prog w = .ok (.pointer (some ⟨b, o + 4, none⟩)) w := by
  first | (go_simp; done) | (simp [Instr.fieldAt, Instr.sureAddr, Sem.run_bind, run_underlying Tryd.underlying36, fieldPlace, sizeOf, typeInfo, Addr.add]; done) | (go_simp; simp [Addr.add])
theorem feluccalaw04_DirectKinds.bld36_0_1_2_4 (p0_0 : Int) (p1_0 : Int) (p2_0 : Int) (p3_0 : Int) (w : World) : (Instr.build 36 #[(0, .int .i64 p0_0), (1, .int .i64 p1_0), (2, .int .i64 p2_0), (4, .int .i64 p3_0)]).run Tryd.prog w = .ok (.agg #[.int .i64 p0_0, .int .i64 p1_0, .int .i64 p2_0, .int .i64 0, .int .i64 p3_0]) w := by
  first | (go_simp; done) | (go_simp; rfl) | rfl
theorem feluccalaw04_DirectKinds.bld36_0 (p0_0 : Int) (w : World) : (Instr.build 36 #[(0, .int .i64 p0_0)]).run Tryd.prog w = .ok (.agg #[.int .i64 p0_0, .int .i64 0, .int .i64 0, .int .i64 0, .int .i64 0]) w := by
  first | (go_simp; done) | (go_simp; rfl) | rfl
theorem feluccalaw04_DirectKinds.bld38_0_1_2_3 (p0_0 : Int) (p1_0 : Int) (p2_0 : Int) (p2_1 : Int) (p2_2 : Int) (p2_3 : Int) (p2_4 : Int) (p2_5 : Int) (p3_0 : Int) (p3_1 : Int) (p3_2 : Int) (p3_3 : Int) (p3_4 : Int) (w : World) : (Instr.build 38 #[(0, .int .i64 p0_0), (1, .int .i64 p1_0), (2, .agg #[.int .i64 p2_0, .int .i64 p2_1, .int .i64 p2_2, .int .i64 p2_3, .int .i64 p2_4, .int .i64 p2_5]), (3, .agg #[.int .i64 p3_0, .int .i64 p3_1, .int .i64 p3_2, .int .i64 p3_3, .int .i64 p3_4])]).run Tryd.prog w = .ok (.agg #[.int .i64 p0_0, .int .i64 p1_0, .int .i64 p2_0, .int .i64 p2_1, .int .i64 p2_2, .int .i64 p2_3, .int .i64 p2_4, .int .i64 p2_5, .int .i64 p3_0, .int .i64 p3_1, .int .i64 p3_2, .int .i64 p3_3, .int .i64 p3_4]) w := by
  first | (go_simp; done) | (go_simp; rfl) | rfl
def feluccalaw04_DirectKinds.f (k : Nat) (a0_0 : Int) (a0_1 : Int) (a0_2 : Int) (a0_3 : Int) (a0_4 : Int) (a0_5 : Int) (a1_0 : Int) (a1_1 : Int) (a1_2 : Int) (a1_3 : Int) (a1_4 : Int) : Option (Bool) := (feluccalaw04_small.f k).bind fun y1 => ((check_Contact.f a0_0 a0_1 a0_2 a0_3 a0_4 a0_5).bind fun y2 => ((check_Range.f a1_0 a1_1 a1_2 a1_3 a1_4).bind fun y3 => ((direct_Right.f 1 1 a0_0 a0_1 a0_2 a0_3 a0_4 a0_5 0 0 0 0 0).bind fun y4 => ((direct_Right.f 2 1 a0_0 0 0 0 0 0 0 0 0 0 0).bind fun y5 => ((direct_Right.f 3 1 a0_0 0 0 0 0 a0_5 0 0 0 0 0).bind fun y6 => ((direct_Right.f 1 2 0 0 0 0 0 0 a1_0 a1_1 a1_2 a1_3 a1_4).bind fun y7 => ((direct_Right.f 2 2 0 0 0 0 0 0 a1_0 a1_1 a1_2 0 0).bind fun y8 => ((direct_Right.f 3 2 0 0 0 0 0 0 a1_0 a1_1 a1_2 0 a1_4).bind fun y9 => ((direct_Right.f 1 1 a0_0 a0_1 a0_2 a0_3 a0_4 a0_5 1 0 0 0 0).bind fun y10 => (bif y1 then (bif (y4 == y2) then (bif (y7 == y3) then (bif (!y2) then (bif (!y3) then (bif (!y10) then (bif (!y6) then (bif (!y9) then (some true) else (some y8)) else (bif y5 then (bif (!y9) then (some true) else (some y8)) else (some false))) else (some false)) else (bif y8 then (bif y9 then (bif (!y10) then (bif (!y6) then (some true) else (bif y5 then (some true) else (some false))) else (some false)) else (some false)) else (some false))) else (bif y5 then (bif y6 then (bif (!y3) then (bif (!y10) then (bif (!y9) then (some true) else (some y8)) else (some false)) else (bif y8 then (bif y9 then (bif (!y10) then (some true) else (some false)) else (some false)) else (some false))) else (some false)) else (some false))) else (some false)) else (some false)) else (some false)))))))))))
set_option maxHeartbeats 4000000 in
set_option maxRecDepth 100000 in
theorem feluccalaw04_DirectKinds.calls (k : Nat) (a0_0 : Int) (a0_1 : Int) (a0_2 : Int) (a0_3 : Int) (a0_4 : Int) (a0_5 : Int) (a1_0 : Int) (a1_1 : Int) (a1_2 : Int) (a1_3 : Int) (a1_4 : Int) (r : Bool) (w : World) (hTabP : TabP w) (h : feluccalaw04_DirectKinds.f k a0_0 a0_1 a0_2 a0_3 a0_4 a0_5 a1_0 a1_1 a1_2 a1_3 a1_4 = some r) :
    Calls Tryd.prog 12 #[.agg #[.int .i64 a0_0, .int .i64 a0_1, .int .i64 a0_2, .int .i64 a0_3, .int .i64 a0_4, .int .i64 a0_5], .agg #[.int .i64 a1_0, .int .i64 a1_1, .int .i64 a1_2, .int .i64 a1_3, .int .i64 a1_4]] w fun e w' => e = .returned (.bool r) ∧ Below w.heap.size w w' := by
  unfold feluccalaw04_DirectKinds.f at h
  have XTabP := Aside0.mk hTabP
  clear hTabP
  have HB := Aside0.mk (Below.refl w.heap.size w)
  refine calls_x (args := [.agg #[.int .i64 a0_0, .int .i64 a0_1, .int .i64 a0_2, .int .i64 a0_3, .int .i64 a0_4, .int .i64 a0_5], .agg #[.int .i64 a1_0, .int .i64 a1_1, .int .i64 a1_2, .int .i64 a1_3, .int .i64 a1_4]]) Tryd.func12 rfl 111 111 rfl rfl (fun ac0 F0 => ?_)
  refine wp_seq_k (fun K1 hK1 => ?_)
  refine wp_region_lit ?_
  refine s_new (cs := #[.int .i64 a0_0, .int .i64 a0_1, .int .i64 a0_2, .int .i64 a0_3, .int .i64 a0_4, .int .i64 a0_5]) F0 (run_guard rfl) rfl rfl (r_box rfl (F0.ev rfl) rfl) (fun ac1 w1 b1 hb hge hlt hE F1 => ?_)
  clear F0 ac0
  have GEX1 := Aside0.mk (Nat.le_trans HB.out.size hge)
  replace HB := Aside0.mk (below_step HB.out hE)
  have X1 := Aside0.mk hb
  clear hb hge hlt hE
  refine s_new (cs := #[.int .i64 a1_0, .int .i64 a1_1, .int .i64 a1_2, .int .i64 a1_3, .int .i64 a1_4]) F1 (run_guard rfl) rfl rfl (r_box rfl (F1.ev rfl) rfl) (fun ac2 w2 b2 hb hge hlt hE F2 => ?_)
  clear F1 ac1
  have GEX2 := Aside0.mk (Nat.le_trans HB.out.size hge)
  have LTX1_X2 := Aside0.mk (Nat.lt_of_lt_of_le (blk_lt X1.out) hge)
  replace X1 := Aside0.mk (blk_below X1.out hE)
  replace HB := Aside0.mk (below_step HB.out hE)
  have X2 := Aside0.mk hb
  clear hb hge hlt hE
  refine sv (v := .bool false) F2 (run_guard rfl) rfl rfl (r_assign rfl ev_c) (fun ac3 F3 => ?_)
  clear F2 ac2
  refine c_end F3 ?_
  refine hK1 _ _ ?_
  refine wp_seq_k (fun K2 hK2 => ?_)
  refine wp_region_lit ?_
  replace h := Option.bind_eq_some_iff.1 h
  obtain ⟨y1, hy, h⟩ := h
  refine sc F3 (run_guard rfl) rfl rfl (r_call rfl Tryd.func25 (by kernel_rfl) rfl rfl m0) ?_
  refine (feluccalaw04_small.calls k _ _ (TabP.below XTabP.out HB.out) hy).mono ?_
  rintro e w3 ⟨rfl, hE⟩
  clear hy
  replace X1 := Aside0.mk (blk_below X1.out hE)
  replace X2 := Aside0.mk (blk_below X2.out hE)
  replace HB := Aside0.mk (below_step HB.out hE)
  refine ⟨_, rfl, fun ac4 F4 => ?_⟩
  clear hE F3 ac3
  refine sv (v := .bool y1) F4 (run_guard rfl) rfl rfl (r_assign rfl (F4.ev rfl)) (fun ac5 F5 => ?_)
  clear F4 ac4
  refine c_end F5 ?_
  refine hK2 _ _ ?_
  refine wp_seq_k (fun K3 hK3 => ?_)
  refine wp_region_lit ?_
  refine sv (v := .agg #[.int .i64 a0_0, .int .i64 a0_1, .int .i64 a0_2, .int .i64 a0_3, .int .i64 a0_4, .int .i64 a0_5]) F5 (run_guard rfl) rfl rfl (r_load rfl (F5.ev rfl) (l_part X1.out 0 [.int .i64 a0_0, .int .i64 a0_1, .int .i64 a0_2, .int .i64 a0_3, .int .i64 a0_4, .int .i64 a0_5] rfl Tryd.underlying34 rfl feluccalaw04_DirectKinds.sz34)) (fun ac6 F6 => ?_)
  clear F5 ac5
  replace h := Option.bind_eq_some_iff.1 h
  obtain ⟨y2, hy, h⟩ := h
  refine sc F6 (run_guard rfl) rfl rfl (r_call rfl Tryd.func33 (by kernel_rfl) rfl rfl (m1 (F6.ev rfl))) ?_
  refine (check_Contact.calls a0_0 a0_1 a0_2 a0_3 a0_4 a0_5 _ _ hy).mono ?_
  rintro e w4 ⟨rfl, hE⟩
  clear hy
  replace X1 := Aside0.mk (blk_below X1.out hE)
  replace X2 := Aside0.mk (blk_below X2.out hE)
  replace HB := Aside0.mk (below_step HB.out hE)
  refine ⟨_, rfl, fun ac7 F7 => ?_⟩
  clear hE F6 ac6
  refine sv (v := .bool y2) F7 (run_guard rfl) rfl rfl (r_assign rfl (F7.ev rfl)) (fun ac8 F8 => ?_)
  clear F7 ac7
  refine c_end F8 ?_
  refine hK3 _ _ ?_
  refine wp_seq_k (fun K4 hK4 => ?_)
  refine wp_region_lit ?_
  refine sv (v := .agg #[.int .i64 a1_0, .int .i64 a1_1, .int .i64 a1_2, .int .i64 a1_3, .int .i64 a1_4]) F8 (run_guard rfl) rfl rfl (r_load rfl (F8.ev rfl) (l_part X2.out 0 [.int .i64 a1_0, .int .i64 a1_1, .int .i64 a1_2, .int .i64 a1_3, .int .i64 a1_4] rfl Tryd.underlying36 rfl feluccalaw04_DirectKinds.sz36)) (fun ac9 F9 => ?_)
  clear F8 ac8
  replace h := Option.bind_eq_some_iff.1 h
  obtain ⟨y3, hy, h⟩ := h
  refine sc F9 (run_guard rfl) rfl rfl (r_call rfl Tryd.func34 (by kernel_rfl) rfl rfl (m1 (F9.ev rfl))) ?_
  refine (check_Range.calls a1_0 a1_1 a1_2 a1_3 a1_4 _ _ hy).mono ?_
  rintro e w5 ⟨rfl, hE⟩
  clear hy
  replace X1 := Aside0.mk (blk_below X1.out hE)
  replace X2 := Aside0.mk (blk_below X2.out hE)
  replace HB := Aside0.mk (below_step HB.out hE)
  refine ⟨_, rfl, fun ac10 F10 => ?_⟩
  clear hE F9 ac9
  refine sv (v := .bool y3) F10 (run_guard rfl) rfl rfl (r_assign rfl (F10.ev rfl)) (fun ac11 F11 => ?_)
  clear F10 ac10
  refine c_end F11 ?_
  refine hK4 _ _ ?_
  refine wp_seq_k (fun K5 hK5 => ?_)
  refine wp_region_lit ?_
  refine sv (v := .agg #[.int .i64 a0_0, .int .i64 a0_1, .int .i64 a0_2, .int .i64 a0_3, .int .i64 a0_4, .int .i64 a0_5]) F11 (run_guard rfl) rfl rfl (r_load rfl (F11.ev rfl) (l_part X1.out 0 [.int .i64 a0_0, .int .i64 a0_1, .int .i64 a0_2, .int .i64 a0_3, .int .i64 a0_4, .int .i64 a0_5] rfl Tryd.underlying34 rfl feluccalaw04_DirectKinds.sz34)) (fun ac12 F12 => ?_)
  clear F11 ac11
  refine sv (v := .agg #[.int .i64 1, .int .i64 1, .int .i64 a0_0, .int .i64 a0_1, .int .i64 a0_2, .int .i64 a0_3, .int .i64 a0_4, .int .i64 a0_5, .int .i64 0, .int .i64 0, .int .i64 0, .int .i64 0, .int .i64 0]) F12 (run_guard rfl) rfl rfl (r_build rfl (p3 ev_c ev_c (F12.ev rfl)) (feluccalaw04_DirectKinds.bld38_0_1_2 _ _ _ _ _ _ _ _ _)) (fun ac13 F13 => ?_)
  clear F12 ac12
  replace h := Option.bind_eq_some_iff.1 h
  obtain ⟨y4, hy, h⟩ := h
  refine sc F13 (run_guard rfl) rfl rfl (r_call rfl Tryd.func30 (by kernel_rfl) rfl rfl (m1 (F13.ev rfl))) ?_
  refine (direct_Right.calls 1 1 a0_0 a0_1 a0_2 a0_3 a0_4 a0_5 0 0 0 0 0 _ _ hy).mono ?_
  rintro e w6 ⟨rfl, hE⟩
  clear hy
  replace X1 := Aside0.mk (blk_below X1.out hE)
  replace X2 := Aside0.mk (blk_below X2.out hE)
  replace HB := Aside0.mk (below_step HB.out hE)
  refine ⟨_, rfl, fun ac14 F14 => ?_⟩
  clear hE F13 ac13
  refine sv (v := .bool y4) F14 (run_guard rfl) rfl rfl (r_assign rfl (F14.ev rfl)) (fun ac15 F15 => ?_)
  clear F14 ac14
  refine c_end F15 ?_
  refine hK5 _ _ ?_
  refine wp_seq_k (fun K6 hK6 => ?_)
  refine wp_region_lit ?_
  refine sv (v := .pointer (some ⟨b1, 0, none⟩)) F15 (run_guard rfl) rfl rfl (r_fieldAddr rfl (F15.ev rfl) (feluccalaw04_DirectKinds.fa34_0 _ _ _)) (fun ac16 F16 => ?_)
  clear F15 ac15
  refine sv (v := .int .i64 a0_0) F16 (run_guard rfl) rfl rfl (r_load rfl (F16.ev rfl) (l_one X1.out 0 rfl (agg_no Tryd.underlying3 rfl))) (fun ac17 F17 => ?_)
  clear F16 ac16
  refine sv (v := .agg #[.int .i64 a0_0, .int .i64 0, .int .i64 0, .int .i64 0, .int .i64 0, .int .i64 0]) F17 (run_guard rfl) rfl rfl (r_build rfl (p1 (F17.ev rfl)) (feluccalaw04_DirectKinds.bld34_0 _ _)) (fun ac18 F18 => ?_)
  clear F17 ac17
  refine sv (v := .agg #[.int .i64 2, .int .i64 1, .int .i64 a0_0, .int .i64 0, .int .i64 0, .int .i64 0, .int .i64 0, .int .i64 0, .int .i64 0, .int .i64 0, .int .i64 0, .int .i64 0, .int .i64 0]) F18 (run_guard rfl) rfl rfl (r_build rfl (p3 ev_c ev_c (F18.ev rfl)) (feluccalaw04_DirectKinds.bld38_0_1_2 _ _ _ _ _ _ _ _ _)) (fun ac19 F19 => ?_)
  clear F18 ac18
  replace h := Option.bind_eq_some_iff.1 h
  obtain ⟨y5, hy, h⟩ := h
  refine sc F19 (run_guard rfl) rfl rfl (r_call rfl Tryd.func30 (by kernel_rfl) rfl rfl (m1 (F19.ev rfl))) ?_
  refine (direct_Right.calls 2 1 a0_0 0 0 0 0 0 0 0 0 0 0 _ _ hy).mono ?_
  rintro e w7 ⟨rfl, hE⟩
  clear hy
  replace X1 := Aside0.mk (blk_below X1.out hE)
  replace X2 := Aside0.mk (blk_below X2.out hE)
  replace HB := Aside0.mk (below_step HB.out hE)
  refine ⟨_, rfl, fun ac20 F20 => ?_⟩
  clear hE F19 ac19
  refine sv (v := .bool y5) F20 (run_guard rfl) rfl rfl (r_assign rfl (F20.ev rfl)) (fun ac21 F21 => ?_)
  clear F20 ac20
  refine c_end F21 ?_
  refine hK6 _ _ ?_
  refine wp_seq_k (fun K7 hK7 => ?_)
  refine wp_region_lit ?_
  refine sv (v := .pointer (some ⟨b1, 0, none⟩)) F21 (run_guard rfl) rfl rfl (r_fieldAddr rfl (F21.ev rfl) (feluccalaw04_DirectKinds.fa34_0 _ _ _)) (fun ac22 F22 => ?_)
  clear F21 ac21
  refine sv (v := .int .i64 a0_0) F22 (run_guard rfl) rfl rfl (r_load rfl (F22.ev rfl) (l_one X1.out 0 rfl (agg_no Tryd.underlying3 rfl))) (fun ac23 F23 => ?_)
  clear F22 ac22
  refine sv (v := .pointer (some ⟨b1, 5, none⟩)) F23 (run_guard rfl) rfl rfl (r_fieldAddr rfl (F23.ev rfl) (feluccalaw04_DirectKinds.fa34_5 _ _ _)) (fun ac24 F24 => ?_)
  clear F23 ac23
  refine sv (v := .int .i64 a0_5) F24 (run_guard rfl) rfl rfl (r_load rfl (F24.ev rfl) (l_one X1.out 5 rfl (agg_no Tryd.underlying3 rfl))) (fun ac25 F25 => ?_)
  clear F24 ac24
  refine sv (v := .agg #[.int .i64 a0_0, .int .i64 0, .int .i64 0, .int .i64 0, .int .i64 0, .int .i64 a0_5]) F25 (run_guard rfl) rfl rfl (r_build rfl (p2 (F25.ev rfl) (F25.ev rfl)) (feluccalaw04_DirectKinds.bld34_0_5 _ _ _)) (fun ac26 F26 => ?_)
  clear F25 ac25
  refine sv (v := .agg #[.int .i64 3, .int .i64 1, .int .i64 a0_0, .int .i64 0, .int .i64 0, .int .i64 0, .int .i64 0, .int .i64 a0_5, .int .i64 0, .int .i64 0, .int .i64 0, .int .i64 0, .int .i64 0]) F26 (run_guard rfl) rfl rfl (r_build rfl (p3 ev_c ev_c (F26.ev rfl)) (feluccalaw04_DirectKinds.bld38_0_1_2 _ _ _ _ _ _ _ _ _)) (fun ac27 F27 => ?_)
  clear F26 ac26
  replace h := Option.bind_eq_some_iff.1 h
  obtain ⟨y6, hy, h⟩ := h
  refine sc F27 (run_guard rfl) rfl rfl (r_call rfl Tryd.func30 (by kernel_rfl) rfl rfl (m1 (F27.ev rfl))) ?_
  refine (direct_Right.calls 3 1 a0_0 0 0 0 0 a0_5 0 0 0 0 0 _ _ hy).mono ?_
  rintro e w8 ⟨rfl, hE⟩
  clear hy
  replace X1 := Aside0.mk (blk_below X1.out hE)
  replace X2 := Aside0.mk (blk_below X2.out hE)
  replace HB := Aside0.mk (below_step HB.out hE)
  refine ⟨_, rfl, fun ac28 F28 => ?_⟩
  clear hE F27 ac27
  refine sv (v := .bool y6) F28 (run_guard rfl) rfl rfl (r_assign rfl (F28.ev rfl)) (fun ac29 F29 => ?_)
  clear F28 ac28
  refine c_end F29 ?_
  refine hK7 _ _ ?_
  refine wp_seq_k (fun K8 hK8 => ?_)
  refine wp_region_lit ?_
  refine sv (v := .agg #[.int .i64 a1_0, .int .i64 a1_1, .int .i64 a1_2, .int .i64 a1_3, .int .i64 a1_4]) F29 (run_guard rfl) rfl rfl (r_load rfl (F29.ev rfl) (l_part X2.out 0 [.int .i64 a1_0, .int .i64 a1_1, .int .i64 a1_2, .int .i64 a1_3, .int .i64 a1_4] rfl Tryd.underlying36 rfl feluccalaw04_DirectKinds.sz36)) (fun ac30 F30 => ?_)
  clear F29 ac29
  refine sv (v := .agg #[.int .i64 1, .int .i64 2, .int .i64 0, .int .i64 0, .int .i64 0, .int .i64 0, .int .i64 0, .int .i64 0, .int .i64 a1_0, .int .i64 a1_1, .int .i64 a1_2, .int .i64 a1_3, .int .i64 a1_4]) F30 (run_guard rfl) rfl rfl (r_build rfl (p3 ev_c ev_c (F30.ev rfl)) (feluccalaw04_DirectKinds.bld38_0_1_3 _ _ _ _ _ _ _ _)) (fun ac31 F31 => ?_)
  clear F30 ac30
  replace h := Option.bind_eq_some_iff.1 h
  obtain ⟨y7, hy, h⟩ := h
  refine sc F31 (run_guard rfl) rfl rfl (r_call rfl Tryd.func30 (by kernel_rfl) rfl rfl (m1 (F31.ev rfl))) ?_
  refine (direct_Right.calls 1 2 0 0 0 0 0 0 a1_0 a1_1 a1_2 a1_3 a1_4 _ _ hy).mono ?_
  rintro e w9 ⟨rfl, hE⟩
  clear hy
  replace X1 := Aside0.mk (blk_below X1.out hE)
  replace X2 := Aside0.mk (blk_below X2.out hE)
  replace HB := Aside0.mk (below_step HB.out hE)
  refine ⟨_, rfl, fun ac32 F32 => ?_⟩
  clear hE F31 ac31
  refine sv (v := .bool y7) F32 (run_guard rfl) rfl rfl (r_assign rfl (F32.ev rfl)) (fun ac33 F33 => ?_)
  clear F32 ac32
  refine c_end F33 ?_
  refine hK8 _ _ ?_
  refine wp_seq_k (fun K9 hK9 => ?_)
  refine wp_region_lit ?_
  refine sv (v := .pointer (some ⟨b2, 0, none⟩)) F33 (run_guard rfl) rfl rfl (r_fieldAddr rfl (F33.ev rfl) (feluccalaw04_DirectKinds.fa36_0 _ _ _)) (fun ac34 F34 => ?_)
  clear F33 ac33
  refine sv (v := .int .i64 a1_0) F34 (run_guard rfl) rfl rfl (r_load rfl (F34.ev rfl) (l_one X2.out 0 rfl (agg_no Tryd.underlying3 rfl))) (fun ac35 F35 => ?_)
  clear F34 ac34
  refine sv (v := .pointer (some ⟨b2, 1, none⟩)) F35 (run_guard rfl) rfl rfl (r_fieldAddr rfl (F35.ev rfl) (feluccalaw04_DirectKinds.fa36_1 _ _ _)) (fun ac36 F36 => ?_)
  clear F35 ac35
  refine sv (v := .int .i64 a1_1) F36 (run_guard rfl) rfl rfl (r_load rfl (F36.ev rfl) (l_one X2.out 1 rfl (agg_no Tryd.underlying3 rfl))) (fun ac37 F37 => ?_)
  clear F36 ac36
  refine sv (v := .pointer (some ⟨b2, 2, none⟩)) F37 (run_guard rfl) rfl rfl (r_fieldAddr rfl (F37.ev rfl) (feluccalaw04_DirectKinds.fa36_2 _ _ _)) (fun ac38 F38 => ?_)
  clear F37 ac37
  refine sv (v := .int .i64 a1_2) F38 (run_guard rfl) rfl rfl (r_load rfl (F38.ev rfl) (l_one X2.out 2 rfl (agg_no Tryd.underlying3 rfl))) (fun ac39 F39 => ?_)
  clear F38 ac38
  refine sv (v := .agg #[.int .i64 a1_0, .int .i64 a1_1, .int .i64 a1_2, .int .i64 0, .int .i64 0]) F39 (run_guard rfl) rfl rfl (r_build rfl (p3 (F39.ev rfl) (F39.ev rfl) (F39.ev rfl)) (feluccalaw04_DirectKinds.bld36_0_1_2 _ _ _ _)) (fun ac40 F40 => ?_)
  clear F39 ac39
  refine sv (v := .agg #[.int .i64 2, .int .i64 2, .int .i64 0, .int .i64 0, .int .i64 0, .int .i64 0, .int .i64 0, .int .i64 0, .int .i64 a1_0, .int .i64 a1_1, .int .i64 a1_2, .int .i64 0, .int .i64 0]) F40 (run_guard rfl) rfl rfl (r_build rfl (p3 ev_c ev_c (F40.ev rfl)) (feluccalaw04_DirectKinds.bld38_0_1_3 _ _ _ _ _ _ _ _)) (fun ac41 F41 => ?_)
  clear F40 ac40
  replace h := Option.bind_eq_some_iff.1 h
  obtain ⟨y8, hy, h⟩ := h
  refine sc F41 (run_guard rfl) rfl rfl (r_call rfl Tryd.func30 (by kernel_rfl) rfl rfl (m1 (F41.ev rfl))) ?_
  refine (direct_Right.calls 2 2 0 0 0 0 0 0 a1_0 a1_1 a1_2 0 0 _ _ hy).mono ?_
  rintro e w10 ⟨rfl, hE⟩
  clear hy
  replace X1 := Aside0.mk (blk_below X1.out hE)
  replace X2 := Aside0.mk (blk_below X2.out hE)
  replace HB := Aside0.mk (below_step HB.out hE)
  refine ⟨_, rfl, fun ac42 F42 => ?_⟩
  clear hE F41 ac41
  refine sv (v := .bool y8) F42 (run_guard rfl) rfl rfl (r_assign rfl (F42.ev rfl)) (fun ac43 F43 => ?_)
  clear F42 ac42
  refine c_end F43 ?_
  refine hK9 _ _ ?_
  refine wp_seq_k (fun K10 hK10 => ?_)
  refine wp_region_lit ?_
  refine sv (v := .pointer (some ⟨b2, 0, none⟩)) F43 (run_guard rfl) rfl rfl (r_fieldAddr rfl (F43.ev rfl) (feluccalaw04_DirectKinds.fa36_0 _ _ _)) (fun ac44 F44 => ?_)
  clear F43 ac43
  refine sv (v := .int .i64 a1_0) F44 (run_guard rfl) rfl rfl (r_load rfl (F44.ev rfl) (l_one X2.out 0 rfl (agg_no Tryd.underlying3 rfl))) (fun ac45 F45 => ?_)
  clear F44 ac44
  refine sv (v := .pointer (some ⟨b2, 1, none⟩)) F45 (run_guard rfl) rfl rfl (r_fieldAddr rfl (F45.ev rfl) (feluccalaw04_DirectKinds.fa36_1 _ _ _)) (fun ac46 F46 => ?_)
  clear F45 ac45
  refine sv (v := .int .i64 a1_1) F46 (run_guard rfl) rfl rfl (r_load rfl (F46.ev rfl) (l_one X2.out 1 rfl (agg_no Tryd.underlying3 rfl))) (fun ac47 F47 => ?_)
  clear F46 ac46
  refine sv (v := .pointer (some ⟨b2, 2, none⟩)) F47 (run_guard rfl) rfl rfl (r_fieldAddr rfl (F47.ev rfl) (feluccalaw04_DirectKinds.fa36_2 _ _ _)) (fun ac48 F48 => ?_)
  clear F47 ac47
  refine sv (v := .int .i64 a1_2) F48 (run_guard rfl) rfl rfl (r_load rfl (F48.ev rfl) (l_one X2.out 2 rfl (agg_no Tryd.underlying3 rfl))) (fun ac49 F49 => ?_)
  clear F48 ac48
  refine sv (v := .pointer (some ⟨b2, 4, none⟩)) F49 (run_guard rfl) rfl rfl (r_fieldAddr rfl (F49.ev rfl) (feluccalaw04_DirectKinds.fa36_4 _ _ _)) (fun ac50 F50 => ?_)
  clear F49 ac49
  refine sv (v := .int .i64 a1_4) F50 (run_guard rfl) rfl rfl (r_load rfl (F50.ev rfl) (l_one X2.out 4 rfl (agg_no Tryd.underlying3 rfl))) (fun ac51 F51 => ?_)
  clear F50 ac50
  refine sv (v := .agg #[.int .i64 a1_0, .int .i64 a1_1, .int .i64 a1_2, .int .i64 0, .int .i64 a1_4]) F51 (run_guard rfl) rfl rfl (r_build rfl (p4 (F51.ev rfl) (F51.ev rfl) (F51.ev rfl) (F51.ev rfl)) (feluccalaw04_DirectKinds.bld36_0_1_2_4 _ _ _ _ _)) (fun ac52 F52 => ?_)
  clear F51 ac51
  refine sv (v := .agg #[.int .i64 3, .int .i64 2, .int .i64 0, .int .i64 0, .int .i64 0, .int .i64 0, .int .i64 0, .int .i64 0, .int .i64 a1_0, .int .i64 a1_1, .int .i64 a1_2, .int .i64 0, .int .i64 a1_4]) F52 (run_guard rfl) rfl rfl (r_build rfl (p3 ev_c ev_c (F52.ev rfl)) (feluccalaw04_DirectKinds.bld38_0_1_3 _ _ _ _ _ _ _ _)) (fun ac53 F53 => ?_)
  clear F52 ac52
  replace h := Option.bind_eq_some_iff.1 h
  obtain ⟨y9, hy, h⟩ := h
  refine sc F53 (run_guard rfl) rfl rfl (r_call rfl Tryd.func30 (by kernel_rfl) rfl rfl (m1 (F53.ev rfl))) ?_
  refine (direct_Right.calls 3 2 0 0 0 0 0 0 a1_0 a1_1 a1_2 0 a1_4 _ _ hy).mono ?_
  rintro e w11 ⟨rfl, hE⟩
  clear hy
  replace X1 := Aside0.mk (blk_below X1.out hE)
  replace X2 := Aside0.mk (blk_below X2.out hE)
  replace HB := Aside0.mk (below_step HB.out hE)
  refine ⟨_, rfl, fun ac54 F54 => ?_⟩
  clear hE F53 ac53
  refine sv (v := .bool y9) F54 (run_guard rfl) rfl rfl (r_assign rfl (F54.ev rfl)) (fun ac55 F55 => ?_)
  clear F54 ac54
  refine c_end F55 ?_
  refine hK10 _ _ ?_
  refine wp_seq_k (fun K11 hK11 => ?_)
  clear X2
  refine wp_region_lit ?_
  refine sv (v := .agg #[.int .i64 a0_0, .int .i64 a0_1, .int .i64 a0_2, .int .i64 a0_3, .int .i64 a0_4, .int .i64 a0_5]) F55 (run_guard rfl) rfl rfl (r_load rfl (F55.ev rfl) (l_part X1.out 0 [.int .i64 a0_0, .int .i64 a0_1, .int .i64 a0_2, .int .i64 a0_3, .int .i64 a0_4, .int .i64 a0_5] rfl Tryd.underlying34 rfl feluccalaw04_DirectKinds.sz34)) (fun ac56 F56 => ?_)
  clear F55 ac55
  refine sv (v := .agg #[.int .i64 1, .int .i64 0, .int .i64 0, .int .i64 0, .int .i64 0]) F56 (run_guard rfl) rfl rfl (r_build rfl (p1 ev_c) (feluccalaw04_DirectKinds.bld36_0 _ _)) (fun ac57 F57 => ?_)
  clear F56 ac56
  refine sv (v := .agg #[.int .i64 1, .int .i64 1, .int .i64 a0_0, .int .i64 a0_1, .int .i64 a0_2, .int .i64 a0_3, .int .i64 a0_4, .int .i64 a0_5, .int .i64 1, .int .i64 0, .int .i64 0, .int .i64 0, .int .i64 0]) F57 (run_guard rfl) rfl rfl (r_build rfl (p4 ev_c ev_c (F57.ev rfl) (F57.ev rfl)) (feluccalaw04_DirectKinds.bld38_0_1_2_3 _ _ _ _ _ _ _ _ _ _ _ _ _ _)) (fun ac58 F58 => ?_)
  clear F57 ac57
  replace h := Option.bind_eq_some_iff.1 h
  obtain ⟨y10, hy, h⟩ := h
  refine sc F58 (run_guard rfl) rfl rfl (r_call rfl Tryd.func30 (by kernel_rfl) rfl rfl (m1 (F58.ev rfl))) ?_
  refine (direct_Right.calls 1 1 a0_0 a0_1 a0_2 a0_3 a0_4 a0_5 1 0 0 0 0 _ _ hy).mono ?_
  rintro e w12 ⟨rfl, hE⟩
  clear hy
  replace X1 := Aside0.mk (blk_below X1.out hE)
  replace HB := Aside0.mk (below_step HB.out hE)
  refine ⟨_, rfl, fun ac59 F59 => ?_⟩
  clear hE F58 ac58
  refine sv (v := .bool y10) F59 (run_guard rfl) rfl rfl (r_assign rfl (F59.ev rfl)) (fun ac60 F60 => ?_)
  clear F59 ac59
  refine c_end F60 ?_
  refine hK11 _ _ ?_
  refine wp_seq_k (fun K12 hK12 => ?_)
  clear X1
  refine wp_region_lit ?_
  refine sv (v := .bool y1) F60 (run_guard rfl) rfl rfl (r_move rfl (F60.ev rfl)) (fun ac61 F61 => ?_)
  clear F60 ac60
  refine sv (v := .bool y1) F61 (run_guard rfl) rfl rfl (r_move rfl (F61.ev rfl)) (fun ac62 F62 => ?_)
  clear F61 ac61
  cases hT1 : y1 with
  | true =>
    replace h := cond_t hT1 h
    refine sv (v := .bool y4) F62 (g_on F62 rfl rfl rfl (lk rfl hT1)) rfl rfl (r_move rfl (F62.ev rfl)) (fun ac63 F63 => ?_)
    clear F62 ac62
    refine sv (v := .bool y2) F63 (g_on F63 rfl rfl rfl (lk rfl hT1)) rfl rfl (r_move rfl (F63.ev rfl)) (fun ac64 F64 => ?_)
    clear F63 ac63
    refine sv (v := .bool (y4 == y2)) F64 (g_on F64 rfl rfl rfl (lk rfl hT1)) rfl rfl (r_beq rfl Tryd.underlying4 (F64.ev rfl) (F64.ev rfl)) (fun ac65 F65 => ?_)
    clear F64 ac64
    refine sv (v := .bool (y4 == y2)) F65 (run_guard rfl) rfl rfl (r_pick_t rfl (F65.ev (lk rfl hT1)) (F65.ev rfl)) (fun ac66 F66 => ?_)
    clear F65 ac65
    refine sv (v := .bool (y4 == y2)) F66 (run_guard rfl) rfl rfl (r_move rfl (F66.ev rfl)) (fun ac67 F67 => ?_)
    clear F66 ac66
    cases hT2 : (y4 == y2) with
    | true =>
      replace h := cond_t hT2 h
      refine sv (v := .bool y7) F67 (g_on F67 rfl rfl rfl (lk rfl hT2)) rfl rfl (r_move rfl (F67.ev rfl)) (fun ac68 F68 => ?_)
      clear F67 ac67
      refine sv (v := .bool y3) F68 (g_on F68 rfl rfl rfl (lk rfl hT2)) rfl rfl (r_move rfl (F68.ev rfl)) (fun ac69 F69 => ?_)
      clear F68 ac68
      refine sv (v := .bool (y7 == y3)) F69 (g_on F69 rfl rfl rfl (lk rfl hT2)) rfl rfl (r_beq rfl Tryd.underlying4 (F69.ev rfl) (F69.ev rfl)) (fun ac70 F70 => ?_)
      clear F69 ac69
      refine sv (v := .bool (y7 == y3)) F70 (run_guard rfl) rfl rfl (r_pick_t rfl (F70.ev (lk rfl hT2)) (F70.ev rfl)) (fun ac71 F71 => ?_)
      clear F70 ac70
      refine sv (v := .bool (y7 == y3)) F71 (run_guard rfl) rfl rfl (r_move rfl (F71.ev rfl)) (fun ac72 F72 => ?_)
      clear F71 ac71
      cases hT3 : (y7 == y3) with
      | true =>
        replace h := cond_t hT3 h
        refine sv (v := .bool y2) F72 (g_on F72 rfl rfl rfl (lk rfl hT3)) rfl rfl (r_move rfl (F72.ev rfl)) (fun ac73 F73 => ?_)
        clear F72 ac72
        refine sv (v := .bool (!y2)) F73 (g_on F73 rfl rfl rfl (lk rfl hT3)) rfl rfl (r_not (b := y2) rfl (F73.ev rfl)) (fun ac74 F74 => ?_)
        clear F73 ac73
        refine sv (v := .bool (!y2)) F74 (g_on F74 rfl rfl rfl (lk rfl hT3)) rfl rfl (r_move rfl (F74.ev rfl)) (fun ac75 F75 => ?_)
        clear F74 ac74
        cases hT4 : (!y2) with
        | true =>
          replace h := cond_t hT4 h
          refine so F75 (g_off F75 rfl rfl rfl (lk rfl hT4)) rfl rfl (fun ac76 F76 => ?_)
          clear F75 ac75
          refine so F76 (g_off F76 rfl rfl rfl (lk rfl hT4)) rfl rfl (fun ac77 F77 => ?_)
          clear F76 ac76
          refine so F77 (g_none F77 rfl rfl rfl rfl) rfl rfl (fun ac78 F78 => ?_)
          clear F77 ac77
          refine so F78 (g_off F78 rfl rfl rfl (lk rfl hT4)) rfl rfl (fun ac79 F79 => ?_)
          clear F78 ac78
          refine sv (v := .bool true) F79 (g_on F79 rfl rfl rfl (lk rfl hT3)) rfl rfl (r_pick_t rfl (F79.ev (lk rfl hT4)) ev_c) (fun ac80 F80 => ?_)
          clear F79 ac79
          refine sv (v := .bool true) F80 (run_guard rfl) rfl rfl (r_pick_t rfl (F80.ev (lk rfl hT3)) (F80.ev rfl)) (fun ac81 F81 => ?_)
          clear F80 ac80
          refine sv (v := .bool true) F81 (run_guard rfl) rfl rfl (r_move rfl (F81.ev rfl)) (fun ac82 F82 => ?_)
          clear F81 ac81
          refine sv (v := .bool y3) F82 (g_on F82 rfl rfl rfl rfl) rfl rfl (r_move rfl (F82.ev rfl)) (fun ac83 F83 => ?_)
          clear F82 ac82
          refine sv (v := .bool (!y3)) F83 (g_on F83 rfl rfl rfl rfl) rfl rfl (r_not (b := y3) rfl (F83.ev rfl)) (fun ac84 F84 => ?_)
          clear F83 ac83
          refine sv (v := .bool (!y3)) F84 (g_on F84 rfl rfl rfl rfl) rfl rfl (r_move rfl (F84.ev rfl)) (fun ac85 F85 => ?_)
          clear F84 ac84
          cases hT5 : (!y3) with
          | true =>
            replace h := cond_t hT5 h
            refine so F85 (g_off F85 rfl rfl rfl (lk rfl hT5)) rfl rfl (fun ac86 F86 => ?_)
            clear F85 ac85
            refine so F86 (g_off F86 rfl rfl rfl (lk rfl hT5)) rfl rfl (fun ac87 F87 => ?_)
            clear F86 ac86
            refine so F87 (g_none F87 rfl rfl rfl rfl) rfl rfl (fun ac88 F88 => ?_)
            clear F87 ac87
            refine so F88 (g_off F88 rfl rfl rfl (lk rfl hT5)) rfl rfl (fun ac89 F89 => ?_)
            clear F88 ac88
            refine sv (v := .bool true) F89 (g_on F89 rfl rfl rfl rfl) rfl rfl (r_pick_t rfl (F89.ev (lk rfl hT5)) ev_c) (fun ac90 F90 => ?_)
            clear F89 ac89
            refine sv (v := .bool true) F90 (run_guard rfl) rfl rfl (r_pick_t rfl (F90.ev rfl) (F90.ev rfl)) (fun ac91 F91 => ?_)
            clear F90 ac90
            refine sv (v := .bool true) F91 (run_guard rfl) rfl rfl (r_move rfl (F91.ev rfl)) (fun ac92 F92 => ?_)
            clear F91 ac91
            refine sv (v := .bool y10) F92 (g_on F92 rfl rfl rfl rfl) rfl rfl (r_move rfl (F92.ev rfl)) (fun ac93 F93 => ?_)
            clear F92 ac92
            refine sv (v := .bool (!y10)) F93 (g_on F93 rfl rfl rfl rfl) rfl rfl (r_not (b := y10) rfl (F93.ev rfl)) (fun ac94 F94 => ?_)
            clear F93 ac93
            refine sv (v := .bool (!y10)) F94 (run_guard rfl) rfl rfl (r_pick_t rfl (F94.ev rfl) (F94.ev rfl)) (fun ac95 F95 => ?_)
            clear F94 ac94
            refine sv (v := .bool (!y10)) F95 (run_guard rfl) rfl rfl (r_move rfl (F95.ev rfl)) (fun ac96 F96 => ?_)
            clear F95 ac95
            cases hT6 : (!y10) with
            | true =>
              replace h := cond_t hT6 h
              refine sv (v := .bool y6) F96 (g_on F96 rfl rfl rfl (lk rfl hT6)) rfl rfl (r_move rfl (F96.ev rfl)) (fun ac97 F97 => ?_)
              clear F96 ac96
              refine sv (v := .bool (!y6)) F97 (g_on F97 rfl rfl rfl (lk rfl hT6)) rfl rfl (r_not (b := y6) rfl (F97.ev rfl)) (fun ac98 F98 => ?_)
              clear F97 ac97
              refine sv (v := .bool (!y6)) F98 (g_on F98 rfl rfl rfl (lk rfl hT6)) rfl rfl (r_move rfl (F98.ev rfl)) (fun ac99 F99 => ?_)
              clear F98 ac98
              cases hT7 : (!y6) with
              | true =>
                replace h := cond_t hT7 h
                refine so F99 (g_off F99 rfl rfl rfl (lk rfl hT7)) rfl rfl (fun ac100 F100 => ?_)
                clear F99 ac99
                refine sv (v := .bool true) F100 (g_on F100 rfl rfl rfl (lk rfl hT6)) rfl rfl (r_pick_t rfl (F100.ev (lk rfl hT7)) ev_c) (fun ac101 F101 => ?_)
                clear F100 ac100
                refine sv (v := .bool true) F101 (run_guard rfl) rfl rfl (r_pick_t rfl (F101.ev (lk rfl hT6)) (F101.ev rfl)) (fun ac102 F102 => ?_)
                clear F101 ac101
                refine sv (v := .bool true) F102 (run_guard rfl) rfl rfl (r_move rfl (F102.ev rfl)) (fun ac103 F103 => ?_)
                clear F102 ac102
                refine sv (v := .bool y9) F103 (g_on F103 rfl rfl rfl rfl) rfl rfl (r_move rfl (F103.ev rfl)) (fun ac104 F104 => ?_)
                clear F103 ac103
                refine sv (v := .bool (!y9)) F104 (g_on F104 rfl rfl rfl rfl) rfl rfl (r_not (b := y9) rfl (F104.ev rfl)) (fun ac105 F105 => ?_)
                clear F104 ac104
                refine sv (v := .bool (!y9)) F105 (g_on F105 rfl rfl rfl rfl) rfl rfl (r_move rfl (F105.ev rfl)) (fun ac106 F106 => ?_)
                clear F105 ac105
                cases hT8 : (!y9) with
                | true =>
                  replace h := cond_t hT8 h
                  refine so F106 (g_off F106 rfl rfl rfl (lk rfl hT8)) rfl rfl (fun ac107 F107 => ?_)
                  clear F106 ac106
                  refine sv (v := .bool true) F107 (g_on F107 rfl rfl rfl rfl) rfl rfl (r_pick_t rfl (F107.ev (lk rfl hT8)) ev_c) (fun ac108 F108 => ?_)
                  clear F107 ac107
                  refine sv (v := .bool true) F108 (run_guard rfl) rfl rfl (r_pick_t rfl (F108.ev rfl) (F108.ev rfl)) (fun ac109 F109 => ?_)
                  clear F108 ac108
                  refine sv (v := .bool true) F109 (run_guard rfl) rfl rfl (r_assign rfl (F109.ev rfl)) (fun ac110 F110 => ?_)
                  clear F109 ac109
                  refine c_end F110 ?_
                  refine hK12 _ _ ?_
                  refine wp_ret ?_
                  (try simp only [Exit.then, Exit.inBlock])
                  refine retx (fn := Tryd.f12) F110 (results1 (fn := Tryd.f12) rfl (rv_t (t := 4) (v := .bool true) F110 rfl)) ?_
                  cases h
                  exact ⟨rfl, HB.out⟩
                | false =>
                  replace h := cond_f hT8 h
                  refine sv (v := .bool y8) F106 (g_on F106 rfl rfl rfl (lk rfl hT8)) rfl rfl (r_move rfl (F106.ev rfl)) (fun ac111 F111 => ?_)
                  clear F106 ac106
                  refine sv (v := .bool y8) F111 (g_on F111 rfl rfl rfl rfl) rfl rfl (r_pick_f rfl (F111.ev (lk rfl hT8)) (F111.ev rfl)) (fun ac112 F112 => ?_)
                  clear F111 ac111
                  refine sv (v := .bool y8) F112 (run_guard rfl) rfl rfl (r_pick_t rfl (F112.ev rfl) (F112.ev rfl)) (fun ac113 F113 => ?_)
                  clear F112 ac112
                  refine sv (v := .bool y8) F113 (run_guard rfl) rfl rfl (r_assign rfl (F113.ev rfl)) (fun ac114 F114 => ?_)
                  clear F113 ac113
                  refine c_end F114 ?_
                  refine hK12 _ _ ?_
                  refine wp_ret ?_
                  (try simp only [Exit.then, Exit.inBlock])
                  refine retx (fn := Tryd.f12) F114 (results1 (fn := Tryd.f12) rfl (rv_t (t := 4) (v := .bool y8) F114 rfl)) ?_
                  cases h
                  exact ⟨rfl, HB.out⟩
              | false =>
                replace h := cond_f hT7 h
                refine sv (v := .bool y5) F99 (g_on F99 rfl rfl rfl (lk rfl hT7)) rfl rfl (r_move rfl (F99.ev rfl)) (fun ac115 F115 => ?_)
                clear F99 ac99
                refine sv (v := .bool y5) F115 (g_on F115 rfl rfl rfl (lk rfl hT6)) rfl rfl (r_pick_f rfl (F115.ev (lk rfl hT7)) (F115.ev rfl)) (fun ac116 F116 => ?_)
                clear F115 ac115
                refine sv (v := .bool y5) F116 (run_guard rfl) rfl rfl (r_pick_t rfl (F116.ev (lk rfl hT6)) (F116.ev rfl)) (fun ac117 F117 => ?_)
                clear F116 ac116
                refine sv (v := .bool y5) F117 (run_guard rfl) rfl rfl (r_move rfl (F117.ev rfl)) (fun ac118 F118 => ?_)
                clear F117 ac117
                cases hT9 : y5 with
                | true =>
                  replace h := cond_t hT9 h
                  refine sv (v := .bool y9) F118 (g_on F118 rfl rfl rfl (lk rfl hT9)) rfl rfl (r_move rfl (F118.ev rfl)) (fun ac119 F119 => ?_)
                  clear F118 ac118
                  refine sv (v := .bool (!y9)) F119 (g_on F119 rfl rfl rfl (lk rfl hT9)) rfl rfl (r_not (b := y9) rfl (F119.ev rfl)) (fun ac120 F120 => ?_)
                  clear F119 ac119
                  refine sv (v := .bool (!y9)) F120 (g_on F120 rfl rfl rfl (lk rfl hT9)) rfl rfl (r_move rfl (F120.ev rfl)) (fun ac121 F121 => ?_)
                  clear F120 ac120
                  cases hT10 : (!y9) with
                  | true =>
                    replace h := cond_t hT10 h
                    refine so F121 (g_off F121 rfl rfl rfl (lk rfl hT10)) rfl rfl (fun ac122 F122 => ?_)
                    clear F121 ac121
                    refine sv (v := .bool true) F122 (g_on F122 rfl rfl rfl (lk rfl hT9)) rfl rfl (r_pick_t rfl (F122.ev (lk rfl hT10)) ev_c) (fun ac123 F123 => ?_)
                    clear F122 ac122
                    refine sv (v := .bool true) F123 (run_guard rfl) rfl rfl (r_pick_t rfl (F123.ev (lk rfl hT9)) (F123.ev rfl)) (fun ac124 F124 => ?_)
                    clear F123 ac123
                    refine sv (v := .bool true) F124 (run_guard rfl) rfl rfl (r_assign rfl (F124.ev rfl)) (fun ac125 F125 => ?_)
                    clear F124 ac124
                    refine c_end F125 ?_
                    refine hK12 _ _ ?_
                    refine wp_ret ?_
                    (try simp only [Exit.then, Exit.inBlock])
                    refine retx (fn := Tryd.f12) F125 (results1 (fn := Tryd.f12) rfl (rv_t (t := 4) (v := .bool true) F125 rfl)) ?_
                    cases h
                    exact ⟨rfl, HB.out⟩
                  | false =>
                    replace h := cond_f hT10 h
                    refine sv (v := .bool y8) F121 (g_on F121 rfl rfl rfl (lk rfl hT10)) rfl rfl (r_move rfl (F121.ev rfl)) (fun ac126 F126 => ?_)
                    clear F121 ac121
                    refine sv (v := .bool y8) F126 (g_on F126 rfl rfl rfl (lk rfl hT9)) rfl rfl (r_pick_f rfl (F126.ev (lk rfl hT10)) (F126.ev rfl)) (fun ac127 F127 => ?_)
                    clear F126 ac126
                    refine sv (v := .bool y8) F127 (run_guard rfl) rfl rfl (r_pick_t rfl (F127.ev (lk rfl hT9)) (F127.ev rfl)) (fun ac128 F128 => ?_)
                    clear F127 ac127
                    refine sv (v := .bool y8) F128 (run_guard rfl) rfl rfl (r_assign rfl (F128.ev rfl)) (fun ac129 F129 => ?_)
                    clear F128 ac128
                    refine c_end F129 ?_
                    refine hK12 _ _ ?_
                    refine wp_ret ?_
                    (try simp only [Exit.then, Exit.inBlock])
                    refine retx (fn := Tryd.f12) F129 (results1 (fn := Tryd.f12) rfl (rv_t (t := 4) (v := .bool y8) F129 rfl)) ?_
                    cases h
                    exact ⟨rfl, HB.out⟩
                | false =>
                  replace h := cond_f hT9 h
                  refine so F118 (g_off F118 rfl rfl rfl (lk rfl hT9)) rfl rfl (fun ac130 F130 => ?_)
                  clear F118 ac118
                  refine so F130 (g_off F130 rfl rfl rfl (lk rfl hT9)) rfl rfl (fun ac131 F131 => ?_)
                  clear F130 ac130
                  refine so F131 (g_off F131 rfl rfl rfl (lk rfl hT9)) rfl rfl (fun ac132 F132 => ?_)
                  clear F131 ac131
                  refine so F132 (g_none F132 rfl rfl rfl rfl) rfl rfl (fun ac133 F133 => ?_)
                  clear F132 ac132
                  refine so F133 (g_off F133 rfl rfl rfl (lk rfl hT9)) rfl rfl (fun ac134 F134 => ?_)
                  clear F133 ac133
                  refine sv (v := .bool false) F134 (run_guard rfl) rfl rfl (r_pick_f rfl (F134.ev (lk rfl hT9)) ev_c) (fun ac135 F135 => ?_)
                  clear F134 ac134
                  refine sv (v := .bool false) F135 (run_guard rfl) rfl rfl (r_assign rfl (F135.ev rfl)) (fun ac136 F136 => ?_)
                  clear F135 ac135
                  refine c_end F136 ?_
                  refine hK12 _ _ ?_
                  refine wp_ret ?_
                  (try simp only [Exit.then, Exit.inBlock])
                  refine retx (fn := Tryd.f12) F136 (results1 (fn := Tryd.f12) rfl (rv_t (t := 4) (v := .bool false) F136 rfl)) ?_
                  cases h
                  exact ⟨rfl, HB.out⟩
            | false =>
              replace h := cond_f hT6 h
              refine so F96 (g_off F96 rfl rfl rfl (lk rfl hT6)) rfl rfl (fun ac137 F137 => ?_)
              clear F96 ac96
              refine so F137 (g_off F137 rfl rfl rfl (lk rfl hT6)) rfl rfl (fun ac138 F138 => ?_)
              clear F137 ac137
              refine so F138 (g_off F138 rfl rfl rfl (lk rfl hT6)) rfl rfl (fun ac139 F139 => ?_)
              clear F138 ac138
              refine so F139 (g_none F139 rfl rfl rfl rfl) rfl rfl (fun ac140 F140 => ?_)
              clear F139 ac139
              refine so F140 (g_off F140 rfl rfl rfl (lk rfl hT6)) rfl rfl (fun ac141 F141 => ?_)
              clear F140 ac140
              refine sv (v := .bool false) F141 (run_guard rfl) rfl rfl (r_pick_f rfl (F141.ev (lk rfl hT6)) ev_c) (fun ac142 F142 => ?_)
              clear F141 ac141
              refine sv (v := .bool false) F142 (run_guard rfl) rfl rfl (r_move rfl (F142.ev rfl)) (fun ac143 F143 => ?_)
              clear F142 ac142
              refine so F143 (g_off F143 rfl rfl rfl rfl) rfl rfl (fun ac144 F144 => ?_)
              clear F143 ac143
              refine so F144 (g_off F144 rfl rfl rfl rfl) rfl rfl (fun ac145 F145 => ?_)
              clear F144 ac144
              refine so F145 (g_off F145 rfl rfl rfl rfl) rfl rfl (fun ac146 F146 => ?_)
              clear F145 ac145
              refine so F146 (g_none F146 rfl rfl rfl rfl) rfl rfl (fun ac147 F147 => ?_)
              clear F146 ac146
              refine so F147 (g_off F147 rfl rfl rfl rfl) rfl rfl (fun ac148 F148 => ?_)
              clear F147 ac147
              refine sv (v := .bool false) F148 (run_guard rfl) rfl rfl (r_pick_f rfl (F148.ev rfl) ev_c) (fun ac149 F149 => ?_)
              clear F148 ac148
              refine sv (v := .bool false) F149 (run_guard rfl) rfl rfl (r_assign rfl (F149.ev rfl)) (fun ac150 F150 => ?_)
              clear F149 ac149
              refine c_end F150 ?_
              refine hK12 _ _ ?_
              refine wp_ret ?_
              (try simp only [Exit.then, Exit.inBlock])
              refine retx (fn := Tryd.f12) F150 (results1 (fn := Tryd.f12) rfl (rv_t (t := 4) (v := .bool false) F150 rfl)) ?_
              cases h
              exact ⟨rfl, HB.out⟩
          | false =>
            replace h := cond_f hT5 h
            refine sv (v := .bool y8) F85 (g_on F85 rfl rfl rfl (lk rfl hT5)) rfl rfl (r_move rfl (F85.ev rfl)) (fun ac151 F151 => ?_)
            clear F85 ac85
            refine sv (v := .bool y8) F151 (g_on F151 rfl rfl rfl (lk rfl hT5)) rfl rfl (r_move rfl (F151.ev rfl)) (fun ac152 F152 => ?_)
            clear F151 ac151
            cases hT11 : y8 with
            | true =>
              replace h := cond_t hT11 h
              refine sv (v := .bool y9) F152 (g_on F152 rfl rfl rfl (lk rfl hT11)) rfl rfl (r_move rfl (F152.ev rfl)) (fun ac153 F153 => ?_)
              clear F152 ac152
              refine sv (v := .bool y9) F153 (g_on F153 rfl rfl rfl (lk rfl hT5)) rfl rfl (r_pick_t rfl (F153.ev (lk rfl hT11)) (F153.ev rfl)) (fun ac154 F154 => ?_)
              clear F153 ac153
              refine sv (v := .bool y9) F154 (g_on F154 rfl rfl rfl rfl) rfl rfl (r_pick_f rfl (F154.ev (lk rfl hT5)) (F154.ev rfl)) (fun ac155 F155 => ?_)
              clear F154 ac154
              refine sv (v := .bool y9) F155 (run_guard rfl) rfl rfl (r_pick_t rfl (F155.ev rfl) (F155.ev rfl)) (fun ac156 F156 => ?_)
              clear F155 ac155
              refine sv (v := .bool y9) F156 (run_guard rfl) rfl rfl (r_move rfl (F156.ev rfl)) (fun ac157 F157 => ?_)
              clear F156 ac156
              cases hT12 : y9 with
              | true =>
                replace h := cond_t hT12 h
                refine sv (v := .bool y10) F157 (g_on F157 rfl rfl rfl (lk rfl hT12)) rfl rfl (r_move rfl (F157.ev rfl)) (fun ac158 F158 => ?_)
                clear F157 ac157
                refine sv (v := .bool (!y10)) F158 (g_on F158 rfl rfl rfl (lk rfl hT12)) rfl rfl (r_not (b := y10) rfl (F158.ev rfl)) (fun ac159 F159 => ?_)
                clear F158 ac158
                refine sv (v := .bool (!y10)) F159 (run_guard rfl) rfl rfl (r_pick_t rfl (F159.ev (lk rfl hT12)) (F159.ev rfl)) (fun ac160 F160 => ?_)
                clear F159 ac159
                refine sv (v := .bool (!y10)) F160 (run_guard rfl) rfl rfl (r_move rfl (F160.ev rfl)) (fun ac161 F161 => ?_)
                clear F160 ac160
                cases hT13 : (!y10) with
                | true =>
                  replace h := cond_t hT13 h
                  refine sv (v := .bool y6) F161 (g_on F161 rfl rfl rfl (lk rfl hT13)) rfl rfl (r_move rfl (F161.ev rfl)) (fun ac162 F162 => ?_)
                  clear F161 ac161
                  refine sv (v := .bool (!y6)) F162 (g_on F162 rfl rfl rfl (lk rfl hT13)) rfl rfl (r_not (b := y6) rfl (F162.ev rfl)) (fun ac163 F163 => ?_)
                  clear F162 ac162
                  refine sv (v := .bool (!y6)) F163 (g_on F163 rfl rfl rfl (lk rfl hT13)) rfl rfl (r_move rfl (F163.ev rfl)) (fun ac164 F164 => ?_)
                  clear F163 ac163
                  cases hT14 : (!y6) with
                  | true =>
                    replace h := cond_t hT14 h
                    refine so F164 (g_off F164 rfl rfl rfl (lk rfl hT14)) rfl rfl (fun ac165 F165 => ?_)
                    clear F164 ac164
                    refine sv (v := .bool true) F165 (g_on F165 rfl rfl rfl (lk rfl hT13)) rfl rfl (r_pick_t rfl (F165.ev (lk rfl hT14)) ev_c) (fun ac166 F166 => ?_)
                    clear F165 ac165
                    refine sv (v := .bool true) F166 (run_guard rfl) rfl rfl (r_pick_t rfl (F166.ev (lk rfl hT13)) (F166.ev rfl)) (fun ac167 F167 => ?_)
                    clear F166 ac166
                    refine sv (v := .bool true) F167 (run_guard rfl) rfl rfl (r_move rfl (F167.ev rfl)) (fun ac168 F168 => ?_)
                    clear F167 ac167
                    refine sv (v := .bool true) F168 (g_on F168 rfl rfl rfl rfl) rfl rfl (r_move rfl (F168.ev (lk rfl hT12))) (fun ac169 F169 => ?_)
                    clear F168 ac168
                    refine sv (v := .bool false) F169 (g_on F169 rfl rfl rfl rfl) rfl rfl (r_not (b := true) rfl (F169.ev rfl)) (fun ac170 F170 => ?_)
                    clear F169 ac169
                    refine sv (v := .bool false) F170 (g_on F170 rfl rfl rfl rfl) rfl rfl (r_move rfl (F170.ev rfl)) (fun ac171 F171 => ?_)
                    clear F170 ac170
                    refine sv (v := .bool true) F171 (g_on F171 rfl rfl rfl rfl) rfl rfl (r_move rfl (F171.ev (lk rfl hT11))) (fun ac172 F172 => ?_)
                    clear F171 ac171
                    refine sv (v := .bool true) F172 (g_on F172 rfl rfl rfl rfl) rfl rfl (r_pick_f rfl (F172.ev rfl) (F172.ev rfl)) (fun ac173 F173 => ?_)
                    clear F172 ac172
                    refine sv (v := .bool true) F173 (run_guard rfl) rfl rfl (r_pick_t rfl (F173.ev rfl) (F173.ev rfl)) (fun ac174 F174 => ?_)
                    clear F173 ac173
                    refine sv (v := .bool true) F174 (run_guard rfl) rfl rfl (r_assign rfl (F174.ev rfl)) (fun ac175 F175 => ?_)
                    clear F174 ac174
                    refine c_end F175 ?_
                    refine hK12 _ _ ?_
                    refine wp_ret ?_
                    (try simp only [Exit.then, Exit.inBlock])
                    refine retx (fn := Tryd.f12) F175 (results1 (fn := Tryd.f12) rfl (rv_t (t := 4) (v := .bool true) F175 rfl)) ?_
                    cases h
                    exact ⟨rfl, HB.out⟩
                  | false =>
                    replace h := cond_f hT14 h
                    refine sv (v := .bool y5) F164 (g_on F164 rfl rfl rfl (lk rfl hT14)) rfl rfl (r_move rfl (F164.ev rfl)) (fun ac176 F176 => ?_)
                    clear F164 ac164
                    refine sv (v := .bool y5) F176 (g_on F176 rfl rfl rfl (lk rfl hT13)) rfl rfl (r_pick_f rfl (F176.ev (lk rfl hT14)) (F176.ev rfl)) (fun ac177 F177 => ?_)
                    clear F176 ac176
                    refine sv (v := .bool y5) F177 (run_guard rfl) rfl rfl (r_pick_t rfl (F177.ev (lk rfl hT13)) (F177.ev rfl)) (fun ac178 F178 => ?_)
                    clear F177 ac177
                    refine sv (v := .bool y5) F178 (run_guard rfl) rfl rfl (r_move rfl (F178.ev rfl)) (fun ac179 F179 => ?_)
                    clear F178 ac178
                    cases hT15 : y5 with
                    | true =>
                      replace h := cond_t hT15 h
                      refine sv (v := .bool true) F179 (g_on F179 rfl rfl rfl (lk rfl hT15)) rfl rfl (r_move rfl (F179.ev (lk rfl hT12))) (fun ac180 F180 => ?_)
                      clear F179 ac179
                      refine sv (v := .bool false) F180 (g_on F180 rfl rfl rfl (lk rfl hT15)) rfl rfl (r_not (b := true) rfl (F180.ev rfl)) (fun ac181 F181 => ?_)
                      clear F180 ac180
                      refine sv (v := .bool false) F181 (g_on F181 rfl rfl rfl (lk rfl hT15)) rfl rfl (r_move rfl (F181.ev rfl)) (fun ac182 F182 => ?_)
                      clear F181 ac181
                      refine sv (v := .bool true) F182 (g_on F182 rfl rfl rfl rfl) rfl rfl (r_move rfl (F182.ev (lk rfl hT11))) (fun ac183 F183 => ?_)
                      clear F182 ac182
                      refine sv (v := .bool true) F183 (g_on F183 rfl rfl rfl (lk rfl hT15)) rfl rfl (r_pick_f rfl (F183.ev rfl) (F183.ev rfl)) (fun ac184 F184 => ?_)
                      clear F183 ac183
                      refine sv (v := .bool true) F184 (run_guard rfl) rfl rfl (r_pick_t rfl (F184.ev (lk rfl hT15)) (F184.ev rfl)) (fun ac185 F185 => ?_)
                      clear F184 ac184
                      refine sv (v := .bool true) F185 (run_guard rfl) rfl rfl (r_assign rfl (F185.ev rfl)) (fun ac186 F186 => ?_)
                      clear F185 ac185
                      refine c_end F186 ?_
                      refine hK12 _ _ ?_
                      refine wp_ret ?_
                      (try simp only [Exit.then, Exit.inBlock])
                      refine retx (fn := Tryd.f12) F186 (results1 (fn := Tryd.f12) rfl (rv_t (t := 4) (v := .bool true) F186 rfl)) ?_
                      cases h
                      exact ⟨rfl, HB.out⟩
                    | false =>
                      replace h := cond_f hT15 h
                      refine so F179 (g_off F179 rfl rfl rfl (lk rfl hT15)) rfl rfl (fun ac187 F187 => ?_)
                      clear F179 ac179
                      refine so F187 (g_off F187 rfl rfl rfl (lk rfl hT15)) rfl rfl (fun ac188 F188 => ?_)
                      clear F187 ac187
                      refine so F188 (g_off F188 rfl rfl rfl (lk rfl hT15)) rfl rfl (fun ac189 F189 => ?_)
                      clear F188 ac188
                      refine so F189 (g_none F189 rfl rfl rfl rfl) rfl rfl (fun ac190 F190 => ?_)
                      clear F189 ac189
                      refine so F190 (g_off F190 rfl rfl rfl (lk rfl hT15)) rfl rfl (fun ac191 F191 => ?_)
                      clear F190 ac190
                      refine sv (v := .bool false) F191 (run_guard rfl) rfl rfl (r_pick_f rfl (F191.ev (lk rfl hT15)) ev_c) (fun ac192 F192 => ?_)
                      clear F191 ac191
                      refine sv (v := .bool false) F192 (run_guard rfl) rfl rfl (r_assign rfl (F192.ev rfl)) (fun ac193 F193 => ?_)
                      clear F192 ac192
                      refine c_end F193 ?_
                      refine hK12 _ _ ?_
                      refine wp_ret ?_
                      (try simp only [Exit.then, Exit.inBlock])
                      refine retx (fn := Tryd.f12) F193 (results1 (fn := Tryd.f12) rfl (rv_t (t := 4) (v := .bool false) F193 rfl)) ?_
                      cases h
                      exact ⟨rfl, HB.out⟩
                | false =>
                  replace h := cond_f hT13 h
                  refine so F161 (g_off F161 rfl rfl rfl (lk rfl hT13)) rfl rfl (fun ac194 F194 => ?_)
                  clear F161 ac161
                  refine so F194 (g_off F194 rfl rfl rfl (lk rfl hT13)) rfl rfl (fun ac195 F195 => ?_)
                  clear F194 ac194
                  refine so F195 (g_off F195 rfl rfl rfl (lk rfl hT13)) rfl rfl (fun ac196 F196 => ?_)
                  clear F195 ac195
                  refine so F196 (g_none F196 rfl rfl rfl rfl) rfl rfl (fun ac197 F197 => ?_)
                  clear F196 ac196
                  refine so F197 (g_off F197 rfl rfl rfl (lk rfl hT13)) rfl rfl (fun ac198 F198 => ?_)
                  clear F197 ac197
                  refine sv (v := .bool false) F198 (run_guard rfl) rfl rfl (r_pick_f rfl (F198.ev (lk rfl hT13)) ev_c) (fun ac199 F199 => ?_)
                  clear F198 ac198
                  refine sv (v := .bool false) F199 (run_guard rfl) rfl rfl (r_move rfl (F199.ev rfl)) (fun ac200 F200 => ?_)
                  clear F199 ac199
                  refine so F200 (g_off F200 rfl rfl rfl rfl) rfl rfl (fun ac201 F201 => ?_)
                  clear F200 ac200
                  refine so F201 (g_off F201 rfl rfl rfl rfl) rfl rfl (fun ac202 F202 => ?_)
                  clear F201 ac201
                  refine so F202 (g_off F202 rfl rfl rfl rfl) rfl rfl (fun ac203 F203 => ?_)
                  clear F202 ac202
                  refine so F203 (g_none F203 rfl rfl rfl rfl) rfl rfl (fun ac204 F204 => ?_)
                  clear F203 ac203
                  refine so F204 (g_off F204 rfl rfl rfl rfl) rfl rfl (fun ac205 F205 => ?_)
                  clear F204 ac204
                  refine sv (v := .bool false) F205 (run_guard rfl) rfl rfl (r_pick_f rfl (F205.ev rfl) ev_c) (fun ac206 F206 => ?_)
                  clear F205 ac205
                  refine sv (v := .bool false) F206 (run_guard rfl) rfl rfl (r_assign rfl (F206.ev rfl)) (fun ac207 F207 => ?_)
                  clear F206 ac206
                  refine c_end F207 ?_
                  refine hK12 _ _ ?_
                  refine wp_ret ?_
                  (try simp only [Exit.then, Exit.inBlock])
                  refine retx (fn := Tryd.f12) F207 (results1 (fn := Tryd.f12) rfl (rv_t (t := 4) (v := .bool false) F207 rfl)) ?_
                  cases h
                  exact ⟨rfl, HB.out⟩
              | false =>
                replace h := cond_f hT12 h
                refine so F157 (g_off F157 rfl rfl rfl (lk rfl hT12)) rfl rfl (fun ac208 F208 => ?_)
                clear F157 ac157
                refine so F208 (g_off F208 rfl rfl rfl (lk rfl hT12)) rfl rfl (fun ac209 F209 => ?_)
                clear F208 ac208
                refine sv (v := .bool false) F209 (run_guard rfl) rfl rfl (r_pick_f rfl (F209.ev (lk rfl hT12)) ev_c) (fun ac210 F210 => ?_)
                clear F209 ac209
                refine sv (v := .bool false) F210 (run_guard rfl) rfl rfl (r_move rfl (F210.ev rfl)) (fun ac211 F211 => ?_)
                clear F210 ac210
                refine so F211 (g_off F211 rfl rfl rfl rfl) rfl rfl (fun ac212 F212 => ?_)
                clear F211 ac211
                refine so F212 (g_off F212 rfl rfl rfl rfl) rfl rfl (fun ac213 F213 => ?_)
                clear F212 ac212
                refine so F213 (g_off F213 rfl rfl rfl rfl) rfl rfl (fun ac214 F214 => ?_)
                clear F213 ac213
                refine so F214 (g_none F214 rfl rfl rfl rfl) rfl rfl (fun ac215 F215 => ?_)
                clear F214 ac214
                refine so F215 (g_off F215 rfl rfl rfl rfl) rfl rfl (fun ac216 F216 => ?_)
                clear F215 ac215
                refine sv (v := .bool false) F216 (run_guard rfl) rfl rfl (r_pick_f rfl (F216.ev rfl) ev_c) (fun ac217 F217 => ?_)
                clear F216 ac216
                refine sv (v := .bool false) F217 (run_guard rfl) rfl rfl (r_move rfl (F217.ev rfl)) (fun ac218 F218 => ?_)
                clear F217 ac217
                refine so F218 (g_off F218 rfl rfl rfl rfl) rfl rfl (fun ac219 F219 => ?_)
                clear F218 ac218
                refine so F219 (g_off F219 rfl rfl rfl rfl) rfl rfl (fun ac220 F220 => ?_)
                clear F219 ac219
                refine so F220 (g_off F220 rfl rfl rfl rfl) rfl rfl (fun ac221 F221 => ?_)
                clear F220 ac220
                refine so F221 (g_none F221 rfl rfl rfl rfl) rfl rfl (fun ac222 F222 => ?_)
                clear F221 ac221
                refine so F222 (g_off F222 rfl rfl rfl rfl) rfl rfl (fun ac223 F223 => ?_)
                clear F222 ac222
                refine sv (v := .bool false) F223 (run_guard rfl) rfl rfl (r_pick_f rfl (F223.ev rfl) ev_c) (fun ac224 F224 => ?_)
                clear F223 ac223
                refine sv (v := .bool false) F224 (run_guard rfl) rfl rfl (r_assign rfl (F224.ev rfl)) (fun ac225 F225 => ?_)
                clear F224 ac224
                refine c_end F225 ?_
                refine hK12 _ _ ?_
                refine wp_ret ?_
                (try simp only [Exit.then, Exit.inBlock])
                refine retx (fn := Tryd.f12) F225 (results1 (fn := Tryd.f12) rfl (rv_t (t := 4) (v := .bool false) F225 rfl)) ?_
                cases h
                exact ⟨rfl, HB.out⟩
            | false =>
              replace h := cond_f hT11 h
              refine so F152 (g_off F152 rfl rfl rfl (lk rfl hT11)) rfl rfl (fun ac226 F226 => ?_)
              clear F152 ac152
              refine sv (v := .bool false) F226 (g_on F226 rfl rfl rfl (lk rfl hT5)) rfl rfl (r_pick_f rfl (F226.ev (lk rfl hT11)) ev_c) (fun ac227 F227 => ?_)
              clear F226 ac226
              refine sv (v := .bool false) F227 (g_on F227 rfl rfl rfl rfl) rfl rfl (r_pick_f rfl (F227.ev (lk rfl hT5)) (F227.ev rfl)) (fun ac228 F228 => ?_)
              clear F227 ac227
              refine sv (v := .bool false) F228 (run_guard rfl) rfl rfl (r_pick_t rfl (F228.ev rfl) (F228.ev rfl)) (fun ac229 F229 => ?_)
              clear F228 ac228
              refine sv (v := .bool false) F229 (run_guard rfl) rfl rfl (r_move rfl (F229.ev rfl)) (fun ac230 F230 => ?_)
              clear F229 ac229
              refine so F230 (g_off F230 rfl rfl rfl rfl) rfl rfl (fun ac231 F231 => ?_)
              clear F230 ac230
              refine so F231 (g_off F231 rfl rfl rfl rfl) rfl rfl (fun ac232 F232 => ?_)
              clear F231 ac231
              refine sv (v := .bool false) F232 (run_guard rfl) rfl rfl (r_pick_f rfl (F232.ev rfl) ev_c) (fun ac233 F233 => ?_)
              clear F232 ac232
              refine sv (v := .bool false) F233 (run_guard rfl) rfl rfl (r_move rfl (F233.ev rfl)) (fun ac234 F234 => ?_)
              clear F233 ac233
              refine so F234 (g_off F234 rfl rfl rfl rfl) rfl rfl (fun ac235 F235 => ?_)
              clear F234 ac234
              refine so F235 (g_off F235 rfl rfl rfl rfl) rfl rfl (fun ac236 F236 => ?_)
              clear F235 ac235
              refine so F236 (g_off F236 rfl rfl rfl rfl) rfl rfl (fun ac237 F237 => ?_)
              clear F236 ac236
              refine so F237 (g_none F237 rfl rfl rfl rfl) rfl rfl (fun ac238 F238 => ?_)
              clear F237 ac237
              refine so F238 (g_off F238 rfl rfl rfl rfl) rfl rfl (fun ac239 F239 => ?_)
              clear F238 ac238
              refine sv (v := .bool false) F239 (run_guard rfl) rfl rfl (r_pick_f rfl (F239.ev rfl) ev_c) (fun ac240 F240 => ?_)
              clear F239 ac239
              refine sv (v := .bool false) F240 (run_guard rfl) rfl rfl (r_move rfl (F240.ev rfl)) (fun ac241 F241 => ?_)
              clear F240 ac240
              refine so F241 (g_off F241 rfl rfl rfl rfl) rfl rfl (fun ac242 F242 => ?_)
              clear F241 ac241
              refine so F242 (g_off F242 rfl rfl rfl rfl) rfl rfl (fun ac243 F243 => ?_)
              clear F242 ac242
              refine so F243 (g_off F243 rfl rfl rfl rfl) rfl rfl (fun ac244 F244 => ?_)
              clear F243 ac243
              refine so F244 (g_none F244 rfl rfl rfl rfl) rfl rfl (fun ac245 F245 => ?_)
              clear F244 ac244
              refine so F245 (g_off F245 rfl rfl rfl rfl) rfl rfl (fun ac246 F246 => ?_)
              clear F245 ac245
              refine sv (v := .bool false) F246 (run_guard rfl) rfl rfl (r_pick_f rfl (F246.ev rfl) ev_c) (fun ac247 F247 => ?_)
              clear F246 ac246
              refine sv (v := .bool false) F247 (run_guard rfl) rfl rfl (r_assign rfl (F247.ev rfl)) (fun ac248 F248 => ?_)
              clear F247 ac247
              refine c_end F248 ?_
              refine hK12 _ _ ?_
              refine wp_ret ?_
              (try simp only [Exit.then, Exit.inBlock])
              refine retx (fn := Tryd.f12) F248 (results1 (fn := Tryd.f12) rfl (rv_t (t := 4) (v := .bool false) F248 rfl)) ?_
              cases h
              exact ⟨rfl, HB.out⟩
        | false =>
          replace h := cond_f hT4 h
          refine sv (v := .bool y5) F75 (g_on F75 rfl rfl rfl (lk rfl hT4)) rfl rfl (r_move rfl (F75.ev rfl)) (fun ac249 F249 => ?_)
          clear F75 ac75
          refine sv (v := .bool y5) F249 (g_on F249 rfl rfl rfl (lk rfl hT4)) rfl rfl (r_move rfl (F249.ev rfl)) (fun ac250 F250 => ?_)
          clear F249 ac249
          cases hT16 : y5 with
          | true =>
            replace h := cond_t hT16 h
            refine sv (v := .bool y6) F250 (g_on F250 rfl rfl rfl (lk rfl hT16)) rfl rfl (r_move rfl (F250.ev rfl)) (fun ac251 F251 => ?_)
            clear F250 ac250
            refine sv (v := .bool y6) F251 (g_on F251 rfl rfl rfl (lk rfl hT4)) rfl rfl (r_pick_t rfl (F251.ev (lk rfl hT16)) (F251.ev rfl)) (fun ac252 F252 => ?_)
            clear F251 ac251
            refine sv (v := .bool y6) F252 (g_on F252 rfl rfl rfl (lk rfl hT3)) rfl rfl (r_pick_f rfl (F252.ev (lk rfl hT4)) (F252.ev rfl)) (fun ac253 F253 => ?_)
            clear F252 ac252
            refine sv (v := .bool y6) F253 (run_guard rfl) rfl rfl (r_pick_t rfl (F253.ev (lk rfl hT3)) (F253.ev rfl)) (fun ac254 F254 => ?_)
            clear F253 ac253
            refine sv (v := .bool y6) F254 (run_guard rfl) rfl rfl (r_move rfl (F254.ev rfl)) (fun ac255 F255 => ?_)
            clear F254 ac254
            cases hT17 : y6 with
            | true =>
              replace h := cond_t hT17 h
              refine sv (v := .bool y3) F255 (g_on F255 rfl rfl rfl (lk rfl hT17)) rfl rfl (r_move rfl (F255.ev rfl)) (fun ac256 F256 => ?_)
              clear F255 ac255
              refine sv (v := .bool (!y3)) F256 (g_on F256 rfl rfl rfl (lk rfl hT17)) rfl rfl (r_not (b := y3) rfl (F256.ev rfl)) (fun ac257 F257 => ?_)
              clear F256 ac256
              refine sv (v := .bool (!y3)) F257 (g_on F257 rfl rfl rfl (lk rfl hT17)) rfl rfl (r_move rfl (F257.ev rfl)) (fun ac258 F258 => ?_)
              clear F257 ac257
              cases hT18 : (!y3) with
              | true =>
                replace h := cond_t hT18 h
                refine so F258 (g_off F258 rfl rfl rfl (lk rfl hT18)) rfl rfl (fun ac259 F259 => ?_)
                clear F258 ac258
                refine so F259 (g_off F259 rfl rfl rfl (lk rfl hT18)) rfl rfl (fun ac260 F260 => ?_)
                clear F259 ac259
                refine so F260 (g_none F260 rfl rfl rfl rfl) rfl rfl (fun ac261 F261 => ?_)
                clear F260 ac260
                refine so F261 (g_off F261 rfl rfl rfl (lk rfl hT18)) rfl rfl (fun ac262 F262 => ?_)
                clear F261 ac261
                refine sv (v := .bool true) F262 (g_on F262 rfl rfl rfl (lk rfl hT17)) rfl rfl (r_pick_t rfl (F262.ev (lk rfl hT18)) ev_c) (fun ac263 F263 => ?_)
                clear F262 ac262
                refine sv (v := .bool true) F263 (run_guard rfl) rfl rfl (r_pick_t rfl (F263.ev (lk rfl hT17)) (F263.ev rfl)) (fun ac264 F264 => ?_)
                clear F263 ac263
                refine sv (v := .bool true) F264 (run_guard rfl) rfl rfl (r_move rfl (F264.ev rfl)) (fun ac265 F265 => ?_)
                clear F264 ac264
                refine sv (v := .bool y10) F265 (g_on F265 rfl rfl rfl rfl) rfl rfl (r_move rfl (F265.ev rfl)) (fun ac266 F266 => ?_)
                clear F265 ac265
                refine sv (v := .bool (!y10)) F266 (g_on F266 rfl rfl rfl rfl) rfl rfl (r_not (b := y10) rfl (F266.ev rfl)) (fun ac267 F267 => ?_)
                clear F266 ac266
                refine sv (v := .bool (!y10)) F267 (run_guard rfl) rfl rfl (r_pick_t rfl (F267.ev rfl) (F267.ev rfl)) (fun ac268 F268 => ?_)
                clear F267 ac267
                refine sv (v := .bool (!y10)) F268 (run_guard rfl) rfl rfl (r_move rfl (F268.ev rfl)) (fun ac269 F269 => ?_)
                clear F268 ac268
                cases hT19 : (!y10) with
                | true =>
                  replace h := cond_t hT19 h
                  refine sv (v := .bool true) F269 (g_on F269 rfl rfl rfl (lk rfl hT19)) rfl rfl (r_move rfl (F269.ev (lk rfl hT17))) (fun ac270 F270 => ?_)
                  clear F269 ac269
                  refine sv (v := .bool false) F270 (g_on F270 rfl rfl rfl (lk rfl hT19)) rfl rfl (r_not (b := true) rfl (F270.ev rfl)) (fun ac271 F271 => ?_)
                  clear F270 ac270
                  refine sv (v := .bool false) F271 (g_on F271 rfl rfl rfl (lk rfl hT19)) rfl rfl (r_move rfl (F271.ev rfl)) (fun ac272 F272 => ?_)
                  clear F271 ac271
                  refine sv (v := .bool true) F272 (g_on F272 rfl rfl rfl rfl) rfl rfl (r_move rfl (F272.ev (lk rfl hT16))) (fun ac273 F273 => ?_)
                  clear F272 ac272
                  refine sv (v := .bool true) F273 (g_on F273 rfl rfl rfl (lk rfl hT19)) rfl rfl (r_pick_f rfl (F273.ev rfl) (F273.ev rfl)) (fun ac274 F274 => ?_)
                  clear F273 ac273
                  refine sv (v := .bool true) F274 (run_guard rfl) rfl rfl (r_pick_t rfl (F274.ev (lk rfl hT19)) (F274.ev rfl)) (fun ac275 F275 => ?_)
                  clear F274 ac274
                  refine sv (v := .bool true) F275 (run_guard rfl) rfl rfl (r_move rfl (F275.ev rfl)) (fun ac276 F276 => ?_)
                  clear F275 ac275
                  refine sv (v := .bool y9) F276 (g_on F276 rfl rfl rfl rfl) rfl rfl (r_move rfl (F276.ev rfl)) (fun ac277 F277 => ?_)
                  clear F276 ac276
                  refine sv (v := .bool (!y9)) F277 (g_on F277 rfl rfl rfl rfl) rfl rfl (r_not (b := y9) rfl (F277.ev rfl)) (fun ac278 F278 => ?_)
                  clear F277 ac277
                  refine sv (v := .bool (!y9)) F278 (g_on F278 rfl rfl rfl rfl) rfl rfl (r_move rfl (F278.ev rfl)) (fun ac279 F279 => ?_)
                  clear F278 ac278
                  cases hT20 : (!y9) with
                  | true =>
                    replace h := cond_t hT20 h
                    refine so F279 (g_off F279 rfl rfl rfl (lk rfl hT20)) rfl rfl (fun ac280 F280 => ?_)
                    clear F279 ac279
                    refine sv (v := .bool true) F280 (g_on F280 rfl rfl rfl rfl) rfl rfl (r_pick_t rfl (F280.ev (lk rfl hT20)) ev_c) (fun ac281 F281 => ?_)
                    clear F280 ac280
                    refine sv (v := .bool true) F281 (run_guard rfl) rfl rfl (r_pick_t rfl (F281.ev rfl) (F281.ev rfl)) (fun ac282 F282 => ?_)
                    clear F281 ac281
                    refine sv (v := .bool true) F282 (run_guard rfl) rfl rfl (r_assign rfl (F282.ev rfl)) (fun ac283 F283 => ?_)
                    clear F282 ac282
                    refine c_end F283 ?_
                    refine hK12 _ _ ?_
                    refine wp_ret ?_
                    (try simp only [Exit.then, Exit.inBlock])
                    refine retx (fn := Tryd.f12) F283 (results1 (fn := Tryd.f12) rfl (rv_t (t := 4) (v := .bool true) F283 rfl)) ?_
                    cases h
                    exact ⟨rfl, HB.out⟩
                  | false =>
                    replace h := cond_f hT20 h
                    refine sv (v := .bool y8) F279 (g_on F279 rfl rfl rfl (lk rfl hT20)) rfl rfl (r_move rfl (F279.ev rfl)) (fun ac284 F284 => ?_)
                    clear F279 ac279
                    refine sv (v := .bool y8) F284 (g_on F284 rfl rfl rfl rfl) rfl rfl (r_pick_f rfl (F284.ev (lk rfl hT20)) (F284.ev rfl)) (fun ac285 F285 => ?_)
                    clear F284 ac284
                    refine sv (v := .bool y8) F285 (run_guard rfl) rfl rfl (r_pick_t rfl (F285.ev rfl) (F285.ev rfl)) (fun ac286 F286 => ?_)
                    clear F285 ac285
                    refine sv (v := .bool y8) F286 (run_guard rfl) rfl rfl (r_assign rfl (F286.ev rfl)) (fun ac287 F287 => ?_)
                    clear F286 ac286
                    refine c_end F287 ?_
                    refine hK12 _ _ ?_
                    refine wp_ret ?_
                    (try simp only [Exit.then, Exit.inBlock])
                    refine retx (fn := Tryd.f12) F287 (results1 (fn := Tryd.f12) rfl (rv_t (t := 4) (v := .bool y8) F287 rfl)) ?_
                    cases h
                    exact ⟨rfl, HB.out⟩
                | false =>
                  replace h := cond_f hT19 h
                  refine so F269 (g_off F269 rfl rfl rfl (lk rfl hT19)) rfl rfl (fun ac288 F288 => ?_)
                  clear F269 ac269
                  refine so F288 (g_off F288 rfl rfl rfl (lk rfl hT19)) rfl rfl (fun ac289 F289 => ?_)
                  clear F288 ac288
                  refine so F289 (g_off F289 rfl rfl rfl (lk rfl hT19)) rfl rfl (fun ac290 F290 => ?_)
                  clear F289 ac289
                  refine so F290 (g_none F290 rfl rfl rfl rfl) rfl rfl (fun ac291 F291 => ?_)
                  clear F290 ac290
                  refine so F291 (g_off F291 rfl rfl rfl (lk rfl hT19)) rfl rfl (fun ac292 F292 => ?_)
                  clear F291 ac291
                  refine sv (v := .bool false) F292 (run_guard rfl) rfl rfl (r_pick_f rfl (F292.ev (lk rfl hT19)) ev_c) (fun ac293 F293 => ?_)
                  clear F292 ac292
                  refine sv (v := .bool false) F293 (run_guard rfl) rfl rfl (r_move rfl (F293.ev rfl)) (fun ac294 F294 => ?_)
                  clear F293 ac293
                  refine so F294 (g_off F294 rfl rfl rfl rfl) rfl rfl (fun ac295 F295 => ?_)
                  clear F294 ac294
                  refine so F295 (g_off F295 rfl rfl rfl rfl) rfl rfl (fun ac296 F296 => ?_)
                  clear F295 ac295
                  refine so F296 (g_off F296 rfl rfl rfl rfl) rfl rfl (fun ac297 F297 => ?_)
                  clear F296 ac296
                  refine so F297 (g_none F297 rfl rfl rfl rfl) rfl rfl (fun ac298 F298 => ?_)
                  clear F297 ac297
                  refine so F298 (g_off F298 rfl rfl rfl rfl) rfl rfl (fun ac299 F299 => ?_)
                  clear F298 ac298
                  refine sv (v := .bool false) F299 (run_guard rfl) rfl rfl (r_pick_f rfl (F299.ev rfl) ev_c) (fun ac300 F300 => ?_)
                  clear F299 ac299
                  refine sv (v := .bool false) F300 (run_guard rfl) rfl rfl (r_assign rfl (F300.ev rfl)) (fun ac301 F301 => ?_)
                  clear F300 ac300
                  refine c_end F301 ?_
                  refine hK12 _ _ ?_
                  refine wp_ret ?_
                  (try simp only [Exit.then, Exit.inBlock])
                  refine retx (fn := Tryd.f12) F301 (results1 (fn := Tryd.f12) rfl (rv_t (t := 4) (v := .bool false) F301 rfl)) ?_
                  cases h
                  exact ⟨rfl, HB.out⟩
              | false =>
                replace h := cond_f hT18 h
                refine sv (v := .bool y8) F258 (g_on F258 rfl rfl rfl (lk rfl hT18)) rfl rfl (r_move rfl (F258.ev rfl)) (fun ac302 F302 => ?_)
                clear F258 ac258
                refine sv (v := .bool y8) F302 (g_on F302 rfl rfl rfl (lk rfl hT18)) rfl rfl (r_move rfl (F302.ev rfl)) (fun ac303 F303 => ?_)
                clear F302 ac302
                cases hT21 : y8 with
                | true =>
                  replace h := cond_t hT21 h
                  refine sv (v := .bool y9) F303 (g_on F303 rfl rfl rfl (lk rfl hT21)) rfl rfl (r_move rfl (F303.ev rfl)) (fun ac304 F304 => ?_)
                  clear F303 ac303
                  refine sv (v := .bool y9) F304 (g_on F304 rfl rfl rfl (lk rfl hT18)) rfl rfl (r_pick_t rfl (F304.ev (lk rfl hT21)) (F304.ev rfl)) (fun ac305 F305 => ?_)
                  clear F304 ac304
                  refine sv (v := .bool y9) F305 (g_on F305 rfl rfl rfl (lk rfl hT17)) rfl rfl (r_pick_f rfl (F305.ev (lk rfl hT18)) (F305.ev rfl)) (fun ac306 F306 => ?_)
                  clear F305 ac305
                  refine sv (v := .bool y9) F306 (run_guard rfl) rfl rfl (r_pick_t rfl (F306.ev (lk rfl hT17)) (F306.ev rfl)) (fun ac307 F307 => ?_)
                  clear F306 ac306
                  refine sv (v := .bool y9) F307 (run_guard rfl) rfl rfl (r_move rfl (F307.ev rfl)) (fun ac308 F308 => ?_)
                  clear F307 ac307
                  cases hT22 : y9 with
                  | true =>
                    replace h := cond_t hT22 h
                    refine sv (v := .bool y10) F308 (g_on F308 rfl rfl rfl (lk rfl hT22)) rfl rfl (r_move rfl (F308.ev rfl)) (fun ac309 F309 => ?_)
                    clear F308 ac308
                    refine sv (v := .bool (!y10)) F309 (g_on F309 rfl rfl rfl (lk rfl hT22)) rfl rfl (r_not (b := y10) rfl (F309.ev rfl)) (fun ac310 F310 => ?_)
                    clear F309 ac309
                    refine sv (v := .bool (!y10)) F310 (run_guard rfl) rfl rfl (r_pick_t rfl (F310.ev (lk rfl hT22)) (F310.ev rfl)) (fun ac311 F311 => ?_)
                    clear F310 ac310
                    refine sv (v := .bool (!y10)) F311 (run_guard rfl) rfl rfl (r_move rfl (F311.ev rfl)) (fun ac312 F312 => ?_)
                    clear F311 ac311
                    cases hT23 : (!y10) with
                    | true =>
                      replace h := cond_t hT23 h
                      refine sv (v := .bool true) F312 (g_on F312 rfl rfl rfl (lk rfl hT23)) rfl rfl (r_move rfl (F312.ev (lk rfl hT17))) (fun ac313 F313 => ?_)
                      clear F312 ac312
                      refine sv (v := .bool false) F313 (g_on F313 rfl rfl rfl (lk rfl hT23)) rfl rfl (r_not (b := true) rfl (F313.ev rfl)) (fun ac314 F314 => ?_)
                      clear F313 ac313
                      refine sv (v := .bool false) F314 (g_on F314 rfl rfl rfl (lk rfl hT23)) rfl rfl (r_move rfl (F314.ev rfl)) (fun ac315 F315 => ?_)
                      clear F314 ac314
                      refine sv (v := .bool true) F315 (g_on F315 rfl rfl rfl rfl) rfl rfl (r_move rfl (F315.ev (lk rfl hT16))) (fun ac316 F316 => ?_)
                      clear F315 ac315
                      refine sv (v := .bool true) F316 (g_on F316 rfl rfl rfl (lk rfl hT23)) rfl rfl (r_pick_f rfl (F316.ev rfl) (F316.ev rfl)) (fun ac317 F317 => ?_)
                      clear F316 ac316
                      refine sv (v := .bool true) F317 (run_guard rfl) rfl rfl (r_pick_t rfl (F317.ev (lk rfl hT23)) (F317.ev rfl)) (fun ac318 F318 => ?_)
                      clear F317 ac317
                      refine sv (v := .bool true) F318 (run_guard rfl) rfl rfl (r_move rfl (F318.ev rfl)) (fun ac319 F319 => ?_)
                      clear F318 ac318
                      refine sv (v := .bool true) F319 (g_on F319 rfl rfl rfl rfl) rfl rfl (r_move rfl (F319.ev (lk rfl hT22))) (fun ac320 F320 => ?_)
                      clear F319 ac319
                      refine sv (v := .bool false) F320 (g_on F320 rfl rfl rfl rfl) rfl rfl (r_not (b := true) rfl (F320.ev rfl)) (fun ac321 F321 => ?_)
                      clear F320 ac320
                      refine sv (v := .bool false) F321 (g_on F321 rfl rfl rfl rfl) rfl rfl (r_move rfl (F321.ev rfl)) (fun ac322 F322 => ?_)
                      clear F321 ac321
                      refine sv (v := .bool true) F322 (g_on F322 rfl rfl rfl rfl) rfl rfl (r_move rfl (F322.ev (lk rfl hT21))) (fun ac323 F323 => ?_)
                      clear F322 ac322
                      refine sv (v := .bool true) F323 (g_on F323 rfl rfl rfl rfl) rfl rfl (r_pick_f rfl (F323.ev rfl) (F323.ev rfl)) (fun ac324 F324 => ?_)
                      clear F323 ac323
                      refine sv (v := .bool true) F324 (run_guard rfl) rfl rfl (r_pick_t rfl (F324.ev rfl) (F324.ev rfl)) (fun ac325 F325 => ?_)
                      clear F324 ac324
                      refine sv (v := .bool true) F325 (run_guard rfl) rfl rfl (r_assign rfl (F325.ev rfl)) (fun ac326 F326 => ?_)
                      clear F325 ac325
                      refine c_end F326 ?_
                      refine hK12 _ _ ?_
                      refine wp_ret ?_
                      (try simp only [Exit.then, Exit.inBlock])
                      refine retx (fn := Tryd.f12) F326 (results1 (fn := Tryd.f12) rfl (rv_t (t := 4) (v := .bool true) F326 rfl)) ?_
                      cases h
                      exact ⟨rfl, HB.out⟩
                    | false =>
                      replace h := cond_f hT23 h
                      refine so F312 (g_off F312 rfl rfl rfl (lk rfl hT23)) rfl rfl (fun ac327 F327 => ?_)
                      clear F312 ac312
                      refine so F327 (g_off F327 rfl rfl rfl (lk rfl hT23)) rfl rfl (fun ac328 F328 => ?_)
                      clear F327 ac327
                      refine so F328 (g_off F328 rfl rfl rfl (lk rfl hT23)) rfl rfl (fun ac329 F329 => ?_)
                      clear F328 ac328
                      refine so F329 (g_none F329 rfl rfl rfl rfl) rfl rfl (fun ac330 F330 => ?_)
                      clear F329 ac329
                      refine so F330 (g_off F330 rfl rfl rfl (lk rfl hT23)) rfl rfl (fun ac331 F331 => ?_)
                      clear F330 ac330
                      refine sv (v := .bool false) F331 (run_guard rfl) rfl rfl (r_pick_f rfl (F331.ev (lk rfl hT23)) ev_c) (fun ac332 F332 => ?_)
                      clear F331 ac331
                      refine sv (v := .bool false) F332 (run_guard rfl) rfl rfl (r_move rfl (F332.ev rfl)) (fun ac333 F333 => ?_)
                      clear F332 ac332
                      refine so F333 (g_off F333 rfl rfl rfl rfl) rfl rfl (fun ac334 F334 => ?_)
                      clear F333 ac333
                      refine so F334 (g_off F334 rfl rfl rfl rfl) rfl rfl (fun ac335 F335 => ?_)
                      clear F334 ac334
                      refine so F335 (g_off F335 rfl rfl rfl rfl) rfl rfl (fun ac336 F336 => ?_)
                      clear F335 ac335
                      refine so F336 (g_none F336 rfl rfl rfl rfl) rfl rfl (fun ac337 F337 => ?_)
                      clear F336 ac336
                      refine so F337 (g_off F337 rfl rfl rfl rfl) rfl rfl (fun ac338 F338 => ?_)
                      clear F337 ac337
                      refine sv (v := .bool false) F338 (run_guard rfl) rfl rfl (r_pick_f rfl (F338.ev rfl) ev_c) (fun ac339 F339 => ?_)
                      clear F338 ac338
                      refine sv (v := .bool false) F339 (run_guard rfl) rfl rfl (r_assign rfl (F339.ev rfl)) (fun ac340 F340 => ?_)
                      clear F339 ac339
                      refine c_end F340 ?_
                      refine hK12 _ _ ?_
                      refine wp_ret ?_
                      (try simp only [Exit.then, Exit.inBlock])
                      refine retx (fn := Tryd.f12) F340 (results1 (fn := Tryd.f12) rfl (rv_t (t := 4) (v := .bool false) F340 rfl)) ?_
                      cases h
                      exact ⟨rfl, HB.out⟩
                  | false =>
                    replace h := cond_f hT22 h
                    refine so F308 (g_off F308 rfl rfl rfl (lk rfl hT22)) rfl rfl (fun ac341 F341 => ?_)
                    clear F308 ac308
                    refine so F341 (g_off F341 rfl rfl rfl (lk rfl hT22)) rfl rfl (fun ac342 F342 => ?_)
                    clear F341 ac341
                    refine sv (v := .bool false) F342 (run_guard rfl) rfl rfl (r_pick_f rfl (F342.ev (lk rfl hT22)) ev_c) (fun ac343 F343 => ?_)
                    clear F342 ac342
                    refine sv (v := .bool false) F343 (run_guard rfl) rfl rfl (r_move rfl (F343.ev rfl)) (fun ac344 F344 => ?_)
                    clear F343 ac343
                    refine so F344 (g_off F344 rfl rfl rfl rfl) rfl rfl (fun ac345 F345 => ?_)
                    clear F344 ac344
                    refine so F345 (g_off F345 rfl rfl rfl rfl) rfl rfl (fun ac346 F346 => ?_)
                    clear F345 ac345
                    refine so F346 (g_off F346 rfl rfl rfl rfl) rfl rfl (fun ac347 F347 => ?_)
                    clear F346 ac346
                    refine so F347 (g_none F347 rfl rfl rfl rfl) rfl rfl (fun ac348 F348 => ?_)
                    clear F347 ac347
                    refine so F348 (g_off F348 rfl rfl rfl rfl) rfl rfl (fun ac349 F349 => ?_)
                    clear F348 ac348
                    refine sv (v := .bool false) F349 (run_guard rfl) rfl rfl (r_pick_f rfl (F349.ev rfl) ev_c) (fun ac350 F350 => ?_)
                    clear F349 ac349
                    refine sv (v := .bool false) F350 (run_guard rfl) rfl rfl (r_move rfl (F350.ev rfl)) (fun ac351 F351 => ?_)
                    clear F350 ac350
                    refine so F351 (g_off F351 rfl rfl rfl rfl) rfl rfl (fun ac352 F352 => ?_)
                    clear F351 ac351
                    refine so F352 (g_off F352 rfl rfl rfl rfl) rfl rfl (fun ac353 F353 => ?_)
                    clear F352 ac352
                    refine so F353 (g_off F353 rfl rfl rfl rfl) rfl rfl (fun ac354 F354 => ?_)
                    clear F353 ac353
                    refine so F354 (g_none F354 rfl rfl rfl rfl) rfl rfl (fun ac355 F355 => ?_)
                    clear F354 ac354
                    refine so F355 (g_off F355 rfl rfl rfl rfl) rfl rfl (fun ac356 F356 => ?_)
                    clear F355 ac355
                    refine sv (v := .bool false) F356 (run_guard rfl) rfl rfl (r_pick_f rfl (F356.ev rfl) ev_c) (fun ac357 F357 => ?_)
                    clear F356 ac356
                    refine sv (v := .bool false) F357 (run_guard rfl) rfl rfl (r_assign rfl (F357.ev rfl)) (fun ac358 F358 => ?_)
                    clear F357 ac357
                    refine c_end F358 ?_
                    refine hK12 _ _ ?_
                    refine wp_ret ?_
                    (try simp only [Exit.then, Exit.inBlock])
                    refine retx (fn := Tryd.f12) F358 (results1 (fn := Tryd.f12) rfl (rv_t (t := 4) (v := .bool false) F358 rfl)) ?_
                    cases h
                    exact ⟨rfl, HB.out⟩
                | false =>
                  replace h := cond_f hT21 h
                  refine so F303 (g_off F303 rfl rfl rfl (lk rfl hT21)) rfl rfl (fun ac359 F359 => ?_)
                  clear F303 ac303
                  refine sv (v := .bool false) F359 (g_on F359 rfl rfl rfl (lk rfl hT18)) rfl rfl (r_pick_f rfl (F359.ev (lk rfl hT21)) ev_c) (fun ac360 F360 => ?_)
                  clear F359 ac359
                  refine sv (v := .bool false) F360 (g_on F360 rfl rfl rfl (lk rfl hT17)) rfl rfl (r_pick_f rfl (F360.ev (lk rfl hT18)) (F360.ev rfl)) (fun ac361 F361 => ?_)
                  clear F360 ac360
                  refine sv (v := .bool false) F361 (run_guard rfl) rfl rfl (r_pick_t rfl (F361.ev (lk rfl hT17)) (F361.ev rfl)) (fun ac362 F362 => ?_)
                  clear F361 ac361
                  refine sv (v := .bool false) F362 (run_guard rfl) rfl rfl (r_move rfl (F362.ev rfl)) (fun ac363 F363 => ?_)
                  clear F362 ac362
                  refine so F363 (g_off F363 rfl rfl rfl rfl) rfl rfl (fun ac364 F364 => ?_)
                  clear F363 ac363
                  refine so F364 (g_off F364 rfl rfl rfl rfl) rfl rfl (fun ac365 F365 => ?_)
                  clear F364 ac364
                  refine sv (v := .bool false) F365 (run_guard rfl) rfl rfl (r_pick_f rfl (F365.ev rfl) ev_c) (fun ac366 F366 => ?_)
                  clear F365 ac365
                  refine sv (v := .bool false) F366 (run_guard rfl) rfl rfl (r_move rfl (F366.ev rfl)) (fun ac367 F367 => ?_)
                  clear F366 ac366
                  refine so F367 (g_off F367 rfl rfl rfl rfl) rfl rfl (fun ac368 F368 => ?_)
                  clear F367 ac367
                  refine so F368 (g_off F368 rfl rfl rfl rfl) rfl rfl (fun ac369 F369 => ?_)
                  clear F368 ac368
                  refine so F369 (g_off F369 rfl rfl rfl rfl) rfl rfl (fun ac370 F370 => ?_)
                  clear F369 ac369
                  refine so F370 (g_none F370 rfl rfl rfl rfl) rfl rfl (fun ac371 F371 => ?_)
                  clear F370 ac370
                  refine so F371 (g_off F371 rfl rfl rfl rfl) rfl rfl (fun ac372 F372 => ?_)
                  clear F371 ac371
                  refine sv (v := .bool false) F372 (run_guard rfl) rfl rfl (r_pick_f rfl (F372.ev rfl) ev_c) (fun ac373 F373 => ?_)
                  clear F372 ac372
                  refine sv (v := .bool false) F373 (run_guard rfl) rfl rfl (r_move rfl (F373.ev rfl)) (fun ac374 F374 => ?_)
                  clear F373 ac373
                  refine so F374 (g_off F374 rfl rfl rfl rfl) rfl rfl (fun ac375 F375 => ?_)
                  clear F374 ac374
                  refine so F375 (g_off F375 rfl rfl rfl rfl) rfl rfl (fun ac376 F376 => ?_)
                  clear F375 ac375
                  refine so F376 (g_off F376 rfl rfl rfl rfl) rfl rfl (fun ac377 F377 => ?_)
                  clear F376 ac376
                  refine so F377 (g_none F377 rfl rfl rfl rfl) rfl rfl (fun ac378 F378 => ?_)
                  clear F377 ac377
                  refine so F378 (g_off F378 rfl rfl rfl rfl) rfl rfl (fun ac379 F379 => ?_)
                  clear F378 ac378
                  refine sv (v := .bool false) F379 (run_guard rfl) rfl rfl (r_pick_f rfl (F379.ev rfl) ev_c) (fun ac380 F380 => ?_)
                  clear F379 ac379
                  refine sv (v := .bool false) F380 (run_guard rfl) rfl rfl (r_assign rfl (F380.ev rfl)) (fun ac381 F381 => ?_)
                  clear F380 ac380
                  refine c_end F381 ?_
                  refine hK12 _ _ ?_
                  refine wp_ret ?_
                  (try simp only [Exit.then, Exit.inBlock])
                  refine retx (fn := Tryd.f12) F381 (results1 (fn := Tryd.f12) rfl (rv_t (t := 4) (v := .bool false) F381 rfl)) ?_
                  cases h
                  exact ⟨rfl, HB.out⟩
            | false =>
              replace h := cond_f hT17 h
              refine so F255 (g_off F255 rfl rfl rfl (lk rfl hT17)) rfl rfl (fun ac382 F382 => ?_)
              clear F255 ac255
              refine so F382 (g_off F382 rfl rfl rfl (lk rfl hT17)) rfl rfl (fun ac383 F383 => ?_)
              clear F382 ac382
              refine so F383 (g_off F383 rfl rfl rfl (lk rfl hT17)) rfl rfl (fun ac384 F384 => ?_)
              clear F383 ac383
              refine so F384 (g_none F384 rfl rfl rfl rfl) rfl rfl (fun ac385 F385 => ?_)
              clear F384 ac384
              refine so F385 (g_none F385 rfl rfl rfl rfl) rfl rfl (fun ac386 F386 => ?_)
              clear F385 ac385
              refine so F386 (g_none F386 rfl rfl rfl rfl) rfl rfl (fun ac387 F387 => ?_)
              clear F386 ac386
              refine so F387 (g_none F387 rfl rfl rfl rfl) rfl rfl (fun ac388 F388 => ?_)
              clear F387 ac387
              refine so F388 (g_off F388 rfl rfl rfl (lk rfl hT17)) rfl rfl (fun ac389 F389 => ?_)
              clear F388 ac388
              refine sv (v := .bool false) F389 (run_guard rfl) rfl rfl (r_pick_f rfl (F389.ev (lk rfl hT17)) ev_c) (fun ac390 F390 => ?_)
              clear F389 ac389
              refine sv (v := .bool false) F390 (run_guard rfl) rfl rfl (r_move rfl (F390.ev rfl)) (fun ac391 F391 => ?_)
              clear F390 ac390
              refine so F391 (g_off F391 rfl rfl rfl rfl) rfl rfl (fun ac392 F392 => ?_)
              clear F391 ac391
              refine so F392 (g_off F392 rfl rfl rfl rfl) rfl rfl (fun ac393 F393 => ?_)
              clear F392 ac392
              refine sv (v := .bool false) F393 (run_guard rfl) rfl rfl (r_pick_f rfl (F393.ev rfl) ev_c) (fun ac394 F394 => ?_)
              clear F393 ac393
              refine sv (v := .bool false) F394 (run_guard rfl) rfl rfl (r_move rfl (F394.ev rfl)) (fun ac395 F395 => ?_)
              clear F394 ac394
              refine so F395 (g_off F395 rfl rfl rfl rfl) rfl rfl (fun ac396 F396 => ?_)
              clear F395 ac395
              refine so F396 (g_off F396 rfl rfl rfl rfl) rfl rfl (fun ac397 F397 => ?_)
              clear F396 ac396
              refine so F397 (g_off F397 rfl rfl rfl rfl) rfl rfl (fun ac398 F398 => ?_)
              clear F397 ac397
              refine so F398 (g_none F398 rfl rfl rfl rfl) rfl rfl (fun ac399 F399 => ?_)
              clear F398 ac398
              refine so F399 (g_off F399 rfl rfl rfl rfl) rfl rfl (fun ac400 F400 => ?_)
              clear F399 ac399
              refine sv (v := .bool false) F400 (run_guard rfl) rfl rfl (r_pick_f rfl (F400.ev rfl) ev_c) (fun ac401 F401 => ?_)
              clear F400 ac400
              refine sv (v := .bool false) F401 (run_guard rfl) rfl rfl (r_move rfl (F401.ev rfl)) (fun ac402 F402 => ?_)
              clear F401 ac401
              refine so F402 (g_off F402 rfl rfl rfl rfl) rfl rfl (fun ac403 F403 => ?_)
              clear F402 ac402
              refine so F403 (g_off F403 rfl rfl rfl rfl) rfl rfl (fun ac404 F404 => ?_)
              clear F403 ac403
              refine so F404 (g_off F404 rfl rfl rfl rfl) rfl rfl (fun ac405 F405 => ?_)
              clear F404 ac404
              refine so F405 (g_none F405 rfl rfl rfl rfl) rfl rfl (fun ac406 F406 => ?_)
              clear F405 ac405
              refine so F406 (g_off F406 rfl rfl rfl rfl) rfl rfl (fun ac407 F407 => ?_)
              clear F406 ac406
              refine sv (v := .bool false) F407 (run_guard rfl) rfl rfl (r_pick_f rfl (F407.ev rfl) ev_c) (fun ac408 F408 => ?_)
              clear F407 ac407
              refine sv (v := .bool false) F408 (run_guard rfl) rfl rfl (r_assign rfl (F408.ev rfl)) (fun ac409 F409 => ?_)
              clear F408 ac408
              refine c_end F409 ?_
              refine hK12 _ _ ?_
              refine wp_ret ?_
              (try simp only [Exit.then, Exit.inBlock])
              refine retx (fn := Tryd.f12) F409 (results1 (fn := Tryd.f12) rfl (rv_t (t := 4) (v := .bool false) F409 rfl)) ?_
              cases h
              exact ⟨rfl, HB.out⟩
          | false =>
            replace h := cond_f hT16 h
            refine so F250 (g_off F250 rfl rfl rfl (lk rfl hT16)) rfl rfl (fun ac410 F410 => ?_)
            clear F250 ac250
            refine sv (v := .bool false) F410 (g_on F410 rfl rfl rfl (lk rfl hT4)) rfl rfl (r_pick_f rfl (F410.ev (lk rfl hT16)) ev_c) (fun ac411 F411 => ?_)
            clear F410 ac410
            refine sv (v := .bool false) F411 (g_on F411 rfl rfl rfl (lk rfl hT3)) rfl rfl (r_pick_f rfl (F411.ev (lk rfl hT4)) (F411.ev rfl)) (fun ac412 F412 => ?_)
            clear F411 ac411
            refine sv (v := .bool false) F412 (run_guard rfl) rfl rfl (r_pick_t rfl (F412.ev (lk rfl hT3)) (F412.ev rfl)) (fun ac413 F413 => ?_)
            clear F412 ac412
            refine sv (v := .bool false) F413 (run_guard rfl) rfl rfl (r_move rfl (F413.ev rfl)) (fun ac414 F414 => ?_)
            clear F413 ac413
            refine so F414 (g_off F414 rfl rfl rfl rfl) rfl rfl (fun ac415 F415 => ?_)
            clear F414 ac414
            refine so F415 (g_off F415 rfl rfl rfl rfl) rfl rfl (fun ac416 F416 => ?_)
            clear F415 ac415
            refine so F416 (g_off F416 rfl rfl rfl rfl) rfl rfl (fun ac417 F417 => ?_)
            clear F416 ac416
            refine so F417 (g_none F417 rfl rfl rfl rfl) rfl rfl (fun ac418 F418 => ?_)
            clear F417 ac417
            refine so F418 (g_none F418 rfl rfl rfl rfl) rfl rfl (fun ac419 F419 => ?_)
            clear F418 ac418
            refine so F419 (g_none F419 rfl rfl rfl rfl) rfl rfl (fun ac420 F420 => ?_)
            clear F419 ac419
            refine so F420 (g_none F420 rfl rfl rfl rfl) rfl rfl (fun ac421 F421 => ?_)
            clear F420 ac420
            refine so F421 (g_off F421 rfl rfl rfl rfl) rfl rfl (fun ac422 F422 => ?_)
            clear F421 ac421
            refine sv (v := .bool false) F422 (run_guard rfl) rfl rfl (r_pick_f rfl (F422.ev rfl) ev_c) (fun ac423 F423 => ?_)
            clear F422 ac422
            refine sv (v := .bool false) F423 (run_guard rfl) rfl rfl (r_move rfl (F423.ev rfl)) (fun ac424 F424 => ?_)
            clear F423 ac423
            refine so F424 (g_off F424 rfl rfl rfl rfl) rfl rfl (fun ac425 F425 => ?_)
            clear F424 ac424
            refine so F425 (g_off F425 rfl rfl rfl rfl) rfl rfl (fun ac426 F426 => ?_)
            clear F425 ac425
            refine sv (v := .bool false) F426 (run_guard rfl) rfl rfl (r_pick_f rfl (F426.ev rfl) ev_c) (fun ac427 F427 => ?_)
            clear F426 ac426
            refine sv (v := .bool false) F427 (run_guard rfl) rfl rfl (r_move rfl (F427.ev rfl)) (fun ac428 F428 => ?_)
            clear F427 ac427
            refine so F428 (g_off F428 rfl rfl rfl rfl) rfl rfl (fun ac429 F429 => ?_)
            clear F428 ac428
            refine so F429 (g_off F429 rfl rfl rfl rfl) rfl rfl (fun ac430 F430 => ?_)
            clear F429 ac429
            refine so F430 (g_off F430 rfl rfl rfl rfl) rfl rfl (fun ac431 F431 => ?_)
            clear F430 ac430
            refine so F431 (g_none F431 rfl rfl rfl rfl) rfl rfl (fun ac432 F432 => ?_)
            clear F431 ac431
            refine so F432 (g_off F432 rfl rfl rfl rfl) rfl rfl (fun ac433 F433 => ?_)
            clear F432 ac432
            refine sv (v := .bool false) F433 (run_guard rfl) rfl rfl (r_pick_f rfl (F433.ev rfl) ev_c) (fun ac434 F434 => ?_)
            clear F433 ac433
            refine sv (v := .bool false) F434 (run_guard rfl) rfl rfl (r_move rfl (F434.ev rfl)) (fun ac435 F435 => ?_)
            clear F434 ac434
            refine so F435 (g_off F435 rfl rfl rfl rfl) rfl rfl (fun ac436 F436 => ?_)
            clear F435 ac435
            refine so F436 (g_off F436 rfl rfl rfl rfl) rfl rfl (fun ac437 F437 => ?_)
            clear F436 ac436
            refine so F437 (g_off F437 rfl rfl rfl rfl) rfl rfl (fun ac438 F438 => ?_)
            clear F437 ac437
            refine so F438 (g_none F438 rfl rfl rfl rfl) rfl rfl (fun ac439 F439 => ?_)
            clear F438 ac438
            refine so F439 (g_off F439 rfl rfl rfl rfl) rfl rfl (fun ac440 F440 => ?_)
            clear F439 ac439
            refine sv (v := .bool false) F440 (run_guard rfl) rfl rfl (r_pick_f rfl (F440.ev rfl) ev_c) (fun ac441 F441 => ?_)
            clear F440 ac440
            refine sv (v := .bool false) F441 (run_guard rfl) rfl rfl (r_assign rfl (F441.ev rfl)) (fun ac442 F442 => ?_)
            clear F441 ac441
            refine c_end F442 ?_
            refine hK12 _ _ ?_
            refine wp_ret ?_
            (try simp only [Exit.then, Exit.inBlock])
            refine retx (fn := Tryd.f12) F442 (results1 (fn := Tryd.f12) rfl (rv_t (t := 4) (v := .bool false) F442 rfl)) ?_
            cases h
            exact ⟨rfl, HB.out⟩
      | false =>
        replace h := cond_f hT3 h
        refine so F72 (g_off F72 rfl rfl rfl (lk rfl hT3)) rfl rfl (fun ac443 F443 => ?_)
        clear F72 ac72
        refine so F443 (g_off F443 rfl rfl rfl (lk rfl hT3)) rfl rfl (fun ac444 F444 => ?_)
        clear F443 ac443
        refine so F444 (g_off F444 rfl rfl rfl (lk rfl hT3)) rfl rfl (fun ac445 F445 => ?_)
        clear F444 ac444
        refine so F445 (g_none F445 rfl rfl rfl rfl) rfl rfl (fun ac446 F446 => ?_)
        clear F445 ac445
        refine so F446 (g_none F446 rfl rfl rfl rfl) rfl rfl (fun ac447 F447 => ?_)
        clear F446 ac446
        refine so F447 (g_none F447 rfl rfl rfl rfl) rfl rfl (fun ac448 F448 => ?_)
        clear F447 ac447
        refine so F448 (g_none F448 rfl rfl rfl rfl) rfl rfl (fun ac449 F449 => ?_)
        clear F448 ac448
        refine so F449 (g_off F449 rfl rfl rfl (lk rfl hT3)) rfl rfl (fun ac450 F450 => ?_)
        clear F449 ac449
        refine sv (v := .bool false) F450 (run_guard rfl) rfl rfl (r_pick_f rfl (F450.ev (lk rfl hT3)) ev_c) (fun ac451 F451 => ?_)
        clear F450 ac450
        refine sv (v := .bool false) F451 (run_guard rfl) rfl rfl (r_move rfl (F451.ev rfl)) (fun ac452 F452 => ?_)
        clear F451 ac451
        refine so F452 (g_off F452 rfl rfl rfl rfl) rfl rfl (fun ac453 F453 => ?_)
        clear F452 ac452
        refine so F453 (g_off F453 rfl rfl rfl rfl) rfl rfl (fun ac454 F454 => ?_)
        clear F453 ac453
        refine so F454 (g_off F454 rfl rfl rfl rfl) rfl rfl (fun ac455 F455 => ?_)
        clear F454 ac454
        refine so F455 (g_none F455 rfl rfl rfl rfl) rfl rfl (fun ac456 F456 => ?_)
        clear F455 ac455
        refine so F456 (g_none F456 rfl rfl rfl rfl) rfl rfl (fun ac457 F457 => ?_)
        clear F456 ac456
        refine so F457 (g_none F457 rfl rfl rfl rfl) rfl rfl (fun ac458 F458 => ?_)
        clear F457 ac457
        refine so F458 (g_none F458 rfl rfl rfl rfl) rfl rfl (fun ac459 F459 => ?_)
        clear F458 ac458
        refine so F459 (g_off F459 rfl rfl rfl rfl) rfl rfl (fun ac460 F460 => ?_)
        clear F459 ac459
        refine sv (v := .bool false) F460 (run_guard rfl) rfl rfl (r_pick_f rfl (F460.ev rfl) ev_c) (fun ac461 F461 => ?_)
        clear F460 ac460
        refine sv (v := .bool false) F461 (run_guard rfl) rfl rfl (r_move rfl (F461.ev rfl)) (fun ac462 F462 => ?_)
        clear F461 ac461
        refine so F462 (g_off F462 rfl rfl rfl rfl) rfl rfl (fun ac463 F463 => ?_)
        clear F462 ac462
        refine so F463 (g_off F463 rfl rfl rfl rfl) rfl rfl (fun ac464 F464 => ?_)
        clear F463 ac463
        refine sv (v := .bool false) F464 (run_guard rfl) rfl rfl (r_pick_f rfl (F464.ev rfl) ev_c) (fun ac465 F465 => ?_)
        clear F464 ac464
        refine sv (v := .bool false) F465 (run_guard rfl) rfl rfl (r_move rfl (F465.ev rfl)) (fun ac466 F466 => ?_)
        clear F465 ac465
        refine so F466 (g_off F466 rfl rfl rfl rfl) rfl rfl (fun ac467 F467 => ?_)
        clear F466 ac466
        refine so F467 (g_off F467 rfl rfl rfl rfl) rfl rfl (fun ac468 F468 => ?_)
        clear F467 ac467
        refine so F468 (g_off F468 rfl rfl rfl rfl) rfl rfl (fun ac469 F469 => ?_)
        clear F468 ac468
        refine so F469 (g_none F469 rfl rfl rfl rfl) rfl rfl (fun ac470 F470 => ?_)
        clear F469 ac469
        refine so F470 (g_off F470 rfl rfl rfl rfl) rfl rfl (fun ac471 F471 => ?_)
        clear F470 ac470
        refine sv (v := .bool false) F471 (run_guard rfl) rfl rfl (r_pick_f rfl (F471.ev rfl) ev_c) (fun ac472 F472 => ?_)
        clear F471 ac471
        refine sv (v := .bool false) F472 (run_guard rfl) rfl rfl (r_move rfl (F472.ev rfl)) (fun ac473 F473 => ?_)
        clear F472 ac472
        refine so F473 (g_off F473 rfl rfl rfl rfl) rfl rfl (fun ac474 F474 => ?_)
        clear F473 ac473
        refine so F474 (g_off F474 rfl rfl rfl rfl) rfl rfl (fun ac475 F475 => ?_)
        clear F474 ac474
        refine so F475 (g_off F475 rfl rfl rfl rfl) rfl rfl (fun ac476 F476 => ?_)
        clear F475 ac475
        refine so F476 (g_none F476 rfl rfl rfl rfl) rfl rfl (fun ac477 F477 => ?_)
        clear F476 ac476
        refine so F477 (g_off F477 rfl rfl rfl rfl) rfl rfl (fun ac478 F478 => ?_)
        clear F477 ac477
        refine sv (v := .bool false) F478 (run_guard rfl) rfl rfl (r_pick_f rfl (F478.ev rfl) ev_c) (fun ac479 F479 => ?_)
        clear F478 ac478
        refine sv (v := .bool false) F479 (run_guard rfl) rfl rfl (r_assign rfl (F479.ev rfl)) (fun ac480 F480 => ?_)
        clear F479 ac479
        refine c_end F480 ?_
        refine hK12 _ _ ?_
        refine wp_ret ?_
        (try simp only [Exit.then, Exit.inBlock])
        refine retx (fn := Tryd.f12) F480 (results1 (fn := Tryd.f12) rfl (rv_t (t := 4) (v := .bool false) F480 rfl)) ?_
        cases h
        exact ⟨rfl, HB.out⟩
    | false =>
      replace h := cond_f hT2 h
      refine so F67 (g_off F67 rfl rfl rfl (lk rfl hT2)) rfl rfl (fun ac481 F481 => ?_)
      clear F67 ac67
      refine so F481 (g_off F481 rfl rfl rfl (lk rfl hT2)) rfl rfl (fun ac482 F482 => ?_)
      clear F481 ac481
      refine so F482 (g_off F482 rfl rfl rfl (lk rfl hT2)) rfl rfl (fun ac483 F483 => ?_)
      clear F482 ac482
      refine sv (v := .bool false) F483 (run_guard rfl) rfl rfl (r_pick_f rfl (F483.ev (lk rfl hT2)) ev_c) (fun ac484 F484 => ?_)
      clear F483 ac483
      refine sv (v := .bool false) F484 (run_guard rfl) rfl rfl (r_move rfl (F484.ev rfl)) (fun ac485 F485 => ?_)
      clear F484 ac484
      refine so F485 (g_off F485 rfl rfl rfl rfl) rfl rfl (fun ac486 F486 => ?_)
      clear F485 ac485
      refine so F486 (g_off F486 rfl rfl rfl rfl) rfl rfl (fun ac487 F487 => ?_)
      clear F486 ac486
      refine so F487 (g_off F487 rfl rfl rfl rfl) rfl rfl (fun ac488 F488 => ?_)
      clear F487 ac487
      refine so F488 (g_none F488 rfl rfl rfl rfl) rfl rfl (fun ac489 F489 => ?_)
      clear F488 ac488
      refine so F489 (g_none F489 rfl rfl rfl rfl) rfl rfl (fun ac490 F490 => ?_)
      clear F489 ac489
      refine so F490 (g_none F490 rfl rfl rfl rfl) rfl rfl (fun ac491 F491 => ?_)
      clear F490 ac490
      refine so F491 (g_none F491 rfl rfl rfl rfl) rfl rfl (fun ac492 F492 => ?_)
      clear F491 ac491
      refine so F492 (g_off F492 rfl rfl rfl rfl) rfl rfl (fun ac493 F493 => ?_)
      clear F492 ac492
      refine sv (v := .bool false) F493 (run_guard rfl) rfl rfl (r_pick_f rfl (F493.ev rfl) ev_c) (fun ac494 F494 => ?_)
      clear F493 ac493
      refine sv (v := .bool false) F494 (run_guard rfl) rfl rfl (r_move rfl (F494.ev rfl)) (fun ac495 F495 => ?_)
      clear F494 ac494
      refine so F495 (g_off F495 rfl rfl rfl rfl) rfl rfl (fun ac496 F496 => ?_)
      clear F495 ac495
      refine so F496 (g_off F496 rfl rfl rfl rfl) rfl rfl (fun ac497 F497 => ?_)
      clear F496 ac496
      refine so F497 (g_off F497 rfl rfl rfl rfl) rfl rfl (fun ac498 F498 => ?_)
      clear F497 ac497
      refine so F498 (g_none F498 rfl rfl rfl rfl) rfl rfl (fun ac499 F499 => ?_)
      clear F498 ac498
      refine so F499 (g_none F499 rfl rfl rfl rfl) rfl rfl (fun ac500 F500 => ?_)
      clear F499 ac499
      refine so F500 (g_none F500 rfl rfl rfl rfl) rfl rfl (fun ac501 F501 => ?_)
      clear F500 ac500
      refine so F501 (g_none F501 rfl rfl rfl rfl) rfl rfl (fun ac502 F502 => ?_)
      clear F501 ac501
      refine so F502 (g_off F502 rfl rfl rfl rfl) rfl rfl (fun ac503 F503 => ?_)
      clear F502 ac502
      refine sv (v := .bool false) F503 (run_guard rfl) rfl rfl (r_pick_f rfl (F503.ev rfl) ev_c) (fun ac504 F504 => ?_)
      clear F503 ac503
      refine sv (v := .bool false) F504 (run_guard rfl) rfl rfl (r_move rfl (F504.ev rfl)) (fun ac505 F505 => ?_)
      clear F504 ac504
      refine so F505 (g_off F505 rfl rfl rfl rfl) rfl rfl (fun ac506 F506 => ?_)
      clear F505 ac505
      refine so F506 (g_off F506 rfl rfl rfl rfl) rfl rfl (fun ac507 F507 => ?_)
      clear F506 ac506
      refine sv (v := .bool false) F507 (run_guard rfl) rfl rfl (r_pick_f rfl (F507.ev rfl) ev_c) (fun ac508 F508 => ?_)
      clear F507 ac507
      refine sv (v := .bool false) F508 (run_guard rfl) rfl rfl (r_move rfl (F508.ev rfl)) (fun ac509 F509 => ?_)
      clear F508 ac508
      refine so F509 (g_off F509 rfl rfl rfl rfl) rfl rfl (fun ac510 F510 => ?_)
      clear F509 ac509
      refine so F510 (g_off F510 rfl rfl rfl rfl) rfl rfl (fun ac511 F511 => ?_)
      clear F510 ac510
      refine so F511 (g_off F511 rfl rfl rfl rfl) rfl rfl (fun ac512 F512 => ?_)
      clear F511 ac511
      refine so F512 (g_none F512 rfl rfl rfl rfl) rfl rfl (fun ac513 F513 => ?_)
      clear F512 ac512
      refine so F513 (g_off F513 rfl rfl rfl rfl) rfl rfl (fun ac514 F514 => ?_)
      clear F513 ac513
      refine sv (v := .bool false) F514 (run_guard rfl) rfl rfl (r_pick_f rfl (F514.ev rfl) ev_c) (fun ac515 F515 => ?_)
      clear F514 ac514
      refine sv (v := .bool false) F515 (run_guard rfl) rfl rfl (r_move rfl (F515.ev rfl)) (fun ac516 F516 => ?_)
      clear F515 ac515
      refine so F516 (g_off F516 rfl rfl rfl rfl) rfl rfl (fun ac517 F517 => ?_)
      clear F516 ac516
      refine so F517 (g_off F517 rfl rfl rfl rfl) rfl rfl (fun ac518 F518 => ?_)
      clear F517 ac517
      refine so F518 (g_off F518 rfl rfl rfl rfl) rfl rfl (fun ac519 F519 => ?_)
      clear F518 ac518
      refine so F519 (g_none F519 rfl rfl rfl rfl) rfl rfl (fun ac520 F520 => ?_)
      clear F519 ac519
      refine so F520 (g_off F520 rfl rfl rfl rfl) rfl rfl (fun ac521 F521 => ?_)
      clear F520 ac520
      refine sv (v := .bool false) F521 (run_guard rfl) rfl rfl (r_pick_f rfl (F521.ev rfl) ev_c) (fun ac522 F522 => ?_)
      clear F521 ac521
      refine sv (v := .bool false) F522 (run_guard rfl) rfl rfl (r_assign rfl (F522.ev rfl)) (fun ac523 F523 => ?_)
      clear F522 ac522
      refine c_end F523 ?_
      refine hK12 _ _ ?_
      refine wp_ret ?_
      (try simp only [Exit.then, Exit.inBlock])
      refine retx (fn := Tryd.f12) F523 (results1 (fn := Tryd.f12) rfl (rv_t (t := 4) (v := .bool false) F523 rfl)) ?_
      cases h
      exact ⟨rfl, HB.out⟩
  | false =>
    replace h := cond_f hT1 h
    refine so F62 (g_off F62 rfl rfl rfl (lk rfl hT1)) rfl rfl (fun ac524 F524 => ?_)
    clear F62 ac62
    refine so F524 (g_off F524 rfl rfl rfl (lk rfl hT1)) rfl rfl (fun ac525 F525 => ?_)
    clear F524 ac524
    refine so F525 (g_off F525 rfl rfl rfl (lk rfl hT1)) rfl rfl (fun ac526 F526 => ?_)
    clear F525 ac525
    refine sv (v := .bool false) F526 (run_guard rfl) rfl rfl (r_pick_f rfl (F526.ev (lk rfl hT1)) ev_c) (fun ac527 F527 => ?_)
    clear F526 ac526
    refine sv (v := .bool false) F527 (run_guard rfl) rfl rfl (r_move rfl (F527.ev rfl)) (fun ac528 F528 => ?_)
    clear F527 ac527
    refine so F528 (g_off F528 rfl rfl rfl rfl) rfl rfl (fun ac529 F529 => ?_)
    clear F528 ac528
    refine so F529 (g_off F529 rfl rfl rfl rfl) rfl rfl (fun ac530 F530 => ?_)
    clear F529 ac529
    refine so F530 (g_off F530 rfl rfl rfl rfl) rfl rfl (fun ac531 F531 => ?_)
    clear F530 ac530
    refine sv (v := .bool false) F531 (run_guard rfl) rfl rfl (r_pick_f rfl (F531.ev rfl) ev_c) (fun ac532 F532 => ?_)
    clear F531 ac531
    refine sv (v := .bool false) F532 (run_guard rfl) rfl rfl (r_move rfl (F532.ev rfl)) (fun ac533 F533 => ?_)
    clear F532 ac532
    refine so F533 (g_off F533 rfl rfl rfl rfl) rfl rfl (fun ac534 F534 => ?_)
    clear F533 ac533
    refine so F534 (g_off F534 rfl rfl rfl rfl) rfl rfl (fun ac535 F535 => ?_)
    clear F534 ac534
    refine so F535 (g_off F535 rfl rfl rfl rfl) rfl rfl (fun ac536 F536 => ?_)
    clear F535 ac535
    refine so F536 (g_none F536 rfl rfl rfl rfl) rfl rfl (fun ac537 F537 => ?_)
    clear F536 ac536
    refine so F537 (g_none F537 rfl rfl rfl rfl) rfl rfl (fun ac538 F538 => ?_)
    clear F537 ac537
    refine so F538 (g_none F538 rfl rfl rfl rfl) rfl rfl (fun ac539 F539 => ?_)
    clear F538 ac538
    refine so F539 (g_none F539 rfl rfl rfl rfl) rfl rfl (fun ac540 F540 => ?_)
    clear F539 ac539
    refine so F540 (g_off F540 rfl rfl rfl rfl) rfl rfl (fun ac541 F541 => ?_)
    clear F540 ac540
    refine sv (v := .bool false) F541 (run_guard rfl) rfl rfl (r_pick_f rfl (F541.ev rfl) ev_c) (fun ac542 F542 => ?_)
    clear F541 ac541
    refine sv (v := .bool false) F542 (run_guard rfl) rfl rfl (r_move rfl (F542.ev rfl)) (fun ac543 F543 => ?_)
    clear F542 ac542
    refine so F543 (g_off F543 rfl rfl rfl rfl) rfl rfl (fun ac544 F544 => ?_)
    clear F543 ac543
    refine so F544 (g_off F544 rfl rfl rfl rfl) rfl rfl (fun ac545 F545 => ?_)
    clear F544 ac544
    refine so F545 (g_off F545 rfl rfl rfl rfl) rfl rfl (fun ac546 F546 => ?_)
    clear F545 ac545
    refine so F546 (g_none F546 rfl rfl rfl rfl) rfl rfl (fun ac547 F547 => ?_)
    clear F546 ac546
    refine so F547 (g_none F547 rfl rfl rfl rfl) rfl rfl (fun ac548 F548 => ?_)
    clear F547 ac547
    refine so F548 (g_none F548 rfl rfl rfl rfl) rfl rfl (fun ac549 F549 => ?_)
    clear F548 ac548
    refine so F549 (g_none F549 rfl rfl rfl rfl) rfl rfl (fun ac550 F550 => ?_)
    clear F549 ac549
    refine so F550 (g_off F550 rfl rfl rfl rfl) rfl rfl (fun ac551 F551 => ?_)
    clear F550 ac550
    refine sv (v := .bool false) F551 (run_guard rfl) rfl rfl (r_pick_f rfl (F551.ev rfl) ev_c) (fun ac552 F552 => ?_)
    clear F551 ac551
    refine sv (v := .bool false) F552 (run_guard rfl) rfl rfl (r_move rfl (F552.ev rfl)) (fun ac553 F553 => ?_)
    clear F552 ac552
    refine so F553 (g_off F553 rfl rfl rfl rfl) rfl rfl (fun ac554 F554 => ?_)
    clear F553 ac553
    refine so F554 (g_off F554 rfl rfl rfl rfl) rfl rfl (fun ac555 F555 => ?_)
    clear F554 ac554
    refine sv (v := .bool false) F555 (run_guard rfl) rfl rfl (r_pick_f rfl (F555.ev rfl) ev_c) (fun ac556 F556 => ?_)
    clear F555 ac555
    refine sv (v := .bool false) F556 (run_guard rfl) rfl rfl (r_move rfl (F556.ev rfl)) (fun ac557 F557 => ?_)
    clear F556 ac556
    refine so F557 (g_off F557 rfl rfl rfl rfl) rfl rfl (fun ac558 F558 => ?_)
    clear F557 ac557
    refine so F558 (g_off F558 rfl rfl rfl rfl) rfl rfl (fun ac559 F559 => ?_)
    clear F558 ac558
    refine so F559 (g_off F559 rfl rfl rfl rfl) rfl rfl (fun ac560 F560 => ?_)
    clear F559 ac559
    refine so F560 (g_none F560 rfl rfl rfl rfl) rfl rfl (fun ac561 F561 => ?_)
    clear F560 ac560
    refine so F561 (g_off F561 rfl rfl rfl rfl) rfl rfl (fun ac562 F562 => ?_)
    clear F561 ac561
    refine sv (v := .bool false) F562 (run_guard rfl) rfl rfl (r_pick_f rfl (F562.ev rfl) ev_c) (fun ac563 F563 => ?_)
    clear F562 ac562
    refine sv (v := .bool false) F563 (run_guard rfl) rfl rfl (r_move rfl (F563.ev rfl)) (fun ac564 F564 => ?_)
    clear F563 ac563
    refine so F564 (g_off F564 rfl rfl rfl rfl) rfl rfl (fun ac565 F565 => ?_)
    clear F564 ac564
    refine so F565 (g_off F565 rfl rfl rfl rfl) rfl rfl (fun ac566 F566 => ?_)
    clear F565 ac565
    refine so F566 (g_off F566 rfl rfl rfl rfl) rfl rfl (fun ac567 F567 => ?_)
    clear F566 ac566
    refine so F567 (g_none F567 rfl rfl rfl rfl) rfl rfl (fun ac568 F568 => ?_)
    clear F567 ac567
    refine so F568 (g_off F568 rfl rfl rfl rfl) rfl rfl (fun ac569 F569 => ?_)
    clear F568 ac568
    refine sv (v := .bool false) F569 (run_guard rfl) rfl rfl (r_pick_f rfl (F569.ev rfl) ev_c) (fun ac570 F570 => ?_)
    clear F569 ac569
    refine sv (v := .bool false) F570 (run_guard rfl) rfl rfl (r_assign rfl (F570.ev rfl)) (fun ac571 F571 => ?_)
    clear F570 ac570
    refine c_end F571 ?_
    refine hK12 _ _ ?_
    refine wp_ret ?_
    (try simp only [Exit.then, Exit.inBlock])
    refine retx (fn := Tryd.f12) F571 (results1 (fn := Tryd.f12) rfl (rv_t (t := 4) (v := .bool false) F571 rfl)) ?_
    cases h
    exact ⟨rfl, HB.out⟩
end Go.Proofs.YtndijkndllpkgaaDoor.Pr
