import Derived.Test.YtndijkndllpkgaaDoorWalkAA
import Derived.Test.YtndijkndllpkgaaDoorProg
import Derived.Below
import Derived.Deep.Draws
import Derived.Deep.AppendLies
import Derived.Maps.AppendAt
import Derived.OwnWalk
import Derived.Laws.BytesArg
import Derived.Laws.MakeOwn
import Derived.Laws.OwnMore
import Derived.Deep.OwnRows
import Derived.Tactics
import Derived.Lib.ConvBytes
import Derived.Laws.Slices
import Derived.WalkKit
import Derived.KernelRfl
import Derived.RowKit3
import Derived.Deep.LoopGhost
import Derived.Deep.QuietTactic
import Derived.BigQuiet
import Derived.WideLaws
import Derived.Deep.DeepCutAuto
import Derived.Deep.CutBlock
import Derived.Deep.RegionHeld3
import Derived.Laws.Rows
import Derived.Lib.AppendStr
import Derived.ArgAppend
import Derived.Laws.IdiomCopy
import Derived.OrdersHeld
import Derived.Laws.BitsLemmas
import Derived.RowKit
import Derived.Test.YtndijkndllpkgaaDoorWWords
import Derived.Test.YtndijkndllpkgaaDoorWLast
import Derived.Test.YtndijkndllpkgaaDoorWTab
import Derived.Test.YtndijkndllpkgaaDoorWEqStruct
import Derived.Test.YtndijkndllpkgaaDoorWInv
import Derived.Deep.DeepMust
import Derived.Lib.Hide
import Derived.Deep.Onto
import Derived.WalkSmall
import Derived.Maps.RangeRun
import Derived.Lib.ItoaNum
import Derived.Lib.OthersKept
import Derived.Laws.RangeAny
import Derived.Test.YtndijkndllpkgaaDoorShelf
import Derived.Test.YtndijkndllpkgaaDoorTab
/- direct.Right: the walk (printed by gen_right.py of this session). -/
namespace Go.Proofs.YtndijkndllpkgaaDoor.Pr
open Go.RowKit Go.Proofs.YtndijkndllpkgaaDoorW.PrintWords Go.Proofs.YtndijkndllpkgaaDoorW.PrintLast Go.Proofs.YtndijkndllpkgaaDoorW.PrintMore Go.Proofs.YtndijkndllpkgaaDoor.Frm
set_option linter.unusedVariables false
set_option linter.unusedSimpArgs false

def direct_Right.f (a0_0 : Int) (a0_1 : Int) (a0_2 : Int) (a0_3 : Int) (a0_4 : Int) (a0_5 : Int) (a0_6 : Int) (a0_7 : Int) (a0_8 : Int) (a0_9 : Int) (a0_10 : Int) (a0_11 : Int) (a0_12 : Int) : Option Bool :=
  if (a0_0, a0_1) ∈ pairs then (if copyO (offs a0_0 a0_1) [a0_0, a0_1, a0_2, a0_3, a0_4, a0_5, a0_6, a0_7, a0_8, a0_9, a0_10, a0_11, a0_12] [a0_0, a0_1, 0, 0, 0, 0, 0, 0, 0, 0, 0, 0, 0] = [a0_0, a0_1, a0_2, a0_3, a0_4, a0_5, a0_6, a0_7, a0_8, a0_9, a0_10, a0_11, a0_12] then direct_may.f a0_0 a0_1 a0_2 a0_3 a0_4 a0_5 a0_6 a0_7 a0_8 a0_9 a0_10 a0_11 a0_12 else some false) else some false
def right.T1 : Bool × List (List Nat × List Nat) := (true, [([], []), ([], []), ([1], [1]), ([], []), ([3], [3]), ([2, 4], [2, 4]), ([0, 5], [0, 5]), ([6], [6]), ([7], [7]), ([7], [7]), ([], []), ([10, 8, 0, 0, 1, 2, 3, 4, 5, 6, 7, 8, 10], [8, 10]), ([9, 11, 0, 1, 2, 3, 4, 5, 6, 7, 8, 9, 10, 11], [9])])
def right.B1 : List Nat := [0, 0, 2, 0, 8, 30, 63, 127, 255, 255, 0, 1535, 4095]
theorem right.tab1 : rtab .any (opsOf Tryd.f30 1) = right.T1 := by kernel_rfl
theorem right.bits1 : waitsOk right.T1.2 right.B1 = true := by kernel_rfl
set_option maxHeartbeats 4000000 in
set_option maxRecDepth 100000 in
theorem direct_Right.calls (a0_0 : Int) (a0_1 : Int) (a0_2 : Int) (a0_3 : Int) (a0_4 : Int) (a0_5 : Int) (a0_6 : Int) (a0_7 : Int) (a0_8 : Int) (a0_9 : Int) (a0_10 : Int) (a0_11 : Int) (a0_12 : Int) (r : Bool) (w : World) (h : direct_Right.f a0_0 a0_1 a0_2 a0_3 a0_4 a0_5 a0_6 a0_7 a0_8 a0_9 a0_10 a0_11 a0_12 = some r) :
    Calls Tryd.prog 30 #[.agg #[.int .i64 a0_0, .int .i64 a0_1, .int .i64 a0_2, .int .i64 a0_3, .int .i64 a0_4, .int .i64 a0_5, .int .i64 a0_6, .int .i64 a0_7, .int .i64 a0_8, .int .i64 a0_9, .int .i64 a0_10, .int .i64 a0_11, .int .i64 a0_12]] w fun e w' => e = .returned (.bool r) ∧ Below w.heap.size w w' := by
  unfold direct_Right.f at h
  have HH : Hid (direct_Right.f a0_0 a0_1 a0_2 a0_3 a0_4 a0_5 a0_6 a0_7 a0_8 a0_9 a0_10 a0_11 a0_12 = some r) := h
  by_cases hp : (a0_0, a0_1) ∈ pairs
  · rw [if_pos hp] at h
    have Hh := Lib.hid h
    clear h HH
    go_enter Tryd.func30, Tryd.ntmps30
    go_wp2_with fail
    refine start_ (n := 13) (S := fun w' => True) (ds := []) #[false, false, false, false, false, false, false, false, false, false, false, false, false] (by kernel_rfl) rfl rfl trivial (fun hHeld => ?_)
    refine with_tabW right.tab1 right.bits1 (fun HT_ HW_ => ?_)
    have HD : (w.alloc (Obj.cells #[.int .i64 a0_0, .int .i64 a0_1, .int .i64 a0_2, .int .i64 a0_3, .int .i64 a0_4, .int .i64 a0_5, .int .i64 a0_6, .int .i64 a0_7, .int .i64 a0_8, .int .i64 a0_9, .int .i64 a0_10, .int .i64 a0_11, .int .i64 a0_12] 38)).drew.heap[w.heap.size]? = some (.cells #[.int .i64 a0_0, .int .i64 a0_1, .int .i64 a0_2, .int .i64 a0_3, .int .i64 a0_4, .int .i64 a0_5, .int .i64 a0_6, .int .i64 a0_7, .int .i64 a0_8, .int .i64 a0_9, .int .i64 a0_10, .int .i64 a0_11, .int .i64 a0_12] 38 (0, 0)) := Array.getElem?_push_size
    have HB : Below w.heap.size w (w.alloc (Obj.cells #[.int .i64 a0_0, .int .i64 a0_1, .int .i64 a0_2, .int .i64 a0_3, .int .i64 a0_4, .int .i64 a0_5, .int .i64 a0_6, .int .i64 a0_7, .int .i64 a0_8, .int .i64 a0_9, .int .i64 a0_10, .int .i64 a0_11, .int .i64 a0_12] 38)).drew := ((Below.refl _ _).alloc (Nat.le_refl _) _).drew
    have HS : w.heap.size + 1 ≤ (w.alloc (Obj.cells #[.int .i64 a0_0, .int .i64 a0_1, .int .i64 a0_2, .int .i64 a0_3, .int .i64 a0_4, .int .i64 a0_5, .int .i64 a0_6, .int .i64 a0_7, .int .i64 a0_8, .int .i64 a0_9, .int .i64 a0_10, .int .i64 a0_11, .int .i64 a0_12] 38)).drew.heap.size := by simp
    generalize (w.alloc (Obj.cells #[.int .i64 a0_0, .int .i64 a0_1, .int .i64 a0_2, .int .i64 a0_3, .int .i64 a0_4, .int .i64 a0_5, .int .i64 a0_6, .int .i64 a0_7, .int .i64 a0_8, .int .i64 a0_9, .int .i64 a0_10, .int .i64 a0_11, .int .i64 a0_12] 38)).drew = W0 at HD HB HS ⊢
    clear hHeld
    refine pure_ (i := 1) (N := some 11) (v := ?_) (a' := ?_) #[false, true, false, false, false, false, false, false, false, false, false, false, false] rfl rfl (any_of HT_.out (by kernel_rfl)) (fun _ _ _ h => h) (Or.inl ⟨by rfl, ?_⟩) ?_ ?_
    rotate_left
    · intro w'
      go_simp
      with_reducible rfl
    rotate_left
    · simp only [Act.put, List.setIfInBounds_toArray, List.set_cons_zero, List.set_cons_succ, i64_w, i32_w]
      rfl
    refine pure_ (i := 3) (N := some 13) (v := ?_) (a' := ?_) #[false, true, false, true, false, false, false, false, false, false, false, false, false] rfl rfl (any_of HT_.out (by kernel_rfl)) (fun _ _ _ h => h) (Or.inl ⟨by rfl, ?_⟩) ?_ ?_
    rotate_left
    · intro w'
      go_simp
      with_reducible rfl
    rotate_left
    · simp only [Act.put, List.setIfInBounds_toArray, List.set_cons_zero, List.set_cons_succ, i64_w, i32_w]
      rfl
    refine inv_at [0, 2, 4, 5, 6, 7, 8, 9, 10, 11, 12] (fun a0_ b a w' => ∃ bm : Nat, ∃ B : Nat, ∃ bf : Nat, ∃ m6_ : Value, ∃ m7_ : Value, ∃ m8_ : Value, a = putSel a0_ b [(0, 10, .map (some bm)), (2, 12, .int .i64 a0_0), (4, 14, .int .i64 a0_1), (5, 15, keyV a0_0 a0_1), (6, 16, m6_), (7, 9, m7_), (8, 17, m8_), (9, 18, .bool true), (10, 3, .pointer (some ⟨bf, 0, none⟩)), (12, 4, .bool true)] ∧ (w'.heap[w.heap.size]? = some (.cells #[.int .i64 a0_0, .int .i64 a0_1, .int .i64 a0_2, .int .i64 a0_3, .int .i64 a0_4, .int .i64 a0_5, .int .i64 a0_6, .int .i64 a0_7, .int .i64 a0_8, .int .i64 a0_9, .int .i64 a0_10, .int .i64 a0_11, .int .i64 a0_12] 38 (0, 0))) ∧ (Below w.heap.size w w') ∧ (w.heap.size + 1 ≤ w'.heap.size) ∧ (b 0 = true → b 11 = false → FormsAt w' bm B ∧ w.heap.size + 1 ≤ B) ∧ (b 0 = true → w'.heap[B]? = some (.cells #[.func (.func 53) #[] #[]] 54 (0, 0)) ∧ w.heap.size + 1 ≤ B) ∧ (b 10 = true → b 11 = false → w'.heap[bf]? = some (.cells #[.string ⟨#[]⟩, .string ⟨#[]⟩, .nilFunc] 56 (0, 0)) ∧ w.heap.size + 1 ≤ bf) ∧ (b 11 = true → w'.heap[bf]? = some (.cells #[.string (opS a0_0), .string (kdS a0_1), fnV B a0_0 a0_1] 56 (0, 0)) ∧ w.heap.size + 1 ≤ bf) ∧ (b 6 = true → m6_ = .tuple #[valV B a0_0 a0_1, .bool true]) ∧ (b 7 = true → m7_ = .tuple #[valV B a0_0 a0_1, .bool true]) ∧ (b 8 = true → m8_ = valV B a0_0 a0_1)) HT_.out HW_.out (by kernel_rfl) (by kernel_rfl) ?_ ?_ ?_
    · exact ⟨0, 0, 0, .bool false, .bool false, .bool false, by simp only [putSel, Bool.false_eq_true, if_false], HD, HB, HS, (fun h => by cases h), (fun h => by cases h), (fun h => by cases h), (fun h => by cases h), (fun h => by cases h), (fun h => by cases h), (fun h => by cases h)⟩
    · skip
      refine steps_cons ?_ ?_
      · rintro b a w' ⟨bm, B, bf, m6_, m7_, m8_, ha, FD, FB, FS, FF, FX, FA, FC, X6_, X7_, X8_⟩ hb_ hon hoff
        refine ⟨_, rfl, fun K hK => ?_⟩
        have FD' := FD
        have FB' := FB
        have FS' := FS
        refine goes_ Tryd.func36 (by kernel_rfl) rfl #[] (by rfl) rfl rfl (by simp) ?_
        refine (forms_calls w').mono ?_
        rintro e w1 ⟨b1, B1, rfl, hb1, hB1, hF, hbel⟩
        refine ⟨_, rfl, ?_⟩
        refine hK.out _ _ ⟨b1, B1, bf, m6_, m7_, m8_, (by rw [ha]; exact putSel_upk 0 hb_ rfl rfl rfl), ?_, ?_, ?_, (fun h0 h1 => ?_), (fun h0 => ?_), (fun h0 h1 => ?_), (fun h0 => by rw [up_ne (by decide), hoff 11 (by kernel_rfl)] at h0; cases h0), (fun h0 => by rw [up_ne (by decide), hoff 6 (by kernel_rfl)] at h0; cases h0), (fun h0 => by rw [up_ne (by decide), hoff 7 (by kernel_rfl)] at h0; cases h0), (fun h0 => by rw [up_ne (by decide), hoff 8 (by kernel_rfl)] at h0; cases h0)⟩
        · exact (hbel.block _ (by omega)).trans FD
        · exact FB.trans (hbel.mono (by omega))
        · exact Nat.le_trans FS hbel.size
        · rw [up_ne (by decide)] at h1
          exact ⟨hF, by omega⟩
        · exact ⟨hF.box, by omega⟩
        · rw [up_ne (by decide)] at h0
          rw [up_ne (by decide)] at h1
          have FA' := FA h0 h1
          exact ⟨(hbel.block _ (blk_lt FA'.1)).trans FA'.1, FA'.2⟩
      refine steps_cons ?_ ?_
      · rintro b a w' ⟨bm, B, bf, m6_, m7_, m8_, ha, FD, FB, FS, FF, FX, FA, FC, X6_, X7_, X8_⟩ hb_ hon hoff
        refine ⟨_, rfl, fun K hK => ?_⟩
        have e11 : a.tmps[11]? = some (.pointer (some ⟨w.heap.size, 0, none⟩)) := by rw [ha]; exact (putSel_off rfl).trans rfl
        have FD' := FD
        have FB' := FB
        have FS' := FS
        have hc := blk_cell FD 0
        simp only [List.getElem?_toArray, List.getElem?_cons_zero] at hc
        refine value_ (w1 := w') (v := .int .i64 a0_0) (by rfl) rfl ?_ ?_
        · clear ha hK hon hoff
          go_simp
          (try simp only [i64_w])
          (try rfl)
        refine hK.out _ _ ⟨bm, B, bf, m6_, m7_, m8_, (by rw [ha]; exact putSel_upk 1 hb_ rfl rfl rfl), FD, FB, FS, (fun h0 h1 => FF (by rwa [up_ne (by decide)] at h0) (by rwa [up_ne (by decide)] at h1)), (fun h0 => FX (by rwa [up_ne (by decide)] at h0)), (fun h0 h1 => FA (by rwa [up_ne (by decide)] at h0) (by rwa [up_ne (by decide)] at h1)), (fun h0 => by rw [up_ne (by decide), hoff 11 (by kernel_rfl)] at h0; cases h0), (fun h0 => by rw [up_ne (by decide), hoff 6 (by kernel_rfl)] at h0; cases h0), (fun h0 => by rw [up_ne (by decide), hoff 7 (by kernel_rfl)] at h0; cases h0), (fun h0 => by rw [up_ne (by decide), hoff 8 (by kernel_rfl)] at h0; cases h0)⟩
      refine steps_cons ?_ ?_
      · rintro b a w' ⟨bm, B, bf, m6_, m7_, m8_, ha, FD, FB, FS, FF, FX, FA, FC, X6_, X7_, X8_⟩ hb_ hon hoff
        refine ⟨_, rfl, fun K hK => ?_⟩
        have e13 : a.tmps[13]? = some (.pointer (some ⟨w.heap.size, 1, none⟩)) := by rw [ha]; exact (putSel_off rfl).trans rfl
        have FD' := FD
        have FB' := FB
        have FS' := FS
        have hc := blk_cell FD 1
        simp only [List.getElem?_toArray, List.getElem?_cons_succ, List.getElem?_cons_zero] at hc
        refine value_ (w1 := w') (v := .int .i64 a0_1) (by rfl) rfl ?_ ?_
        · clear ha hK hon hoff
          go_simp
          (try simp only [i64_w])
          (try rfl)
        refine hK.out _ _ ⟨bm, B, bf, m6_, m7_, m8_, (by rw [ha]; exact putSel_upk 2 hb_ rfl rfl rfl), FD, FB, FS, (fun h0 h1 => FF (by rwa [up_ne (by decide)] at h0) (by rwa [up_ne (by decide)] at h1)), (fun h0 => FX (by rwa [up_ne (by decide)] at h0)), (fun h0 h1 => FA (by rwa [up_ne (by decide)] at h0) (by rwa [up_ne (by decide)] at h1)), (fun h0 => by rw [up_ne (by decide), hoff 11 (by kernel_rfl)] at h0; cases h0), (fun h0 => by rw [up_ne (by decide), hoff 6 (by kernel_rfl)] at h0; cases h0), (fun h0 => by rw [up_ne (by decide), hoff 7 (by kernel_rfl)] at h0; cases h0), (fun h0 => by rw [up_ne (by decide), hoff 8 (by kernel_rfl)] at h0; cases h0)⟩
      refine steps_cons ?_ ?_
      · rintro b a w' ⟨bm, B, bf, m6_, m7_, m8_, ha, FD, FB, FS, FF, FX, FA, FC, X6_, X7_, X8_⟩ hb_ hon hoff
        refine ⟨_, rfl, fun K hK => ?_⟩
        have e12 : a.tmps[12]? = some (.int .i64 a0_0) := by rw [ha]; exact putSel_on (e := (2, 12, .int .i64 a0_0)) 1 rfl rfl (hon 2 (by kernel_rfl)) rfl
        have e14 : a.tmps[14]? = some (.int .i64 a0_1) := by rw [ha]; exact putSel_on (e := (4, 14, .int .i64 a0_1)) 2 rfl rfl (hon 4 (by kernel_rfl)) rfl
        have FD' := FD
        have FB' := FB
        have FS' := FS
        refine value_ (w1 := w') (v := keyV a0_0 a0_1) (by rfl) rfl ?_ ?_
        · clear ha hK hon hoff
          go_simp
          (try simp only [i64_w])
          (try rfl)
        refine hK.out _ _ ⟨bm, B, bf, m6_, m7_, m8_, (by rw [ha]; exact putSel_upk 3 hb_ rfl rfl rfl), FD, FB, FS, (fun h0 h1 => FF (by rwa [up_ne (by decide)] at h0) (by rwa [up_ne (by decide)] at h1)), (fun h0 => FX (by rwa [up_ne (by decide)] at h0)), (fun h0 h1 => FA (by rwa [up_ne (by decide)] at h0) (by rwa [up_ne (by decide)] at h1)), (fun h0 => by rw [up_ne (by decide), hoff 11 (by kernel_rfl)] at h0; cases h0), (fun h0 => by rw [up_ne (by decide), hoff 6 (by kernel_rfl)] at h0; cases h0), (fun h0 => by rw [up_ne (by decide), hoff 7 (by kernel_rfl)] at h0; cases h0), (fun h0 => by rw [up_ne (by decide), hoff 8 (by kernel_rfl)] at h0; cases h0)⟩
      refine steps_cons ?_ ?_
      · rintro b a w' ⟨bm, B, bf, m6_, m7_, m8_, ha, FD, FB, FS, FF, FX, FA, FC, X6_, X7_, X8_⟩ hb_ hon hoff
        refine ⟨_, rfl, fun K hK => ?_⟩
        have e10 : a.tmps[10]? = some (.map (some bm)) := by rw [ha]; exact putSel_on (e := (0, 10, .map (some bm))) 0 rfl rfl (hon 0 (by kernel_rfl)) rfl
        have e15 : a.tmps[15]? = some (keyV a0_0 a0_1) := by rw [ha]; exact putSel_on (e := (5, 15, keyV a0_0 a0_1)) 3 rfl rfl (hon 5 (by kernel_rfl)) rfl
        have FD' := FD
        have FB' := FB
        have FS' := FS
        have FF' := FF (hon 0 (by kernel_rfl)) (hoff 11 (by kernel_rfl))
        have FX' := FX (hon 0 (by kernel_rfl))
        have hl := lookup_ok FF'.1 a0_0 a0_1
        rw [lookV, if_pos hp] at hl
        rw [decide_eq_true hp] at hl
        refine value_ (by rfl) rfl (lookup_run rfl e10 e15 hl) ?_
        refine hK.out _ _ ⟨bm, B, bf, .tuple #[valV B a0_0 a0_1, .bool true], m7_, m8_, (by rw [ha]; exact putSel_upk 4 hb_ rfl rfl rfl), FD, FB, FS, (fun h0 h1 => FF (by rwa [up_ne (by decide)] at h0) (by rwa [up_ne (by decide)] at h1)), (fun h0 => FX (by rwa [up_ne (by decide)] at h0)), (fun h0 h1 => FA (by rwa [up_ne (by decide)] at h0) (by rwa [up_ne (by decide)] at h1)), (fun h0 => by rw [up_ne (by decide), hoff 11 (by kernel_rfl)] at h0; cases h0), (fun _ => rfl), (fun h0 => by rw [up_ne (by decide), hoff 7 (by kernel_rfl)] at h0; cases h0), (fun h0 => by rw [up_ne (by decide), hoff 8 (by kernel_rfl)] at h0; cases h0)⟩
      refine steps_cons ?_ ?_
      · rintro b a w' ⟨bm, B, bf, m6_, m7_, m8_, ha, FD, FB, FS, FF, FX, FA, FC, X6_, X7_, X8_⟩ hb_ hon hoff
        refine ⟨_, rfl, fun K hK => ?_⟩
        have e16 : a.tmps[16]? = some (m6_) := by rw [ha]; exact putSel_on (e := (6, 16, m6_)) 4 rfl rfl (hon 6 (by kernel_rfl)) rfl
        rw [X6_ (hon 6 (by kernel_rfl))] at e16
        have FD' := FD
        have FB' := FB
        have FS' := FS
        have FF' := FF (hon 0 (by kernel_rfl)) (hoff 11 (by kernel_rfl))
        have FX' := FX (hon 0 (by kernel_rfl))
        refine value_ (w1 := w') (v := .tuple #[valV B a0_0 a0_1, .bool true]) (by rfl) rfl ?_ ?_
        · clear ha hK hon hoff
          go_simp
          (try simp only [i64_w])
          (try rfl)
        refine hK.out _ _ ⟨bm, B, bf, m6_, .tuple #[valV B a0_0 a0_1, .bool true], m8_, (by rw [ha]; exact putSel_upk 5 hb_ rfl rfl rfl), FD, FB, FS, (fun h0 h1 => FF (by rwa [up_ne (by decide)] at h0) (by rwa [up_ne (by decide)] at h1)), (fun h0 => FX (by rwa [up_ne (by decide)] at h0)), (fun h0 h1 => FA (by rwa [up_ne (by decide)] at h0) (by rwa [up_ne (by decide)] at h1)), (fun h0 => by rw [up_ne (by decide), hoff 11 (by kernel_rfl)] at h0; cases h0), (fun h0 => X6_ (by rwa [up_ne (by decide)] at h0)), (fun _ => rfl), (fun h0 => by rw [up_ne (by decide), hoff 8 (by kernel_rfl)] at h0; cases h0)⟩
      refine steps_cons ?_ ?_
      · rintro b a w' ⟨bm, B, bf, m6_, m7_, m8_, ha, FD, FB, FS, FF, FX, FA, FC, X6_, X7_, X8_⟩ hb_ hon hoff
        refine ⟨_, rfl, fun K hK => ?_⟩
        have e9 : a.tmps[9]? = some (m7_) := by rw [ha]; exact putSel_on (e := (7, 9, m7_)) 5 rfl rfl (hon 7 (by kernel_rfl)) rfl
        rw [X7_ (hon 7 (by kernel_rfl))] at e9
        have FD' := FD
        have FB' := FB
        have FS' := FS
        have FF' := FF (hon 0 (by kernel_rfl)) (hoff 11 (by kernel_rfl))
        have FX' := FX (hon 0 (by kernel_rfl))
        refine value_ (w1 := w') (v := valV B a0_0 a0_1) (by rfl) rfl ?_ ?_
        · clear ha hK hon hoff
          go_simp
          (try simp only [i64_w])
          (try rfl)
        refine hK.out _ _ ⟨bm, B, bf, m6_, m7_, valV B a0_0 a0_1, (by rw [ha]; exact putSel_upk 6 hb_ rfl rfl rfl), FD, FB, FS, (fun h0 h1 => FF (by rwa [up_ne (by decide)] at h0) (by rwa [up_ne (by decide)] at h1)), (fun h0 => FX (by rwa [up_ne (by decide)] at h0)), (fun h0 h1 => FA (by rwa [up_ne (by decide)] at h0) (by rwa [up_ne (by decide)] at h1)), (fun h0 => by rw [up_ne (by decide), hoff 11 (by kernel_rfl)] at h0; cases h0), (fun h0 => X6_ (by rwa [up_ne (by decide)] at h0)), (fun h0 => X7_ (by rwa [up_ne (by decide)] at h0)), (fun _ => rfl)⟩
      refine steps_cons ?_ ?_
      · rintro b a w' ⟨bm, B, bf, m6_, m7_, m8_, ha, FD, FB, FS, FF, FX, FA, FC, X6_, X7_, X8_⟩ hb_ hon hoff
        refine ⟨_, rfl, fun K hK => ?_⟩
        have e9 : a.tmps[9]? = some (m7_) := by rw [ha]; exact putSel_on (e := (7, 9, m7_)) 5 rfl rfl (hon 7 (by kernel_rfl)) rfl
        rw [X7_ (hon 7 (by kernel_rfl))] at e9
        have FD' := FD
        have FB' := FB
        have FS' := FS
        have FX' := FX (hon 0 (by kernel_rfl))
        refine value_ (w1 := w') (v := .bool true) (by rfl) rfl ?_ ?_
        · clear ha hK hon hoff
          go_simp
          (try simp only [i64_w])
          (try rfl)
        refine hK.out _ _ ⟨bm, B, bf, m6_, m7_, m8_, (by rw [ha]; exact putSel_upk 7 hb_ rfl rfl rfl), FD, FB, FS, (fun h0 h1 => FF (by rwa [up_ne (by decide)] at h0) (by rwa [up_ne (by decide)] at h1)), (fun h0 => FX (by rwa [up_ne (by decide)] at h0)), (fun h0 h1 => FA (by rwa [up_ne (by decide)] at h0) (by rwa [up_ne (by decide)] at h1)), (fun h0 => FC (by rwa [up_ne (by decide)] at h0)), (fun h0 => X6_ (by rwa [up_ne (by decide)] at h0)), (fun h0 => X7_ (by rwa [up_ne (by decide)] at h0)), (fun h0 => X8_ (by rwa [up_ne (by decide)] at h0))⟩
      refine steps_cons ?_ ?_
      · rintro b a w' ⟨bm, B, bf, m6_, m7_, m8_, ha, FD, FB, FS, FF, FX, FA, FC, X6_, X7_, X8_⟩ hb_ hon hoff
        refine ⟨_, rfl, fun K hK => ?_⟩
        have FD' := FD
        have FB' := FB
        have FS' := FS
        refine value_ (w1 := w'.alloc (.cells #[.string ⟨#[]⟩, .string ⟨#[]⟩, .nilFunc] 56)) (v := .pointer (some ⟨w'.heap.size, 0, none⟩)) (by rfl) rfl ?_ ?_
        · clear ha hK hon hoff
          go_simp
          (try rfl)
        refine hK.out _ _ ⟨bm, B, w'.heap.size, m6_, m7_, m8_, (by rw [ha]; exact putSel_upk 8 hb_ rfl rfl rfl), ?_, ?_, ?_, (fun h0 h1 => ?_), (fun h0 => ?_), (fun h0 h1 => ?_), (fun h0 => by rw [up_ne (by decide), hoff 11 (by kernel_rfl)] at h0; cases h0), (fun h0 => X6_ (by rwa [up_ne (by decide)] at h0)), (fun h0 => X7_ (by rwa [up_ne (by decide)] at h0)), (fun h0 => X8_ (by rwa [up_ne (by decide)] at h0))⟩
        · exact blk_alloc FD _
        · exact FB.alloc (by omega) _
        · simp; omega
        · rw [up_ne (by decide)] at h0
          rw [up_ne (by decide)] at h1
          have FF' := FF h0 h1
          exact ⟨FF'.1.of_heap (Below.heap_alloc _ _ _ FF'.1.lt.1) (Below.heap_alloc _ _ _ FF'.1.lt.2), FF'.2⟩
        · rw [up_ne (by decide)] at h0
          have FX' := FX h0
          exact ⟨blk_alloc FX'.1 _, FX'.2⟩
        · rw [up_ne (by decide)] at h1
          exact ⟨blk_new _ _, FS⟩
      refine steps_cons ?_ ?_
      · rintro b a w' ⟨bm, B, bf, m6_, m7_, m8_, ha, FD, FB, FS, FF, FX, FA, FC, X6_, X7_, X8_⟩ hb_ hon hoff
        refine ⟨_, rfl, fun K hK => ?_⟩
        have e3 : a.tmps[3]? = some (.pointer (some ⟨bf, 0, none⟩)) := by rw [ha]; exact putSel_on (e := (10, 3, .pointer (some ⟨bf, 0, none⟩))) 8 rfl rfl (hon 10 (by kernel_rfl)) rfl
        have e17 : a.tmps[17]? = some (m8_) := by rw [ha]; exact putSel_on (e := (8, 17, m8_)) 6 rfl rfl (hon 8 (by kernel_rfl)) rfl
        rw [X8_ (hon 8 (by kernel_rfl))] at e17
        have FD' := FD
        have FB' := FB
        have FS' := FS
        have FF' := FF (hon 0 (by kernel_rfl)) hb_
        have FX' := FX (hon 0 (by kernel_rfl))
        have FA' := FA (hon 10 (by kernel_rfl)) hb_
        obtain ⟨s1, s2⟩ := store_all (P := Tryd.prog) (ty := 56) (cells := #[.string (opS a0_0), .string (kdS a0_1), fnV B a0_0 a0_1]) FA'.1 rfl (by kernel_rfl) (valV_one _ _ _)
        refine skip_ (by rfl) rfl (store_run rfl e3 e17 s1) ?_
        refine hK.out _ _ ⟨bm, B, bf, m6_, m7_, m8_, (by rw [ha]; exact putSel_none (v := undef) rfl), ?_, ?_, ?_, (fun h0 h1 => by rw [up_self] at h1; cases h1), (fun h0 => ?_), (fun h0 h1 => by rw [up_self] at h1; cases h1), (fun h0 => ?_), (fun h0 => X6_ (by rwa [up_ne (by decide)] at h0)), (fun h0 => X7_ (by rwa [up_ne (by decide)] at h0)), (fun h0 => X8_ (by rwa [up_ne (by decide)] at h0))⟩
        · rw [heap_setCells_other (blk_ne FD FA'.1 (by decide))]; exact FD
        · exact FB.trans (below_setCells (by have := FA'.2; omega) _ _ _)
        · exact Nat.le_trans FS (below_setCells (Nat.le_refl _) _ _ _).size
        · rw [up_ne (by decide)] at h0
          have FX' := FX h0
          exact ⟨(heap_setCells_other (blk_ne FX'.1 FA'.1 (by decide)) _ _ _).trans FX'.1, FX'.2⟩
        · exact ⟨s2, FA'.2⟩
      refine steps_cons ?_ ?_
      · rintro b a w' ⟨bm, B, bf, m6_, m7_, m8_, ha, FD, FB, FS, FF, FX, FA, FC, X6_, X7_, X8_⟩ hb_ hon hoff
        refine ⟨_, rfl, fun K hK => ?_⟩
        have e18 : a.tmps[18]? = some (.bool true) := by rw [ha]; exact putSel_on (e := (9, 18, .bool true)) 7 rfl rfl (hon 9 (by kernel_rfl)) rfl
        have FD' := FD
        have FB' := FB
        have FS' := FS
        have FX' := FX (hon 0 (by kernel_rfl))
        have FC' := FC (hon 11 (by kernel_rfl))
        refine value_ (w1 := w') (v := .bool true) (by rfl) rfl ?_ ?_
        · clear ha hK hon hoff
          go_simp
          (try simp only [i64_w])
          (try rfl)
        refine hK.out _ _ ⟨bm, B, bf, m6_, m7_, m8_, (by rw [ha]; exact putSel_upk 9 hb_ rfl rfl rfl), FD, FB, FS, (fun h0 h1 => by rw [up_ne (by decide), hon 11 (by kernel_rfl)] at h1; cases h1), (fun h0 => FX (by rwa [up_ne (by decide)] at h0)), (fun h0 h1 => by rw [up_ne (by decide), hon 11 (by kernel_rfl)] at h1; cases h1), (fun h0 => FC (by rwa [up_ne (by decide)] at h0)), (fun h0 => X6_ (by rwa [up_ne (by decide)] at h0)), (fun h0 => X7_ (by rwa [up_ne (by decide)] at h0)), (fun h0 => X8_ (by rwa [up_ne (by decide)] at h0))⟩
      exact steps_nil
    · rintro b a w' hall ⟨bm, B, bf, m6_, m7_, m8_, ha, FD, FB, FS, FF, FX, FA, FC, X6_, X7_, X8_⟩
      have hb0 := hall 0 (by kernel_rfl)
      have hb2 := hall 2 (by kernel_rfl)
      have hb4 := hall 4 (by kernel_rfl)
      have hb5 := hall 5 (by kernel_rfl)
      have hb6 := hall 6 (by kernel_rfl)
      have hb7 := hall 7 (by kernel_rfl)
      have hb8 := hall 8 (by kernel_rfl)
      have hb9 := hall 9 (by kernel_rfl)
      have hb10 := hall 10 (by kernel_rfl)
      have hb11 := hall 11 (by kernel_rfl)
      have hb12 := hall 12 (by kernel_rfl)
      subst ha
      have hX6 := X6_ hb6; subst hX6
      have hX7 := X7_ hb7; subst hX7
      have hX8 := X8_ hb8; subst hX8
      simp only [putSel, hb0, hb2, hb4, hb5, hb6, hb7, hb8, hb9, hb10, hb11, hb12, if_true, Act.put, List.setIfInBounds_toArray, List.set_cons_zero, List.set_cons_succ]
      clear FF
      replace FX := FX hb0
      clear FA
      replace FC := FC hb11
      clear hall HT_ HW_ hb0 hb2 hb4 hb5 hb6 hb7 hb8 hb9 hb10 hb11 hb12
      obtain ⟨FX, FX2⟩ := FX
      obtain ⟨FC, FC2⟩ := FC
      obtain ⟨fn, hf1, hf2, hf3⟩ := num_fn a0_0 a0_1 hp
      have HfH := Lib.hid (And.intro hf1 (And.intro hf2 hf3))
      clear hf1 hf2 hf3
      have hD0 : w'.cell? ⟨w.heap.size, 0, none⟩ = some (.int .i64 a0_0) := blk_cell FD 0
      have hD1 : w'.cell? ⟨w.heap.size, 1, none⟩ = some (.int .i64 a0_1) := blk_cell FD 1
      have HX := Lib.hid (And.intro FD (And.intro FB (And.intro FX (And.intro FC (And.intro FX2 (And.intro FC2 FS))))))
      clear FD FB FX FC FX2 FC2 FS HD HB HS
      go_wp2_with (first
        | ((with_reducible show wpList _ _ _ (Oper.mk _ (Op.store 38 _ _) _ _ _ _ :: _) _ _); go_must (refine wpList_store_blk rfl 38 (.tmp 5) (.tmp 25) rfl w'.heap.size #[.int .i64 a0_0, .int .i64 a0_1, .int .i64 0, .int .i64 0, .int .i64 0, .int .i64 0, .int .i64 0, .int .i64 0, .int .i64 0, .int .i64 0, .int .i64 0, .int .i64 0, .int .i64 0] rfl rfl (blk_new _ _) (by simp) (by kernel_rfl) (by simp [Value.oneCell']) ?_); intro w2 q5 qo qb; obtain ⟨x1, x2, x3, x4, x5, x6, x7⟩ := HX.out; have q5 := Aside0.mk q5; have qB := Aside0.mk ((x2.alloc (by omega) _).trans (qb w.heap.size (by omega))); have n1 := blk_lt x1; have n3 := blk_lt x3; have n4 := blk_lt x4; have qD := Aside0.mk ((qo _ (by omega)).trans (blk_alloc x1 _)); have qX := Aside0.mk ((qo _ (by omega)).trans (blk_alloc x3 _)); have qC := (qo _ (by omega)).trans (blk_alloc x4 _); have hF2 : w2.cell? ⟨bf, 2, none⟩ = some (fnV B a0_0 a0_1) := blk_cell qC 2; replace qC := Aside0.mk qC; have qS := Aside0.mk (blk_lt q5.out); have qN : Hid (w.heap.size < w'.heap.size ∧ w.heap.size ≤ B ∧ w.heap.size ≤ bf) := Lib.hid (by omega); clear hD0 hD1 x1 x2 x3 x4 x5 x6 x7 n1 n3 n4 qo qb)
        | ((with_reducible show wpList _ _ _ (Oper.mk _ (Op.call { callee := Callee.value (Operand.tmp 27), args := _, argTypes := _ }) _ _ _ _ :: _) _ _); go_must (refine dynL_ (some 28) rfl rfl rfl rfl rfl HfH.out.1 HfH.out.2.1 HfH.out.2.2 ?_); go_must (refine (num_calls a0_0 a0_1 hp w.heap.size B w2 qX.out).mono ?_); rintro e w3 ⟨v1, rfl, own1, hb3⟩; refine ⟨v1, rfl, ?_⟩; go_must (have own1 := Aside0.mk own1); go_must (have qC3 := blk_below qC.out hb3); have hF3 : w3.cell? ⟨bf, 2, none⟩ = some (fnV B a0_0 a0_1) := blk_cell qC3 2; replace hb3 := Aside0.mk hb3; clear hF2 qC3)
        | ((with_reducible show wpList _ _ _ (Oper.mk _ (Op.call { callee := Callee.value (Operand.tmp 30), args := _, argTypes := _ }) _ _ _ _ :: _) _ _); go_must (refine dynL_ (some 31) rfl rfl rfl rfl rfl HfH.out.1 HfH.out.2.1 HfH.out.2.2 ?_); go_must (refine (num_calls a0_0 a0_1 hp w'.heap.size B w3 (blk_below qX.out hb3.out)).mono ?_); rintro e w4 ⟨v2, rfl, own2, hb4⟩; go_must (obtain ⟨g2, c2, hv2⟩ := ownsRow_formE own2 (offs_pos _ _)); go_must (subst hv2); refine ⟨_, rfl, ?_⟩; go_must (have own2 := Aside0.mk own2); replace hb4 := Aside0.mk hb4; clear hF3))
      have pB : Below w.heap.size w w4 := (qB.out.trans (hb3.out.mono qB.out.size)).trans (hb4.out.mono (Nat.le_trans qB.out.size hb3.out.size))
      have pD : w4.heap[w.heap.size]? = _ := blk_below (blk_below qD.out hb3.out) hb4.out
      have p5 : w4.heap[w'.heap.size]? = _ := blk_below (blk_below q5.out hb3.out) hb4.out
      have o1 : w4.ownsRow w.heap.size 63 1 v1 _ _ := (own_below own1.out hb4.out).mono qB.out.size
      have o2 := own2.out.mono (Nat.le_trans qB.out.size hb3.out.size)
      have hn5 := qN.out.1
      obtain ⟨g1, c1, hv1⟩ := ownsRow_formE o1 (offs_pos _ _)
      subst hv1
      have hL := offs_lt a0_0 a0_1
      have hL6 := offs_le a0_0 a0_1
      clear qB qD q5 qX qC qS qN own1 own2 hb3 hb4 HX HfH X6_ X7_ X8_
      generalize hl : offs a0_0 a0_1 = l at *
      obtain ⟨n, hn⟩ : ∃ n, l.length = n := ⟨_, rfl⟩
      rw [hn] at o1 o2 hL6 ⊢
      generalize w'.heap.size = b5 at *
      have p5 : w4.heap[b5]? = some (.cells (ints (copyO (l.take 0) [a0_0, a0_1, a0_2, a0_3, a0_4, a0_5, a0_6, a0_7, a0_8, a0_9, a0_10, a0_11, a0_12] [a0_0, a0_1, 0, 0, 0, 0, 0, 0, 0, 0, 0, 0, 0])).toArray 38 (0, 0)) := p5
      have pD : w4.heap[w.heap.size]? = some (.cells (ints [a0_0, a0_1, a0_2, a0_3, a0_4, a0_5, a0_6, a0_7, a0_8, a0_9, a0_10, a0_11, a0_12]).toArray 38 (0, 0)) := pD
      generalize hds : [a0_0, a0_1, a0_2, a0_3, a0_4, a0_5, a0_6, a0_7, a0_8, a0_9, a0_10, a0_11, a0_12] = ds at *
      have hdl : ds.length = 13 := by rw [← hds]; rfl
      have HDS := Lib.hid hds
      generalize hzs : [a0_0, a0_1, 0, 0, 0, 0, 0, 0, 0, 0, 0, 0, 0] = zs at *
      have hzl : zs.length = 13 := by rw [← hzs]; rfl
      have HZ := Lib.hid (And.intro hl hzs)
      clear hds hzs hl
      go_loopg [7, 8, 33] n (fun gf v7 v8 v33 wx => ∃ i : Nat, v33 = .int .i64 i ∧ n = i + gf ∧ wx.heap[w.heap.size]? = some (.cells (ints ds).toArray 38 (0, 0)) ∧ wx.heap[b5]? = some (.cells (ints (copyO (l.take i) ds zs)).toArray 38 (0, 0)) ∧
        wx.ownsRow w.heap.size 63 1 (.slice (some ⟨g1, 0, none⟩) n c1) n (ptrs w.heap.size l) ∧ wx.ownsRow w.heap.size 63 1 (.slice (some ⟨g2, 0, none⟩) n c2) n (ptrs b5 l) ∧ Below w.heap.size w wx)
      case atStart => exact ⟨0, rfl, by omega, pD, p5, o1, o2, pB⟩
      case round =>
        obtain ⟨i, rfl, hng, rD, r5, s1, s2, rB⟩ := hrel
        by_cases hlt : i < n
        · obtain ⟨o, ho⟩ : ∃ o, l[i]? = some o := ⟨l[i]'(by omega), List.getElem?_eq_getElem _⟩
          have ho13 := hL o (List.mem_of_getElem? ho)
          have hc1 : wr.cell? ⟨g1, i, none⟩ = some (.pointer (some ⟨w.heap.size, o, none⟩)) := (s1.cellAt i (by omega)).trans (ptrs_get ho)
          have hc2 : wr.cell? ⟨g2, i, none⟩ = some (.pointer (some ⟨b5, o, none⟩)) := (s2.cellAt i (by omega)).trans (ptrs_get ho)
          have hc3 : wr.cell? ⟨w.heap.size, o, none⟩ = some (.int .i64 (ds.getD o 0)) := (blk_cell rD o).trans (ints_get (by omega))
          have hc4 : wr.cell? ⟨b5, o, none⟩ = some (.int .i64 ((copyO (l.take i) ds zs).getD o 0)) := (blk_cell r5 o).trans (ints_get (by rw [copyO_length]; omega))
          have hfz := blk_frozen r5 o
          have hRR := Lib.hid (And.intro rD (And.intro r5 (And.intro s1 (And.intro s2 (And.intro rB ho)))))
          have hi0 : (0 : Int) ≤ (i : Int) := by omega
          have hi1 : (i : Int) < (n : Int) := by omega
          clear rD r5 s1 s2 rB ho
          obtain ⟨g', rfl⟩ : ∃ g', gk = g' + 1 := ⟨gk - 1, by omega⟩
          go_wp2
          go_roundg g'
          case measure => omega
          case rel =>
            obtain ⟨rD, r5, s1, s2, rB, ho⟩ := hRR.out
            refine ⟨i + 1, rfl, by omega, blk_far rD (by show w.heap.size ≠ b5; omega) _, blk_put r5 o _ ?_, own_set s1 r5 (by decide) o _, own_set s2 r5 (by decide) o _, rB.setCell (p := ⟨b5, o, none⟩) (by show w.heap.size ≤ b5; omega) _⟩
            have e : ds.getD o 0 = ds[o]'(by omega) := by simp [List.getD_eq_getElem?_getD, hdl, ho13]
            rw [ints_set, List.take_add_one, ho, Option.toList_some, copyO_snoc, e]
        · have hin : i = n := by omega
          subst hin
          clear hng
          rw [List.take_of_length_le (by omega)] at r5
          have hG : Tryd.prog.eqGuardType Tryd.prog.depth 38 = false := by kernel_rfl
          have hRD := Aside0.mk (range_part rD 0 (ints ds) (by simp)); have hID : Aside0 ((Tryd.prog.info? 38).map (·.size) = some (ints ds).length) := Aside0.mk (by rw [show (ints ds).length = 13 by simp [ints, hdl]]; kernel_rfl)
          by_cases hc : copyO l ds zs = ds
          · have H2 : Hid (direct_may.f a0_0 a0_1 a0_2 a0_3 a0_4 a0_5 a0_6 a0_7 a0_8 a0_9 a0_10 a0_11 a0_12 = some r) := Lib.hid (by have := Hh.out; rwa [if_pos hc] at this)
            rw [hc] at r5
            have hR5 := Aside0.mk (range_part r5 0 (ints ds) (by simp)); have hI5 : Aside0 ((Tryd.prog.info? 38).map (·.size) = some (ints ds).length) := Aside0.mk (by rw [show (ints ds).length = 13 by simp [ints, hdl]]; kernel_rfl)
            have hEq : ∀ W, (Op.equalIn 10000 38 (.agg (ints ds).toArray) (.agg (ints ds).toArray)).run Tryd.prog W = .ok true W := fun W => (E.eqD W ds ds hdl hdl).trans (by rw [decide_eq_true rfl])
            have HRB := Lib.hid rB
            clear rD r5 s1 s2 rB Hh hL hL6 hzl hdl HZ hc
            obtain rfl := HDS.out
            go_wp2_with (first
              | ((with_reducible show wpList _ _ _ (Oper.mk _ (Op.load 38 (.tmp 5)) _ _ _ none :: _) _ _); go_must (refine wpList_load_mid rfl 38 (.tmp 5) rfl b5 0 rfl (ints [a0_0, a0_1, a0_2, a0_3, a0_4, a0_5, a0_6, a0_7, a0_8, a0_9, a0_10, a0_11, a0_12]) _ hR5.out Tryd.underlying38 rfl hI5.out ?_))
              | ((with_reducible show wpList _ _ _ (Oper.mk _ (Op.load 38 (.tmp 1)) _ _ _ none :: _) _ _); go_must (refine wpList_load_mid rfl 38 (.tmp 1) rfl w.heap.size 0 rfl (ints [a0_0, a0_1, a0_2, a0_3, a0_4, a0_5, a0_6, a0_7, a0_8, a0_9, a0_10, a0_11, a0_12]) _ hRD.out Tryd.underlying38 rfl hID.out ?_))
              | ((with_reducible show wpList _ _ _ (Oper.mk _ (Op.load 38 (.tmp 1)) _ _ _ (some _) :: _) _ _); go_must (refine BigFrame.wpList_want (by rfl) (fun K hK => wp_load_mid 38 (.tmp 1) rfl w.heap.size 0 rfl (ints [a0_0, a0_1, a0_2, a0_3, a0_4, a0_5, a0_6, a0_7, a0_8, a0_9, a0_10, a0_11, a0_12]) _ hRD.out Tryd.underlying38 rfl hID.out (hK _ _ ?_))))
              | (go_at_call 41; go_must (refine (direct_may.calls _ _ _ _ _ _ _ _ _ _ _ _ _ _ _ H2.out).mono ?_); rintro e w9 ⟨rfl, hb⟩))
            go_ret
            exact ⟨rfl, HRB.out.trans (hb.mono HRB.out.size)⟩
          · have H2 : Hid (false = r) := Lib.hid (by have := Hh.out; rw [if_neg hc] at this; exact Option.some.inj this)
            have hR5 := Aside0.mk (range_part r5 0 (ints (copyO l ds zs)) (by simp)); have hI5 : Aside0 ((Tryd.prog.info? 38).map (·.size) = some (ints (copyO l ds zs)).length) := Aside0.mk (by rw [show (ints (copyO l ds zs)).length = 13 by simp [ints, copyO_length, hzl]]; kernel_rfl)
            have hEq : ∀ W, (Op.equalIn 10000 38 (.agg (ints (copyO l ds zs)).toArray) (.agg (ints ds).toArray)).run Tryd.prog W = .ok false W := fun W => (E.eqD W _ ds (by rw [copyO_length]; exact hzl) hdl).trans (by rw [decide_eq_false hc])
            have HRB := Lib.hid rB
            clear rD r5 s1 s2 rB Hh hL hL6 hzl hdl HZ hc
            go_wp2_with (first
              | ((with_reducible show wpList _ _ _ (Oper.mk _ (Op.load 38 (.tmp 5)) _ _ _ none :: _) _ _); go_must (refine wpList_load_mid rfl 38 (.tmp 5) rfl b5 0 rfl (ints (copyO l ds zs)) _ hR5.out Tryd.underlying38 rfl hI5.out ?_))
              | ((with_reducible show wpList _ _ _ (Oper.mk _ (Op.load 38 (.tmp 1)) _ _ _ none :: _) _ _); go_must (refine wpList_load_mid rfl 38 (.tmp 1) rfl w.heap.size 0 rfl (ints ds) _ hRD.out Tryd.underlying38 rfl hID.out ?_)))
            go_ret
            exact ⟨by rw [← H2.out]; rfl, HRB.out⟩
  · rw [if_neg hp] at h
    obtain rfl := Option.some.inj h
    clear h HH
    go_enter Tryd.func30, Tryd.ntmps30
    go_wp2_with fail
    refine start_ (n := 13) (S := fun w' => True) (ds := []) #[false, false, false, false, false, false, false, false, false, false, false, false, false] (by kernel_rfl) rfl rfl trivial (fun hHeld => ?_)
    refine with_tabW right.tab1 right.bits1 (fun HT_ HW_ => ?_)
    have HD : (w.alloc (Obj.cells #[.int .i64 a0_0, .int .i64 a0_1, .int .i64 a0_2, .int .i64 a0_3, .int .i64 a0_4, .int .i64 a0_5, .int .i64 a0_6, .int .i64 a0_7, .int .i64 a0_8, .int .i64 a0_9, .int .i64 a0_10, .int .i64 a0_11, .int .i64 a0_12] 38)).drew.heap[w.heap.size]? = some (.cells #[.int .i64 a0_0, .int .i64 a0_1, .int .i64 a0_2, .int .i64 a0_3, .int .i64 a0_4, .int .i64 a0_5, .int .i64 a0_6, .int .i64 a0_7, .int .i64 a0_8, .int .i64 a0_9, .int .i64 a0_10, .int .i64 a0_11, .int .i64 a0_12] 38 (0, 0)) := Array.getElem?_push_size
    have HB : Below w.heap.size w (w.alloc (Obj.cells #[.int .i64 a0_0, .int .i64 a0_1, .int .i64 a0_2, .int .i64 a0_3, .int .i64 a0_4, .int .i64 a0_5, .int .i64 a0_6, .int .i64 a0_7, .int .i64 a0_8, .int .i64 a0_9, .int .i64 a0_10, .int .i64 a0_11, .int .i64 a0_12] 38)).drew := ((Below.refl _ _).alloc (Nat.le_refl _) _).drew
    have HS : w.heap.size + 1 ≤ (w.alloc (Obj.cells #[.int .i64 a0_0, .int .i64 a0_1, .int .i64 a0_2, .int .i64 a0_3, .int .i64 a0_4, .int .i64 a0_5, .int .i64 a0_6, .int .i64 a0_7, .int .i64 a0_8, .int .i64 a0_9, .int .i64 a0_10, .int .i64 a0_11, .int .i64 a0_12] 38)).drew.heap.size := by simp
    generalize (w.alloc (Obj.cells #[.int .i64 a0_0, .int .i64 a0_1, .int .i64 a0_2, .int .i64 a0_3, .int .i64 a0_4, .int .i64 a0_5, .int .i64 a0_6, .int .i64 a0_7, .int .i64 a0_8, .int .i64 a0_9, .int .i64 a0_10, .int .i64 a0_11, .int .i64 a0_12] 38)).drew = W0 at HD HB HS ⊢
    clear hHeld
    refine pure_ (i := 1) (N := some 11) (v := ?_) (a' := ?_) #[false, true, false, false, false, false, false, false, false, false, false, false, false] rfl rfl (any_of HT_.out (by kernel_rfl)) (fun _ _ _ h => h) (Or.inl ⟨by rfl, ?_⟩) ?_ ?_
    rotate_left
    · intro w'
      go_simp
      with_reducible rfl
    rotate_left
    · simp only [Act.put, List.setIfInBounds_toArray, List.set_cons_zero, List.set_cons_succ, i64_w, i32_w]
      rfl
    refine pure_ (i := 3) (N := some 13) (v := ?_) (a' := ?_) #[false, true, false, true, false, false, false, false, false, false, false, false, false] rfl rfl (any_of HT_.out (by kernel_rfl)) (fun _ _ _ h => h) (Or.inl ⟨by rfl, ?_⟩) ?_ ?_
    rotate_left
    · intro w'
      go_simp
      with_reducible rfl
    rotate_left
    · simp only [Act.put, List.setIfInBounds_toArray, List.set_cons_zero, List.set_cons_succ, i64_w, i32_w]
      rfl
    refine inv_at [0, 2, 4, 5, 6, 7, 8, 9, 10, 11, 12] (fun a0_ b a w' => ∃ bm : Nat, ∃ B : Nat, ∃ bf : Nat, a = putSel a0_ b [(0, 10, .map (some bm)), (2, 12, .int .i64 a0_0), (4, 14, .int .i64 a0_1), (5, 15, keyV a0_0 a0_1), (6, 16, .tuple #[.agg #[.string ⟨#[]⟩, .string ⟨#[]⟩, .nilFunc], .bool false]), (7, 9, .tuple #[.agg #[.string ⟨#[]⟩, .string ⟨#[]⟩, .nilFunc], .bool false]), (8, 17, .agg #[.string ⟨#[]⟩, .string ⟨#[]⟩, .nilFunc]), (9, 18, .bool false), (10, 3, .pointer (some ⟨bf, 0, none⟩)), (12, 4, .bool false)] ∧ (w'.heap[w.heap.size]? = some (.cells #[.int .i64 a0_0, .int .i64 a0_1, .int .i64 a0_2, .int .i64 a0_3, .int .i64 a0_4, .int .i64 a0_5, .int .i64 a0_6, .int .i64 a0_7, .int .i64 a0_8, .int .i64 a0_9, .int .i64 a0_10, .int .i64 a0_11, .int .i64 a0_12] 38 (0, 0))) ∧ (Below w.heap.size w w') ∧ (w.heap.size + 1 ≤ w'.heap.size) ∧ (b 0 = true → b 11 = false → FormsAt w' bm B ∧ w.heap.size + 1 ≤ B) ∧ (b 0 = true → w'.heap[B]? = some (.cells #[.func (.func 53) #[] #[]] 54 (0, 0)) ∧ w.heap.size + 1 ≤ B) ∧ (b 10 = true → b 11 = false → w'.heap[bf]? = some (.cells #[.string ⟨#[]⟩, .string ⟨#[]⟩, .nilFunc] 56 (0, 0)) ∧ w.heap.size + 1 ≤ bf) ∧ (b 11 = true → w'.heap[bf]? = some (.cells #[.string ⟨#[]⟩, .string ⟨#[]⟩, .nilFunc] 56 (0, 0)) ∧ w.heap.size + 1 ≤ bf)) HT_.out HW_.out (by kernel_rfl) (by kernel_rfl) ?_ ?_ ?_
    · exact ⟨0, 0, 0, by simp only [putSel, Bool.false_eq_true, if_false], HD, HB, HS, (fun h => by cases h), (fun h => by cases h), (fun h => by cases h), (fun h => by cases h)⟩
    · skip
      refine steps_cons ?_ ?_
      · rintro b a w' ⟨bm, B, bf, ha, FD, FB, FS, FF, FX, FA, FC⟩ hb_ hon hoff
        refine ⟨_, rfl, fun K hK => ?_⟩
        have FD' := FD
        have FB' := FB
        have FS' := FS
        refine goes_ Tryd.func36 (by kernel_rfl) rfl #[] (by rfl) rfl rfl (by simp) ?_
        refine (forms_calls w').mono ?_
        rintro e w1 ⟨b1, B1, rfl, hb1, hB1, hF, hbel⟩
        refine ⟨_, rfl, ?_⟩
        refine hK.out _ _ ⟨b1, B1, bf, (by rw [ha]; exact putSel_upk 0 hb_ rfl rfl rfl), ?_, ?_, ?_, (fun h0 h1 => ?_), (fun h0 => ?_), (fun h0 h1 => ?_), (fun h0 => by rw [up_ne (by decide), hoff 11 (by kernel_rfl)] at h0; cases h0)⟩
        · exact (hbel.block _ (by omega)).trans FD
        · exact FB.trans (hbel.mono (by omega))
        · exact Nat.le_trans FS hbel.size
        · rw [up_ne (by decide)] at h1
          exact ⟨hF, by omega⟩
        · exact ⟨hF.box, by omega⟩
        · rw [up_ne (by decide)] at h0
          rw [up_ne (by decide)] at h1
          have FA' := FA h0 h1
          exact ⟨(hbel.block _ (blk_lt FA'.1)).trans FA'.1, FA'.2⟩
      refine steps_cons ?_ ?_
      · rintro b a w' ⟨bm, B, bf, ha, FD, FB, FS, FF, FX, FA, FC⟩ hb_ hon hoff
        refine ⟨_, rfl, fun K hK => ?_⟩
        have e11 : a.tmps[11]? = some (.pointer (some ⟨w.heap.size, 0, none⟩)) := by rw [ha]; exact (putSel_off rfl).trans rfl
        have FD' := FD
        have FB' := FB
        have FS' := FS
        have hc := blk_cell FD 0
        simp only [List.getElem?_toArray, List.getElem?_cons_zero] at hc
        refine value_ (w1 := w') (v := .int .i64 a0_0) (by rfl) rfl ?_ ?_
        · clear ha hK hon hoff
          go_simp
          (try simp only [i64_w])
          (try rfl)
        refine hK.out _ _ ⟨bm, B, bf, (by rw [ha]; exact putSel_upk 1 hb_ rfl rfl rfl), FD, FB, FS, (fun h0 h1 => FF (by rwa [up_ne (by decide)] at h0) (by rwa [up_ne (by decide)] at h1)), (fun h0 => FX (by rwa [up_ne (by decide)] at h0)), (fun h0 h1 => FA (by rwa [up_ne (by decide)] at h0) (by rwa [up_ne (by decide)] at h1)), (fun h0 => by rw [up_ne (by decide), hoff 11 (by kernel_rfl)] at h0; cases h0)⟩
      refine steps_cons ?_ ?_
      · rintro b a w' ⟨bm, B, bf, ha, FD, FB, FS, FF, FX, FA, FC⟩ hb_ hon hoff
        refine ⟨_, rfl, fun K hK => ?_⟩
        have e13 : a.tmps[13]? = some (.pointer (some ⟨w.heap.size, 1, none⟩)) := by rw [ha]; exact (putSel_off rfl).trans rfl
        have FD' := FD
        have FB' := FB
        have FS' := FS
        have hc := blk_cell FD 1
        simp only [List.getElem?_toArray, List.getElem?_cons_succ, List.getElem?_cons_zero] at hc
        refine value_ (w1 := w') (v := .int .i64 a0_1) (by rfl) rfl ?_ ?_
        · clear ha hK hon hoff
          go_simp
          (try simp only [i64_w])
          (try rfl)
        refine hK.out _ _ ⟨bm, B, bf, (by rw [ha]; exact putSel_upk 2 hb_ rfl rfl rfl), FD, FB, FS, (fun h0 h1 => FF (by rwa [up_ne (by decide)] at h0) (by rwa [up_ne (by decide)] at h1)), (fun h0 => FX (by rwa [up_ne (by decide)] at h0)), (fun h0 h1 => FA (by rwa [up_ne (by decide)] at h0) (by rwa [up_ne (by decide)] at h1)), (fun h0 => by rw [up_ne (by decide), hoff 11 (by kernel_rfl)] at h0; cases h0)⟩
      refine steps_cons ?_ ?_
      · rintro b a w' ⟨bm, B, bf, ha, FD, FB, FS, FF, FX, FA, FC⟩ hb_ hon hoff
        refine ⟨_, rfl, fun K hK => ?_⟩
        have e12 : a.tmps[12]? = some (.int .i64 a0_0) := by rw [ha]; exact putSel_on (e := (2, 12, .int .i64 a0_0)) 1 rfl rfl (hon 2 (by kernel_rfl)) rfl
        have e14 : a.tmps[14]? = some (.int .i64 a0_1) := by rw [ha]; exact putSel_on (e := (4, 14, .int .i64 a0_1)) 2 rfl rfl (hon 4 (by kernel_rfl)) rfl
        have FD' := FD
        have FB' := FB
        have FS' := FS
        refine value_ (w1 := w') (v := keyV a0_0 a0_1) (by rfl) rfl ?_ ?_
        · clear ha hK hon hoff
          go_simp
          (try simp only [i64_w])
          (try rfl)
        refine hK.out _ _ ⟨bm, B, bf, (by rw [ha]; exact putSel_upk 3 hb_ rfl rfl rfl), FD, FB, FS, (fun h0 h1 => FF (by rwa [up_ne (by decide)] at h0) (by rwa [up_ne (by decide)] at h1)), (fun h0 => FX (by rwa [up_ne (by decide)] at h0)), (fun h0 h1 => FA (by rwa [up_ne (by decide)] at h0) (by rwa [up_ne (by decide)] at h1)), (fun h0 => by rw [up_ne (by decide), hoff 11 (by kernel_rfl)] at h0; cases h0)⟩
      refine steps_cons ?_ ?_
      · rintro b a w' ⟨bm, B, bf, ha, FD, FB, FS, FF, FX, FA, FC⟩ hb_ hon hoff
        refine ⟨_, rfl, fun K hK => ?_⟩
        have e10 : a.tmps[10]? = some (.map (some bm)) := by rw [ha]; exact putSel_on (e := (0, 10, .map (some bm))) 0 rfl rfl (hon 0 (by kernel_rfl)) rfl
        have e15 : a.tmps[15]? = some (keyV a0_0 a0_1) := by rw [ha]; exact putSel_on (e := (5, 15, keyV a0_0 a0_1)) 3 rfl rfl (hon 5 (by kernel_rfl)) rfl
        have FD' := FD
        have FB' := FB
        have FS' := FS
        have FF' := FF (hon 0 (by kernel_rfl)) (hoff 11 (by kernel_rfl))
        have FX' := FX (hon 0 (by kernel_rfl))
        have hl := lookup_ok FF'.1 a0_0 a0_1
        rw [lookV, if_neg hp] at hl
        rw [decide_eq_false hp] at hl
        refine value_ (by rfl) rfl (lookup_run rfl e10 e15 hl) ?_
        refine hK.out _ _ ⟨bm, B, bf, (by rw [ha]; exact putSel_upk 4 hb_ rfl rfl rfl), FD, FB, FS, (fun h0 h1 => FF (by rwa [up_ne (by decide)] at h0) (by rwa [up_ne (by decide)] at h1)), (fun h0 => FX (by rwa [up_ne (by decide)] at h0)), (fun h0 h1 => FA (by rwa [up_ne (by decide)] at h0) (by rwa [up_ne (by decide)] at h1)), (fun h0 => by rw [up_ne (by decide), hoff 11 (by kernel_rfl)] at h0; cases h0)⟩
      refine steps_cons ?_ ?_
      · rintro b a w' ⟨bm, B, bf, ha, FD, FB, FS, FF, FX, FA, FC⟩ hb_ hon hoff
        refine ⟨_, rfl, fun K hK => ?_⟩
        have e16 : a.tmps[16]? = some (.tuple #[.agg #[.string ⟨#[]⟩, .string ⟨#[]⟩, .nilFunc], .bool false]) := by rw [ha]; exact putSel_on (e := (6, 16, .tuple #[.agg #[.string ⟨#[]⟩, .string ⟨#[]⟩, .nilFunc], .bool false])) 4 rfl rfl (hon 6 (by kernel_rfl)) rfl
        have FD' := FD
        have FB' := FB
        have FS' := FS
        have FF' := FF (hon 0 (by kernel_rfl)) (hoff 11 (by kernel_rfl))
        have FX' := FX (hon 0 (by kernel_rfl))
        refine value_ (w1 := w') (v := .tuple #[.agg #[.string ⟨#[]⟩, .string ⟨#[]⟩, .nilFunc], .bool false]) (by rfl) rfl ?_ ?_
        · clear ha hK hon hoff
          go_simp
          (try simp only [i64_w])
          (try rfl)
        refine hK.out _ _ ⟨bm, B, bf, (by rw [ha]; exact putSel_upk 5 hb_ rfl rfl rfl), FD, FB, FS, (fun h0 h1 => FF (by rwa [up_ne (by decide)] at h0) (by rwa [up_ne (by decide)] at h1)), (fun h0 => FX (by rwa [up_ne (by decide)] at h0)), (fun h0 h1 => FA (by rwa [up_ne (by decide)] at h0) (by rwa [up_ne (by decide)] at h1)), (fun h0 => by rw [up_ne (by decide), hoff 11 (by kernel_rfl)] at h0; cases h0)⟩
      refine steps_cons ?_ ?_
      · rintro b a w' ⟨bm, B, bf, ha, FD, FB, FS, FF, FX, FA, FC⟩ hb_ hon hoff
        refine ⟨_, rfl, fun K hK => ?_⟩
        have e9 : a.tmps[9]? = some (.tuple #[.agg #[.string ⟨#[]⟩, .string ⟨#[]⟩, .nilFunc], .bool false]) := by rw [ha]; exact putSel_on (e := (7, 9, .tuple #[.agg #[.string ⟨#[]⟩, .string ⟨#[]⟩, .nilFunc], .bool false])) 5 rfl rfl (hon 7 (by kernel_rfl)) rfl
        have FD' := FD
        have FB' := FB
        have FS' := FS
        have FF' := FF (hon 0 (by kernel_rfl)) (hoff 11 (by kernel_rfl))
        have FX' := FX (hon 0 (by kernel_rfl))
        refine value_ (w1 := w') (v := .agg #[.string ⟨#[]⟩, .string ⟨#[]⟩, .nilFunc]) (by rfl) rfl ?_ ?_
        · clear ha hK hon hoff
          go_simp
          (try simp only [i64_w])
          (try rfl)
        refine hK.out _ _ ⟨bm, B, bf, (by rw [ha]; exact putSel_upk 6 hb_ rfl rfl rfl), FD, FB, FS, (fun h0 h1 => FF (by rwa [up_ne (by decide)] at h0) (by rwa [up_ne (by decide)] at h1)), (fun h0 => FX (by rwa [up_ne (by decide)] at h0)), (fun h0 h1 => FA (by rwa [up_ne (by decide)] at h0) (by rwa [up_ne (by decide)] at h1)), (fun h0 => by rw [up_ne (by decide), hoff 11 (by kernel_rfl)] at h0; cases h0)⟩
      refine steps_cons ?_ ?_
      · rintro b a w' ⟨bm, B, bf, ha, FD, FB, FS, FF, FX, FA, FC⟩ hb_ hon hoff
        refine ⟨_, rfl, fun K hK => ?_⟩
        have e9 : a.tmps[9]? = some (.tuple #[.agg #[.string ⟨#[]⟩, .string ⟨#[]⟩, .nilFunc], .bool false]) := by rw [ha]; exact putSel_on (e := (7, 9, .tuple #[.agg #[.string ⟨#[]⟩, .string ⟨#[]⟩, .nilFunc], .bool false])) 5 rfl rfl (hon 7 (by kernel_rfl)) rfl
        have FD' := FD
        have FB' := FB
        have FS' := FS
        have FX' := FX (hon 0 (by kernel_rfl))
        refine value_ (w1 := w') (v := .bool false) (by rfl) rfl ?_ ?_
        · clear ha hK hon hoff
          go_simp
          (try simp only [i64_w])
          (try rfl)
        refine hK.out _ _ ⟨bm, B, bf, (by rw [ha]; exact putSel_upk 7 hb_ rfl rfl rfl), FD, FB, FS, (fun h0 h1 => FF (by rwa [up_ne (by decide)] at h0) (by rwa [up_ne (by decide)] at h1)), (fun h0 => FX (by rwa [up_ne (by decide)] at h0)), (fun h0 h1 => FA (by rwa [up_ne (by decide)] at h0) (by rwa [up_ne (by decide)] at h1)), (fun h0 => FC (by rwa [up_ne (by decide)] at h0))⟩
      refine steps_cons ?_ ?_
      · rintro b a w' ⟨bm, B, bf, ha, FD, FB, FS, FF, FX, FA, FC⟩ hb_ hon hoff
        refine ⟨_, rfl, fun K hK => ?_⟩
        have FD' := FD
        have FB' := FB
        have FS' := FS
        refine value_ (w1 := w'.alloc (.cells #[.string ⟨#[]⟩, .string ⟨#[]⟩, .nilFunc] 56)) (v := .pointer (some ⟨w'.heap.size, 0, none⟩)) (by rfl) rfl ?_ ?_
        · clear ha hK hon hoff
          go_simp
          (try rfl)
        refine hK.out _ _ ⟨bm, B, w'.heap.size, (by rw [ha]; exact putSel_upk 8 hb_ rfl rfl rfl), ?_, ?_, ?_, (fun h0 h1 => ?_), (fun h0 => ?_), (fun h0 h1 => ?_), (fun h0 => by rw [up_ne (by decide), hoff 11 (by kernel_rfl)] at h0; cases h0)⟩
        · exact blk_alloc FD _
        · exact FB.alloc (by omega) _
        · simp; omega
        · rw [up_ne (by decide)] at h0
          rw [up_ne (by decide)] at h1
          have FF' := FF h0 h1
          exact ⟨FF'.1.of_heap (Below.heap_alloc _ _ _ FF'.1.lt.1) (Below.heap_alloc _ _ _ FF'.1.lt.2), FF'.2⟩
        · rw [up_ne (by decide)] at h0
          have FX' := FX h0
          exact ⟨blk_alloc FX'.1 _, FX'.2⟩
        · rw [up_ne (by decide)] at h1
          exact ⟨blk_new _ _, FS⟩
      refine steps_cons ?_ ?_
      · rintro b a w' ⟨bm, B, bf, ha, FD, FB, FS, FF, FX, FA, FC⟩ hb_ hon hoff
        refine ⟨_, rfl, fun K hK => ?_⟩
        have e3 : a.tmps[3]? = some (.pointer (some ⟨bf, 0, none⟩)) := by rw [ha]; exact putSel_on (e := (10, 3, .pointer (some ⟨bf, 0, none⟩))) 8 rfl rfl (hon 10 (by kernel_rfl)) rfl
        have e17 : a.tmps[17]? = some (.agg #[.string ⟨#[]⟩, .string ⟨#[]⟩, .nilFunc]) := by rw [ha]; exact putSel_on (e := (8, 17, .agg #[.string ⟨#[]⟩, .string ⟨#[]⟩, .nilFunc])) 6 rfl rfl (hon 8 (by kernel_rfl)) rfl
        have FD' := FD
        have FB' := FB
        have FS' := FS
        have FF' := FF (hon 0 (by kernel_rfl)) hb_
        have FX' := FX (hon 0 (by kernel_rfl))
        have FA' := FA (hon 10 (by kernel_rfl)) hb_
        obtain ⟨s1, s2⟩ := store_all (P := Tryd.prog) (ty := 56) (cells := #[.string ⟨#[]⟩, .string ⟨#[]⟩, .nilFunc]) FA'.1 rfl (by kernel_rfl) (by simp [Value.oneCell'])
        refine skip_ (by rfl) rfl (store_run rfl e3 e17 s1) ?_
        refine hK.out _ _ ⟨bm, B, bf, (by rw [ha]; exact putSel_none (v := undef) rfl), ?_, ?_, ?_, (fun h0 h1 => by rw [up_self] at h1; cases h1), (fun h0 => ?_), (fun h0 h1 => by rw [up_self] at h1; cases h1), (fun h0 => ?_)⟩
        · rw [heap_setCells_other (blk_ne FD FA'.1 (by decide))]; exact FD
        · exact FB.trans (below_setCells (by have := FA'.2; omega) _ _ _)
        · exact Nat.le_trans FS (below_setCells (Nat.le_refl _) _ _ _).size
        · rw [up_ne (by decide)] at h0
          have FX' := FX h0
          exact ⟨(heap_setCells_other (blk_ne FX'.1 FA'.1 (by decide)) _ _ _).trans FX'.1, FX'.2⟩
        · exact ⟨s2, FA'.2⟩
      refine steps_cons ?_ ?_
      · rintro b a w' ⟨bm, B, bf, ha, FD, FB, FS, FF, FX, FA, FC⟩ hb_ hon hoff
        refine ⟨_, rfl, fun K hK => ?_⟩
        have e18 : a.tmps[18]? = some (.bool false) := by rw [ha]; exact putSel_on (e := (9, 18, .bool false)) 7 rfl rfl (hon 9 (by kernel_rfl)) rfl
        have FD' := FD
        have FB' := FB
        have FS' := FS
        have FX' := FX (hon 0 (by kernel_rfl))
        have FC' := FC (hon 11 (by kernel_rfl))
        refine value_ (w1 := w') (v := .bool false) (by rfl) rfl ?_ ?_
        · clear ha hK hon hoff
          go_simp
          (try simp only [i64_w])
          (try rfl)
        refine hK.out _ _ ⟨bm, B, bf, (by rw [ha]; exact putSel_upk 9 hb_ rfl rfl rfl), FD, FB, FS, (fun h0 h1 => by rw [up_ne (by decide), hon 11 (by kernel_rfl)] at h1; cases h1), (fun h0 => FX (by rwa [up_ne (by decide)] at h0)), (fun h0 h1 => by rw [up_ne (by decide), hon 11 (by kernel_rfl)] at h1; cases h1), (fun h0 => FC (by rwa [up_ne (by decide)] at h0))⟩
      exact steps_nil
    · rintro b a w' hall ⟨bm, B, bf, ha, FD, FB, FS, FF, FX, FA, FC⟩
      have hb0 := hall 0 (by kernel_rfl)
      have hb2 := hall 2 (by kernel_rfl)
      have hb4 := hall 4 (by kernel_rfl)
      have hb5 := hall 5 (by kernel_rfl)
      have hb6 := hall 6 (by kernel_rfl)
      have hb7 := hall 7 (by kernel_rfl)
      have hb8 := hall 8 (by kernel_rfl)
      have hb9 := hall 9 (by kernel_rfl)
      have hb10 := hall 10 (by kernel_rfl)
      have hb11 := hall 11 (by kernel_rfl)
      have hb12 := hall 12 (by kernel_rfl)
      subst ha
      simp only [putSel, hb0, hb2, hb4, hb5, hb6, hb7, hb8, hb9, hb10, hb11, hb12, if_true, Act.put, List.setIfInBounds_toArray, List.set_cons_zero, List.set_cons_succ]
      clear FF
      replace FX := FX hb0
      clear FA
      replace FC := FC hb11
      clear hall HT_ HW_ hb0 hb2 hb4 hb5 hb6 hb7 hb8 hb9 hb10 hb11 hb12
      go_wp2
      go_ret
      exact ⟨rfl, FB⟩
end Go.Proofs.YtndijkndllpkgaaDoor.Pr
/- Laws for the walks of direct's functions by explicit steps (wip/xdir.py): the map of looks, its closures, pointers into a box. -/
namespace Go.Proofs.YtndijkndllpkgaaDoor.X
open Go.RowKit Go.Proofs.YtndijkndllpkgaaDoor.Frm Go.Proofs.YtndijkndllpkgaaDoorW.PrintWords Go.Proofs.YtndijkndllpkgaaDoorW.PrintLast
set_option linter.unusedVariables false
def encP (D : Nat) (o : Nat) : Value := .pointer (some ⟨D, o, none⟩)
abbrev kP (D : Nat) : Kd Nat := Kd.scalar (encP D) (fun _ => rfl)
section
variable {w w1 : World} {b B : Nat} {o k : Int}
theorem lookup_in (h : FormsAt w b B) (hp : (o, k) ∈ pairs) : (Instr.lookup 57 (.map (some b)) (.agg #[.int .i64 o, .int .i64 k]) false).run Tryd.prog w = .ok (.agg #[.string (opS o), .string (kdS k), fnV B o k]) w := by
  have := lookup_plain h o k
  rw [lookV, if_pos hp] at this
  exact this
theorem forms_ext (h : FormsAt w b B) (hE : Below w.heap.size w w1) : FormsAt w1 b B := h.below hE h.lt.1 h.lt.2
theorem forms_set {g : Nat} {cs cs' : Array Value} {T : TypeId} (h : FormsAt w b B) (hX : w.heap[g]? = some (.cells cs T (0, 0))) (ht : T ≠ 54) (hS : Set1 w w1 g cs' T) : FormsAt w1 b B := by
  refine h.of_heap (hS.away _ fun e => ?_) (hS.away _ fun e => ?_)
  · obtain ⟨l, _, _, h3⟩ := h.map
    rw [e, hX] at h3
    cases h3
  · have := h.box
    rw [e, hX] at this
    injection this with this
    injection this with _ h2
    exact ht h2
theorem num_x (h : FormsAt w b B) (hp : (o, k) ∈ pairs) (D : Nat) : Calls Tryd.prog (numOf o k) (#[.pointer (some ⟨D, 0, none⟩)] ++ capsOf B o k) w fun e w' => ∃ v : Value, e = .returned v ∧ Kd.R (kP D) 63 w' w.heap.size (fun _ => True) v (offs o k) ∧ Below w.heap.size w w' := by
  refine (num_calls o k hp D B w h.box).mono ?_
  rintro e w' ⟨v, rfl, ho, hb⟩
  exact ⟨v, rfl, Kd.R_of_own (by first | exact ho | (simp only [encs]; exact ho)) (fun _ _ => trivial), hb⟩
end
theorem offs_getD {l : List Nat} (h : ∀ x ∈ l, x < 13) {i : Nat} (hi : i < l.length) : l.getD i 0 < 13 := by
  rw [List.getD_eq_getElem?_getD, List.getElem?_eq_getElem hi]
  exact h _ (List.getElem_mem hi)
def upd : Nat → Nat → Int → List Int → List Int
  | _, _, _, [] => []
  | j, o, v, x :: r => (bif Nat.beq o j then v else x) :: upd (j + 1) o v r
theorem upd_away (v : Int) : ∀ (xs : List Int) (j o : Nat), o < j → upd j o v xs = xs
  | [], _, _, _ => rfl
  | x :: r, j, o, h => by
    have : Nat.beq o j = false := by cases hb : Nat.beq o j with | false => rfl | true => have := Nat.eq_of_beq_eq_true hb; omega
    rw [upd, this, cond_false, upd_away v r (j + 1) o (by omega)]
theorem upd_set (v : Int) : ∀ (xs : List Int) (j o : Nat), upd j (j + o) v xs = xs.set o v
  | [], _, _ => by simp [upd]
  | x :: r, j, 0 => by
    rw [upd, Nat.add_zero, show Nat.beq j j = true by simp, cond_true, upd_away v r (j + 1) j (by omega)]
    rfl
  | x :: r, j, o + 1 => by
    have hne : Nat.beq (j + (o + 1)) j = false := by cases hb : Nat.beq (j + (o + 1)) j with | false => rfl | true => have := Nat.eq_of_beq_eq_true hb; omega
    rw [upd, hne, cond_false, show j + (o + 1) = (j + 1) + o by omega, upd_set v r (j + 1) o]
    rfl
section
variable {P : Program} {w : World} {b : Nat} {cs : Array Value} {T t : TypeId}
theorem l_dyn {xs : List Int} (hb : w.heap[b]? = some (.cells cs T (0, 0))) (hcs : (xs.map (Value.int .i64)).toArray = cs) (o : Nat) (ho : o < 13) (hl : xs.length = 13) (hs : (isAgg t).run P w = .ok false w) :
    (Instr.loadAt t (.pointer (some ⟨b, o, none⟩))).run P w = .ok (.int .i64 (xs.getD o 0)) w := by
  subst hcs
  refine l_one hb o ?_ hs
  have : o < xs.length := by omega
  simp [List.getD_eq_getElem?_getD, this]
theorem s_dyn {xs : List Int} (hb : w.heap[b]? = some (.cells cs T (0, 0))) (hcs : (xs.map (Value.int .i64)).toArray = cs) (o : Nat) (v : Int) (ho : o < 13) (hl : xs.length = 13) {cs' : Array Value} (hcs' : ((upd 0 o v xs).map (Value.int .i64)).toArray = cs')
    (hu : P.underlying t = some (.int .i64)) (hi : (P.info? t).map (·.size) = some 1) :
    ∃ w1, (Instr.storeAt t (.pointer (some ⟨b, o, none⟩)) (.int .i64 v)).run P w = .ok () w1 ∧ Set1 w w1 b cs' T := by
  subst hcs
  subst hcs'
  refine s_one hb o (cs' := _) ?_ ?_ (fun W hc hf => x_store_int _ _ _ W hu hi hc hf)
  · simp only [List.size_toArray, List.length_map]
    exact Nat.ble_eq_true_of_le (by omega)
  · have := upd_set v xs 0 o
    rw [Nat.zero_add] at this
    rw [this]
    simp [List.map_set]
end
end Go.Proofs.YtndijkndllpkgaaDoor.X
/- Numbers and their decimal texts: what reading sign by sign comes to, and that it is the other way round of writing. No program in this text. -/
namespace Go.Proofs.YtndijkndllpkgaaDoor.Dig
open Go.Lib

/-- A number read sign by sign: what is left, is it the first sign, what was read. -/
def pgo : List UInt8 → Bool → Int → Option Int
  | [], _, n => some n
  | c :: l, first, n => if (c.toNat : Int) < 48 then none else if 57 < (c.toNat : Int) then none else if first = false ∧ n = 0 then none else
      if (9223372036854775807 - ((c.toNat : Int) - 48)) / 10 < n then none else pgo l false (n * 10 + ((c.toNat : Int) - 48))

def parseI (l : List UInt8) (high : Int) : Int × Bool :=
  match pgo l true 0 with
  | none => (0, false)
  | some n => if l = [] then (0, false) else if high < n then (0, false) else (n, true)

/-- One sign. -/
def stepI (c : UInt8) (first : Bool) (n : Int) : Option Int :=
  if (c.toNat : Int) < 48 then none else if 57 < (c.toNat : Int) then none else if first = false ∧ n = 0 then none else
      if (9223372036854775807 - ((c.toNat : Int) - 48)) / 10 < n then none else some (n * 10 + ((c.toNat : Int) - 48))

theorem pgo_cons (c : UInt8) (l : List UInt8) (b : Bool) (n : Int) : pgo (c :: l) b n = (stepI c b n).bind (pgo l false) := by
  simp only [pgo, stepI]
  repeat' split
  all_goals rfl

theorem pgo_snoc (c : UInt8) : ∀ (l : List UInt8) (b : Bool) (n : Int), pgo (l ++ [c]) b n = (pgo l b n).bind (stepI c (b && l.isEmpty))
  | [], b, n => by
    rw [List.nil_append, pgo_cons, pgo]
    simp only [List.isEmpty_nil, Bool.and_true, Option.bind_some]
    cases stepI c b n <;> simp [pgo]
  | x :: l, b, n => by
    rw [List.cons_append, pgo_cons, pgo_cons]
    cases h : stepI x b n with
    | none => rfl
    | some m => simp only [Option.bind_some]; rw [pgo_snoc c l false m]; simp

theorem dec_small {u : Nat} (h : u < 10) : decDigits u = [UInt8.ofNat (48 + u)] := by rw [decDigits, dif_pos h]
theorem dec_big {u : Nat} (h : ¬ u < 10) : decDigits u = decDigits (u / 10) ++ [UInt8.ofNat (48 + u % 10)] := by rw [decDigits, dif_neg h]

theorem dec_ne (u : Nat) : decDigits u ≠ [] := by
  by_cases h : u < 10
  · rw [dec_small h]; simp
  · rw [dec_big h]; simp

theorem byte_toNat {d : Nat} (h : d < 10) : (UInt8.ofNat (48 + d)).toNat = 48 + d := by
  simp only [UInt8.toNat_ofNat']
  omega

theorem byte_of {c : UInt8} (h1 : 48 ≤ c.toNat) (h2 : c.toNat ≤ 57) : c = UInt8.ofNat (48 + (c.toNat - 48)) := by
  rw [show 48 + (c.toNat - 48) = c.toNat by omega, UInt8.ofNat_toNat]

/-- What was written is read. -/
theorem pgo_dec (u : Nat) (h : (u : Int) ≤ 9223372036854775807) : pgo (decDigits u) true 0 = some (u : Int) := by
  induction u using Nat.strongRecOn with
  | _ u ih =>
    by_cases hs : u < 10
    · rw [dec_small hs, pgo_cons]
      have e := byte_toNat hs
      unfold stepI
      rw [e, if_neg (by omega), if_neg (by omega), if_neg (by simp), if_neg (by omega)]
      simp [pgo]
      omega
    · rw [dec_big hs, pgo_snoc, ih (u / 10) (by omega) (by omega)]
      have e := byte_toNat (show u % 10 < 10 by omega)
      have hn : (decDigits (u / 10)).isEmpty = false := by simpa using dec_ne (u / 10)
      simp only [Option.bind_some, hn, Bool.and_false]
      unfold stepI
      rw [e, if_neg (by omega), if_neg (by omega), if_neg (by omega), if_neg (by omega)]
      congr 1
      omega

theorem stepI_some {c : UInt8} {b : Bool} {n m : Int} (h : stepI c b n = some m) :
    48 ≤ c.toNat ∧ c.toNat ≤ 57 ∧ (b = false → n ≠ 0) ∧ n ≤ (9223372036854775807 - ((c.toNat : Int) - 48)) / 10 ∧ m = n * 10 + ((c.toNat : Int) - 48) := by
  unfold stepI at h
  split at h <;> try contradiction
  split at h <;> try contradiction
  split at h <;> try contradiction
  split at h <;> try contradiction
  rename_i h1 h2 h3 h4
  have h := Option.some.inj h
  exact ⟨by omega, by omega, fun hb hn => h3 ⟨hb, hn⟩, by omega, h.symm⟩

theorem list_snoc {α : Type} (l : List α) (h : l ≠ []) : ∃ l' c, l = l' ++ [c] := ⟨l.dropLast, l.getLast h, (List.dropLast_concat_getLast h).symm⟩

/-- What is read was written so. -/
theorem dec_of_pgo : ∀ (k : Nat) (l : List UInt8) (m : Int), l.length = k → l ≠ [] → pgo l true 0 = some m → 0 ≤ m ∧ m ≤ 9223372036854775807 ∧ decDigits m.toNat = l := by
  intro k
  induction k with
  | zero => intro l m hl hn _; exact absurd (List.length_eq_zero_iff.1 hl) hn
  | succ k ih =>
    intro l m hl hn hp
    obtain ⟨l', c, rfl⟩ := list_snoc l hn
    rw [pgo_snoc] at hp
    by_cases he : l' = []
    · subst he
      simp only [pgo, Option.bind_some, List.isEmpty_nil, Bool.and_true] at hp
      obtain ⟨h1, h2, _, _, rfl⟩ := stepI_some hp
      refine ⟨by omega, by omega, ?_⟩
      rw [show (0 * 10 + ((c.toNat : Int) - 48)).toNat = c.toNat - 48 by omega, dec_small (by omega), ← byte_of h1 h2]
      rfl
    · cases hq : pgo l' true 0 with
      | none => rw [hq] at hp; simp at hp
      | some q =>
        rw [hq] at hp
        have hne : l'.isEmpty = false := by simpa using he
        simp only [Option.bind_some, hne, Bool.and_false] at hp
        obtain ⟨h1, h2, h3, h4, rfl⟩ := stepI_some hp
        have hl' : l'.length = k := by simpa using hl
        obtain ⟨q0, q1, qe⟩ := ih l' q hl' he hq
        have hq0 : q ≠ 0 := h3 rfl
        refine ⟨by omega, by omega, ?_⟩
        have hbig : ¬ (q * 10 + ((c.toNat : Int) - 48)).toNat < 10 := by omega
        rw [dec_big hbig, show (q * 10 + ((c.toNat : Int) - 48)).toNat / 10 = q.toNat by omega, qe,
          show 48 + (q * 10 + ((c.toNat : Int) - 48)).toNat % 10 = 48 + (c.toNat - 48) by omega, ← byte_of h1 h2]

/-- Reading, in one sentence. -/
theorem parse_true {l : List UInt8} {high n : Int} (h : parseI l high = (n, true)) : 0 ≤ n ∧ n ≤ high ∧ n ≤ 9223372036854775807 ∧ itoa n = l := by
  unfold parseI at h
  cases hp : pgo l true 0 with
  | none => rw [hp] at h; simp at h
  | some m =>
    rw [hp] at h
    simp only at h
    split at h
    · simp at h
    · rename_i hl
      split at h
      · simp at h
      · rename_i hh
        have hm : m = n := (Prod.mk.inj h).1
        subst hm
        obtain ⟨h0, h1, h2⟩ := dec_of_pgo _ l m rfl hl hp
        exact ⟨h0, by omega, h1, by unfold itoa; rw [if_neg (by omega)]; exact h2⟩

theorem parse_of {n high : Int} (h0 : 0 ≤ n) (h1 : n ≤ high) (h2 : n ≤ 9223372036854775807) : parseI (itoa n) high = (n, true) := by
  have e : itoa n = decDigits n.toNat := by unfold itoa; rw [if_neg (by omega)]
  have hp := pgo_dec n.toNat (by omega)
  unfold parseI
  rw [e, hp]
  simp only
  rw [if_neg (dec_ne _), if_neg (by omega), show ((n.toNat : Nat) : Int) = n by omega]

theorem parse_false {l : List UInt8} {high n : Int} (h : parseI l high = (n, false)) : n = 0 := by
  unfold parseI at h
  split at h
  · exact (Prod.mk.inj h).1.symm
  · split at h
    · exact (Prod.mk.inj h).1.symm
    · split at h
      · exact (Prod.mk.inj h).1.symm
      · simp at h

theorem parse_no {l : List UInt8} {high : Int} (h : ∀ n, 0 ≤ n → n ≤ high → n ≤ 9223372036854775807 → itoa n ≠ l) : parseI l high = (0, false) := by
  cases hp : parseI l high with
  | mk n b =>
    cases b with
    | true => obtain ⟨a, b, c, d⟩ := parse_true hp; exact absurd d (h n a b c)
    | false => rw [parse_false hp]

theorem dec_inj {a b : Nat} (ha : (a : Int) ≤ 9223372036854775807) (hb : (b : Int) ≤ 9223372036854775807) (h : decDigits a = decDigits b) : a = b := by
  have h1 := pgo_dec a ha
  have h2 := pgo_dec b hb
  rw [h, h2] at h1
  have := Option.some.inj h1
  omega

theorem dec_digit (u : Nat) : ∀ c ∈ decDigits u, 48 ≤ c.toNat ∧ c.toNat ≤ 57 := by
  induction u using Nat.strongRecOn with
  | _ u ih =>
    intro c hc
    by_cases hs : u < 10
    · rw [dec_small hs, List.mem_singleton] at hc
      subst hc
      rw [byte_toNat hs]
      omega
    · rw [dec_big hs, List.mem_append, List.mem_singleton] at hc
      rcases hc with hc | rfl
      · exact ih (u / 10) (by omega) c hc
      · rw [byte_toNat (by omega)]
        omega

/-- Unlike numbers have unlike texts (any two; 2^63 is the greatest size of a negative one). -/
theorem pgo_dec_any (u : Nat) : ∃ c l, decDigits u = c :: l := by
  cases h : decDigits u with
  | nil => exact absurd h (dec_ne u)
  | cons c l => exact ⟨c, l, rfl⟩

/-- The value of digits. -/
def valD (l : List UInt8) : Nat := l.foldl (fun a c => a * 10 + (c.toNat - 48)) 0
theorem valD_snoc (l : List UInt8) (c : UInt8) : valD (l ++ [c]) = valD l * 10 + (c.toNat - 48) := by unfold valD; rw [List.foldl_append]; rfl
theorem valD_dec (u : Nat) : valD (decDigits u) = u := by
  induction u using Nat.strongRecOn with
  | _ u ih =>
    by_cases hs : u < 10
    · rw [dec_small hs]
      show 0 * 10 + ((UInt8.ofNat (48 + u)).toNat - 48) = u
      rw [byte_toNat hs]; omega
    · rw [dec_big hs, valD_snoc, ih (u / 10) (by omega), byte_toNat (by omega)]
      omega

theorem itoa_inj {a b : Int} (h : itoa a = itoa b) : a = b := by
  unfold itoa at h
  by_cases ha : a < 0
  · by_cases hb : b < 0
    · rw [if_pos ha, if_pos hb] at h
      have := congrArg valD (List.cons.inj h).2
      rw [valD_dec, valD_dec] at this
      omega
    · rw [if_pos ha, if_neg hb] at h
      have hc := dec_digit b.toNat 45 (by rw [← h]; exact List.mem_cons_self)
      exact absurd hc.1 (by decide)
  · by_cases hb : b < 0
    · rw [if_neg ha, if_pos hb] at h
      have hc := dec_digit a.toNat 45 (by rw [h]; exact List.mem_cons_self)
      exact absurd hc.1 (by decide)
    · rw [if_neg ha, if_neg hb] at h
      have := congrArg valD h
      rw [valD_dec, valD_dec] at this
      omega

theorem dec_head {u : Nat} (h : 1 ≤ u) : ∀ c l, decDigits u = c :: l → c ≠ 48 := by
  induction u using Nat.strongRecOn with
  | _ u ih =>
    intro c l e
    by_cases hs : u < 10
    · rw [dec_small hs] at e
      have := (List.cons.inj e).1
      subst this
      intro hc
      have := congrArg UInt8.toNat hc
      rw [byte_toNat hs] at this
      simp at this
      omega
    · rw [dec_big hs] at e
      obtain ⟨c', l', e'⟩ := pgo_dec_any (u / 10)
      rw [e'] at e
      have := (List.cons.inj e).1
      subst this
      exact ih (u / 10) (by omega) (by omega) c' l' e'

theorem dec_len (u : Nat) (k : Nat) (h : u < 10 ^ (k + 1)) : (decDigits u).length ≤ k + 1 := by
  induction k generalizing u with
  | zero => rw [dec_small (by simpa using h)]; simp
  | succ k ih =>
    by_cases hs : u < 10
    · rw [dec_small hs]; simp
    · rw [dec_big hs, List.length_append, List.length_singleton]
      have := ih (u / 10) (by rw [Nat.pow_succ] at h; omega)
      omega
end Go.Proofs.YtndijkndllpkgaaDoor.Dig
/- num.Parse: what its loop over the signs of a text comes to, and the walk that shows it. -/
namespace Go.Proofs.YtndijkndllpkgaaDoor.Num
open Go.RowKit Go.Proofs.YtndijkndllpkgaaDoor.Dig

theorem drop_cons (s : ByteArray) (pos : Nat) (h : pos < s.size) : s.data.toList.drop pos = (s[pos]'h) :: s.data.toList.drop (pos + 1) := by
  rw [List.drop_eq_getElem_cons (by simpa using h)]; rfl

theorem ret2 {k : IntKind} {a b : Int} {p q : Bool} (h : a = b) (g : p = q) : Ending.returned (.tuple #[.int k a, .bool p]) = .returned (.tuple #[.int k b, .bool q]) := by rw [h, g]

set_option maxHeartbeats 2000000 in
set_option maxRecDepth 100000 in
theorem Parse_calls (s : ByteArray) (high : Int) (w : World) (hs : s.size ≤ 9223372036854775807) :
    Calls Tryd.prog 17 #[.string s, .int .i64 high] w fun e w' => e = .returned (.tuple #[.int .i64 (parseI s.data.toList high).1, .bool (parseI s.data.toList high).2]) ∧ Below w.heap.size w w' := by
  go_enter Tryd.func17, Tryd.ntmps17
  go_wp2
  go_loopg [4] s.size (fun gf v4 wx => ∃ (pos : Nat) (n : Int), v4 = .int .i64 n ∧ wx.heap[w.heap.size]? = some (.stringIter s pos) ∧ Below w.heap.size w wx ∧ 0 ≤ n ∧ n ≤ 9223372036854775807 ∧ pgo (s.data.toList.drop pos) (decide (pos = 0)) n = pgo s.data.toList true 0 ∧ pos ≤ s.size ∧ s.size = pos + gf)
  case atStart => exact ⟨0, 0, rfl, World.iter_heap w s 0, (Below.refl _ w).alloc (Nat.le_refl _) _, by omega, by omega, rfl, by omega, by omega⟩
  case round =>
    obtain ⟨pos, n, rfl, hit, hbw, hn0, hn1, hleft, hle, hfu⟩ := hrel
    by_cases hps : pos < s.size
    · obtain ⟨g', rfl⟩ : ∃ g', gk = g' + 1 := ⟨gk - 1, by omega⟩
      have hnx : ∀ ty, (Instr.next (.pointer (some ⟨w.heap.size, 0, none⟩)) true ty).run Tryd.prog wr = _ := fun ty => Lib.run_next_any_at wr w.heap.size s pos ty hit hps
      obtain ⟨R, hR⟩ : ∃ R, (Utf8.decode s pos).1 = R := ⟨_, rfl⟩
      obtain ⟨K, hK⟩ : ∃ K, (Utf8.decode s pos).2 = K := ⟨_, rfl⟩
      have hRle : R ≤ 2147483647 := hR ▸ decode_le s pos
      rw [drop_cons s pos hps] at hleft
      simp only [pgo] at hleft
      have hit2 := Lib.iterAt_heap wr w.heap.size s pos (pos + K) hit
      have hbw2 := Lib.below_iterAt hbw (k := w.heap.size) (Nat.le_refl _) s (pos + K)
      rw [hR, hK] at hnx
      obtain ⟨W, hWd⟩ : ∃ W, wr.iterAt w.heap.size s (pos + K) = W := ⟨_, rfl⟩
      rw [hWd] at hnx hit2 hbw2
      have hcR : ((s[pos]'hps).toNat : Int) = R ∧ K = 1 ∨ 128 ≤ ((s[pos]'hps).toNat : Int) ∧ 128 ≤ R := by
        by_cases ha : (s[pos]'hps).toNat < 128
        · rw [decode_ascii s pos hps ha] at hR hK; exact .inl ⟨by rw [← hR], hK.symm⟩
        · exact .inr ⟨by omega, by rw [← hR]; exact (decode_high s pos hps (by omega)).1⟩
      obtain ⟨C, hC⟩ : ∃ C : Int, ((s[pos]'hps).toNat : Int) = C := ⟨_, rfl⟩
      rw [hC] at hcR hleft
      clear hC hR hK hWd hit
      by_cases c1 : (R : Int) < 48
      · have HP : Hid (parseI s.data.toList high = (0, false)) := Lib.hid (by unfold parseI; rw [← hleft, if_pos (by omega)])
        have b1 : decide ((R : Int) < 48) = true := decide_eq_true c1
        clear hleft hcR
        go_wp2
        go_ret2
        exact ⟨ret2 (by rw [HP.out]) (by rw [HP.out]), hbw2⟩
      · have b1 : decide ((R : Int) < 48) = false := decide_eq_false c1
        by_cases c2 : 57 < (R : Int)
        · have HP : Hid (parseI s.data.toList high = (0, false)) := Lib.hid (by unfold parseI; rw [← hleft, if_neg (by omega), if_pos (by omega)])
          have b2 : decide (57 < (R : Int)) = true := decide_eq_true c2
          clear hleft hcR
          go_wp2
          go_ret2
          exact ⟨ret2 (by rw [HP.out]) (by rw [HP.out]), hbw2⟩
        · have b2 : decide (57 < (R : Int)) = false := decide_eq_false c2
          obtain ⟨rfl, rfl⟩ : (C = R ∧ K = 1) := by omega
          rw [if_neg c1, if_neg c2] at hleft
          by_cases c3 : pos = 0
          · simp only [c3, decide_true, Bool.true_eq_false, false_and, if_false] at hleft
            rw [show s.data.toList.drop (0 + 1) = s.data.toList.drop (pos + 1) by rw [c3]] at hleft
            have c3' : decide (0 < pos) = false := by simp [c3]
            have c3i : decide ((0 : Int) < (pos : Int)) = false := by simp [c3]
            have H3 := Lib.hid c3
            clear c3
            by_cases c4 : (9223372036854775807 - ((R : Int) - 48)) / 10 < n
            · have HP : Hid (parseI s.data.toList high = (0, false)) := Lib.hid (by unfold parseI; rw [← hleft, if_pos c4])
              have b4 : decide ((9223372036854775807 - ((R : Int) - 48)) / 10 < n) = true := decide_eq_true c4
              clear hleft
              go_wp2
              go_ret2
              exact ⟨ret2 (by rw [HP.out]) (by rw [HP.out]), hbw2⟩
            · have b4 : decide ((9223372036854775807 - ((R : Int) - 48)) / 10 < n) = false := decide_eq_false c4
              rw [if_neg c4] at hleft
              have HL := Lib.hid hleft
              clear hleft
              go_wp2
              go_roundg g'
              case measure => omega
              case rel => exact ⟨pos + 1, _, rfl, hit2, hbw2, by omega, by omega, by rw [← HL.out]; simp, by omega, by omega⟩
          · have c3' : decide (0 < pos) = true := by simp; omega
            have c3i : decide ((0 : Int) < (pos : Int)) = true := by simp; omega
            have e3 : decide (pos = 0) = false := by simp [c3]
            rw [e3] at hleft
            clear e3
            by_cases c5 : n = 0
            · have HP : Hid (parseI s.data.toList high = (0, false)) := Lib.hid (by unfold parseI; rw [← hleft, if_pos ⟨rfl, c5⟩])
              have b5 : (n == 0) = true := beq_iff_eq.2 c5
              clear hleft c5 
              go_wp2
              go_ret2
              exact ⟨ret2 (by rw [HP.out]) (by rw [HP.out]), hbw2⟩
            · rw [if_neg (by rintro ⟨_, h⟩; exact c5 h)] at hleft
              have b5 : (n == 0) = false := beq_eq_false_iff_ne.2 c5
              by_cases c4 : (9223372036854775807 - ((R : Int) - 48)) / 10 < n
              · have HP : Hid (parseI s.data.toList high = (0, false)) := Lib.hid (by unfold parseI; rw [← hleft, if_pos c4])
                have b4 : decide ((9223372036854775807 - ((R : Int) - 48)) / 10 < n) = true := decide_eq_true c4
                clear hleft
                go_wp2
                go_ret2
                exact ⟨ret2 (by rw [HP.out]) (by rw [HP.out]), hbw2⟩
              · have b4 : decide ((9223372036854775807 - ((R : Int) - 48)) / 10 < n) = false := decide_eq_false c4
                rw [if_neg c4] at hleft
                have HL := Lib.hid hleft
                clear hleft
                go_wp2
                go_roundg g'
                case measure => omega
                case rel => exact ⟨pos + 1, _, rfl, hit2, hbw2, by omega, by omega, by rw [← HL.out]; simp, by omega, by omega⟩
    · have hnx : ∀ ty, (Instr.next (.pointer (some ⟨w.heap.size, 0, none⟩)) true ty).run Tryd.prog wr = _ := fun ty => Lib.run_next_end_at wr w.heap.size s pos ty hit hps
      obtain rfl : pos = s.size := by omega
      rw [List.drop_of_length_le (by simp)] at hleft
      simp only [pgo] at hleft
      by_cases ce : s.size = 0
      · have ce1 : s.data.toList = [] := by rw [← List.length_eq_zero_iff]; simpa using ce
        have HP : Hid (parseI s.data.toList high = (0, false)) := Lib.hid (by unfold parseI; rw [← hleft]; simp [ce1])
        have he : s.toList = [] := (ByteArray.toList_eq s).trans ce1
        clear hleft ce ce1
        go_wp2
        go_ret2
        exact ⟨ret2 (by rw [HP.out]) (by rw [HP.out]), hbw⟩
      · have ce1 : s.data.toList ≠ [] := by rw [ne_eq, ← List.length_eq_zero_iff]; simpa using ce
        have he : s.toList.isEmpty = false := by rw [ByteArray.toList_eq]; simpa using ce1
        have he' : ¬ s.toList = [] := by rw [ByteArray.toList_eq]; exact ce1
        by_cases ch : high < n
        · have HP : Hid (parseI s.data.toList high = (0, false)) := Lib.hid (by unfold parseI; rw [← hleft]; simp [ce1, ch])
          have b6 : decide (high < n) = true := decide_eq_true ch
          clear hleft ce ce1
          go_wp2
          go_ret2
          exact ⟨ret2 (by rw [HP.out]) (by rw [HP.out]), hbw⟩
        · have HP : Hid (parseI s.data.toList high = (n, true)) := Lib.hid (by unfold parseI; rw [← hleft]; simp [ce1, ch])
          have b6 : decide (high < n) = false := decide_eq_false ch
          clear hleft ce ce1
          go_wp2
          go_ret2
          exact ⟨ret2 (by rw [HP.out]) (by rw [HP.out]), hbw⟩
end Go.Proofs.YtndijkndllpkgaaDoor.Num
/- num.Parse and num.Text in the printer's form: what they answer, and that the calls do so. -/
namespace Go.Proofs.YtndijkndllpkgaaDoor.Pr
open Go.RowKit Go.Lib

theorem grown_below (w : World) (q : Nat) (os : Array Obj) : Below w.heap.size w (Sort.grow (w.drewN q) os) :=
  ⟨rfl, rfl, rfl, by simp [Sort.grow], fun i hi => by
    show ((w.drewN q).heap ++ os)[i]? = _
    rw [Array.getElem?_append_left (by show i < w.heap.size; omega)]
    rfl⟩

def num_Text.f (a0 : Int) : Option ByteArray := if -9223372036854775808 ≤ a0 then (if a0 ≤ 9223372036854775807 then some (⟨(itoa a0).toArray⟩ : ByteArray) else none) else none

theorem num_Text.calls (a0 : Int) (r : ByteArray) (w : World) (ht : TabP w) (h : num_Text.f a0 = some r) :
    Calls Tryd.prog 23 #[.int .i64 a0] w fun e w' => e = .returned (.string r) ∧ Below w.heap.size w w' := by
  unfold num_Text.f at h
  split at h <;> try contradiction
  rename_i h0
  split at h <;> try contradiction
  rename_i h1
  obtain rfl := Option.some.inj h
  go_enter Tryd.func23, Tryd.ntmps23
  go_wp2_with (go_at_call 35; refine (Tryd.strconv_Itoa a0 h0 h1 _ ht).mono ?_; rintro e w' ⟨rfl, k, os, rfl⟩)
  go_ret
  exact ⟨rfl, grown_below _ _ _⟩

def num_Parse.f (a0 : ByteArray) (a1 : Int) : Option (Int × Bool) := if a0.size ≤ 9223372036854775807 then some (Dig.parseI a0.data.toList a1) else none

theorem num_Parse.calls (a0 : ByteArray) (a1 : Int) (r1 : Int) (r2 : Bool) (w : World) (h : num_Parse.f a0 a1 = some (r1, r2)) :
    Calls Tryd.prog 17 #[.string a0, .int .i64 a1] w fun e w' => e = .returned (.tuple #[.int .i64 r1, .bool r2]) ∧ Below w.heap.size w w' := by
  unfold num_Parse.f at h
  split at h <;> try contradiction
  rename_i h0
  have h := Option.some.inj h
  have hc := Num.Parse_calls a0 a1 w h0
  rw [h] at hc
  exact hc
end Go.Proofs.YtndijkndllpkgaaDoor.Pr
/- The range over the map of looks: what holds of its iterator, round by round; direct.find as a function of what is read. -/
namespace Go.Proofs.YtndijkndllpkgaaDoor.X
open Go.RowKit Go.Proofs.YtndijkndllpkgaaDoor.Frm Go.Proofs.YtndijkndllpkgaaDoorW.PrintWords Go.Proofs.YtndijkndllpkgaaDoorW.PrintLast
set_option linter.unusedVariables false
open Go.ChangeMaps (setBlock)
structure IterAt (w : World) (r b B : Nat) (Q : Int → Int → Prop) (n : Nat) (cur : Option (Int × Int)) : Prop where
  box : w.heap[B]? = some (.cells #[.func (.func 53) #[] #[]] 54 (0, 0))
  it : ∃ (l : List (Int × Int)) (seen : Array Nat), l.Nodup ∧ (∀ p, p ∈ l ↔ p ∈ pairs) ∧ w.heap[b]? = some (.map (ents B 0 l).toArray l.length) ∧ w.heap[r]? = some (.mapIter (some b) l.length seen l.length) ∧ (leftOf (ents B 0 l).toArray seen).size = n ∧
    (∀ e ∈ ents B 0 l, seen.contains e.born = true → ∀ p ∈ l, e.key = keyV p.1 p.2 → cur = some p ∨ Q p.1 p.2) ∧
    (∀ p, cur = some p → ∃ (seen' : Array Nat) (e : MapEntry), seen = seen'.push e.born ∧ e ∈ ents B 0 l ∧ e.key = keyV p.1 p.2 ∧ e.val = valV B p.1 p.2)
section
variable {w w1 : World} {r b B n : Nat} {Q : Int → Int → Prop} {cur : Option (Int × Int)} {o k : Int}
theorem IterAt.forms (h : IterAt w r b B Q n cur) : FormsAt w b B := by
  obtain ⟨l, seen, h1, h2, h3, _⟩ := h.it
  exact ⟨h.box, l, h1, h2, h3⟩
theorem IterAt.of_heap (h : IterAt w r b B Q n cur) (hr : w1.heap[r]? = w.heap[r]?) (hb : w1.heap[b]? = w.heap[b]?) (hB : w1.heap[B]? = w.heap[B]?) : IterAt w1 r b B Q n cur := by
  obtain ⟨l, seen, h1, h2, h3, h4, h5⟩ := h.it
  exact ⟨hB.trans h.box, l, seen, h1, h2, hb.trans h3, hr.trans h4, h5⟩
theorem IterAt.lt (h : IterAt w r b B Q n cur) : r < w.heap.size := by
  obtain ⟨l, seen, _, _, _, h4, _⟩ := h.it
  exact (Array.getElem?_eq_some_iff.1 h4).1
theorem iter_ext (h : IterAt w r b B Q n cur) (hE : Below w.heap.size w w1) : IterAt w1 r b B Q n cur := h.of_heap (hE.block _ h.lt) (hE.block _ h.forms.lt.1) (hE.block _ h.forms.lt.2)
theorem iter_ne {g : Nat} {cs : Array Value} {T : TypeId} (h : IterAt w r b B Q n cur) (hX : w.heap[g]? = some (.cells cs T (0, 0))) : g ≠ r := fun e => by
  obtain ⟨l, seen, _, _, _, h4, _⟩ := h.it
  rw [← e, hX] at h4
  cases h4
theorem iter_set {g : Nat} {cs cs' : Array Value} {T : TypeId} (h : IterAt w r b B Q n cur) (hX : w.heap[g]? = some (.cells cs T (0, 0))) (ht : T ≠ 54) (hS : Set1 w w1 g cs' T) : IterAt w1 r b B Q n cur := by
  have hf := forms_set h.forms hX ht hS
  have hr : w1.heap[r]? = w.heap[r]? := hS.away _ (Ne.symm (iter_ne h hX))
  obtain ⟨l, seen, h1, h2, h3, h4, h5⟩ := h.it
  refine ⟨hf.box, l, seen, h1, h2, ?_, hr.trans h4, h5⟩
  refine (hS.away _ fun e => ?_).trans h3
  rw [e, hX] at h3
  cases h3
theorem iter_start (h : FormsAt w b B) (Q : Int → Int → Prop) : ∃ (r n : Nat) (w1 : World), (Instr.range 57 (.map (some b))).run Tryd.prog w = .ok (.pointer (some ⟨r, 0, none⟩)) w1 ∧ IterAt w1 r b B Q n none ∧ w.heap.size ≤ r ∧ Below w.heap.size w w1 := by
  obtain ⟨l, h1, h2, h3⟩ := h.map
  refine ⟨w.heap.size, _, _, run_range_map w _ _ _ b _ _ Tryd.underlying57 h3, ⟨(heap_alloc_old w _ h.lt.2).trans h.box, l, #[], h1, h2, (heap_alloc_old w _ h.lt.1).trans h3, heap_alloc_new w _, rfl, ?_, ?_⟩, Nat.le_refl _, (Below.refl _ _).alloc (Nat.le_refl _) _⟩
  · intro e _ hs
    simp at hs
  · intro p hp
    cases hp
structure SetI (w w1 : World) (r : Nat) : Prop where
  away : ∀ i, i ≠ r → w1.heap[i]? = w.heap[i]?
  below : ∀ N, N ≤ r → Below N w w1
theorem setI_of {o : Obj} (h : w1 = w ∨ w1 = w.drew) (hr : r < w.heap.size) : SetI w (setBlock w1 r o) r := by
  have e : w1.heap = w.heap := by rcases h with rfl | rfl <;> rfl
  refine ⟨fun i hi => ?_, fun N hN => ?_⟩
  · show (w1.heap.setIfInBounds r o)[i]? = _
    rw [Array.getElem?_setIfInBounds_ne (Ne.symm hi), e]
  · have : Below N w w1 := by rcases h with rfl | rfl; exact Below.refl _ _; exact below_drew (Below.refl _ _)
    refine this.trans ⟨rfl, rfl, rfl, ?_, fun i hi => ?_⟩
    · show _ ≤ (w1.heap.setIfInBounds r o).size
      rw [Array.size_setIfInBounds]
      exact Nat.le_refl _
    · show (w1.heap.setIfInBounds r o)[i]? = _
      rw [Array.getElem?_setIfInBounds_ne (by omega)]
theorem ents_has (B : Nat) : ∀ (l : List (Int × Int)) (n : Nat) (p : Int × Int), p ∈ l → ∃ e ∈ ents B n l, e.key = keyV p.1 p.2
  | [], _, _, h => by cases h
  | q :: r, n, p, h => by
    rcases List.mem_cons.1 h with rfl | h
    · exact ⟨_, List.mem_cons_self, rfl⟩
    · obtain ⟨e, he, hk⟩ := ents_has B r (n + 1) p h
      exact ⟨e, List.mem_cons_of_mem _ he, hk⟩
theorem keyV_inj {o k o' k' : Int} (h : keyV o k = keyV o' k') : o = o' ∧ k = k' := by
  injection h with h
  injection h with h
  injection h with h1 h2
  injection h2 with h2 _
  injection h1 with _ h1
  injection h2 with _ h2
  exact ⟨h1, h2⟩
theorem iter_next (h : IterAt w r b B Q n none) : (n = 0 ∧ (∀ p ∈ pairs, Q p.1 p.2) ∧ (Instr.next (.pointer (some ⟨r, 0, none⟩)) false 0).run Tryd.prog w = .ok (.tuple #[.bool false]) w) ∨
    ∃ (o k : Int) (m : Nat) (w1 : World), m < n ∧ (o, k) ∈ pairs ∧ (Instr.next (.pointer (some ⟨r, 0, none⟩)) false 0).run Tryd.prog w = .ok (.tuple #[.bool true, keyV o k, valV B o k]) w1 ∧ IterAt w1 r b B Q m (some (o, k)) ∧ SetI w w1 r := by
  obtain ⟨l, seen, h1, h2, h3, h4, h5, h6, h7⟩ := h.it
  rcases run_next_at (P := Tryd.prog) w 0 r b l.length l.length seen (ents B 0 l).toArray l.length h4 h3 (fun x hx => by obtain ⟨p, _, _, _, _, h8⟩ := ents_mem B l 0 x (by simpa using hx); omega) (Nat.le_refl _) with ⟨hz, hrun⟩ | ⟨e, he, w1, hal, hrun⟩
  · refine .inl ⟨h5 ▸ hz, fun p hp => ?_, hrun⟩
    have hl := (h2 p).2 hp
    obtain ⟨e, he, hk⟩ : ∃ e ∈ ents B 0 l, e.key = keyV p.1 p.2 := by
      have := ents_has B l 0 p hl
      exact this
    have := all_seen _ _ hz e (by simpa using he)
    rcases h6 e he this p hl hk with h8 | h8
    · cases h8
    · exact h8
  · obtain ⟨he1, he2⟩ := mem_left he
    have he1' : e ∈ ents B 0 l := by simpa using he1
    obtain ⟨p, hp, hk, hv, _⟩ := ents_mem B l 0 e he1'
    refine .inr ⟨p.1, p.2, _, _, h5 ▸ left_shrinks _ _ _ he, (h2 p).1 hp, by rw [hrun, hk, hv], ?_, setI_of hal h.lt⟩
    have hSI := setI_of (w := w) (o := .mapIter (some b) l.length (seen.push e.born) l.length) hal h.lt
    have e1 : w1.heap = w.heap := by rcases hal with rfl | rfl <;> rfl
    have hrb : b ≠ r := fun x => by rw [x, h4] at h3; cases h3
    have hrB : B ≠ r := fun x => by have := h.box; rw [x, h4] at this; cases this
    refine ⟨(hSI.away _ hrB).trans h.box, l, seen.push e.born, h1, h2, (hSI.away _ hrb).trans h3, ?_, rfl, ?_, ?_⟩
    · show (w1.heap.setIfInBounds r _)[r]? = _
      rw [e1, Array.getElem?_setIfInBounds_self_of_lt h.lt]
    · intro x hx hs q hq hxk
      rw [contains_push, Bool.or_eq_true] at hs
      rcases hs with hs | hs
      · rcases h6 x hx hs q hq hxk with h8 | h8
        · cases h8
        · exact .inr h8
      · left
        have hxe : x = e := born_inj (ents_nodup B l 0) hx he1' (by simpa using hs)
        rw [hxe, hk] at hxk
        obtain ⟨a1, a2⟩ := keyV_inj hxk
        exact congrArg some (Prod.ext a1 a2)
    · intro q hq
      cases hq
      exact ⟨seen, e, rfl, he1', hk, hv⟩
theorem iter_entry (h : IterAt w r b B Q n (some (o, k))) : (Instr.entry (.pointer (some ⟨r, 0, none⟩))).run Tryd.prog w = .ok (.tuple #[keyV o k, valV B o k]) w := by
  obtain ⟨l, seen, h1, h2, h3, h4, h5, h6, h7⟩ := h.it
  obtain ⟨seen', e, rfl, he, hk, hv⟩ := h7 _ rfl
  have := run_entry_at (P := Tryd.prog) w r b l.length seen' (ents B 0 l).toArray l.length e h4 h3 (by simpa using he) (by simpa using ents_nodup B l 0)
  rw [this, hk, hv]
theorem iter_drop (h : IterAt w r b B Q n (some (o, k))) (hq : Q o k) : IterAt w r b B Q n none := by
  obtain ⟨l, seen, h1, h2, h3, h4, h5, h6, h7⟩ := h.it
  refine ⟨h.box, l, seen, h1, h2, h3, h4, h5, fun e he hs p hp hk => ?_, fun p hp => by cases hp⟩
  rcases h6 e he hs p hp hk with h8 | h8
  · cases h8
    exact .inr hq
  · exact .inr h8
end
section
variable {P : Program} {ρ : Operand → Value} {o : Oper} {w w1 : World} {v m : Value} {x y : Operand} {t : TypeId} {b : Bool}
theorem r_range (ho : o.op = .range t x) (hx : ρ x = m) (h : (Instr.range t m).run P w = .ok v w1) : (execOp ρ o).run P w = .ok (.value v) w1 := r_of (by unfold execOp; simp only [ho, hx]) h
theorem r_next (ho : o.op = .next x b) (ht : o.type = 0) (hx : ρ x = m) (h : (Instr.next m b 0).run P w = .ok v w1) : (execOp ρ o).run P w = .ok (.value v) w1 := r_of (by unfold execOp; simp only [ho, hx, ht]) h
theorem r_entry (ho : o.op = .entry x) (hx : ρ x = m) (h : (Instr.entry m).run P w = .ok v w1) : (execOp ρ o).run P w = .ok (.value v) w1 := r_of (by unfold execOp; simp only [ho, hx]) h
end
/-! ### direct.find, as what is read tells it -/
def findT (l : List ByteArray) (o k : Int) : Prop := decide ((2 : Int) < (l.length : Int)) = true ∧ ((l.getD (0 : Int).toNat (⟨#[]⟩ : ByteArray)).toList == (opS o).toList) = true ∧ ((l.getD (1 : Int).toNat (⟨#[]⟩ : ByteArray)).toList == (kdS k).toList) = true
instance (l : List ByteArray) (o k : Int) : Decidable (findT l o k) := by unfold findT; infer_instance
theorem opS_inj {o o' : Int} {k k' : Int} (h : (o, k) ∈ pairs) (h' : (o', k') ∈ pairs) (e : (opS o).toList = (opS o').toList) : o = o' := by
  simp only [pairs, List.mem_cons, List.not_mem_nil, or_false, Prod.mk.injEq] at h h'
  rcases h with ⟨rfl, rfl⟩ | ⟨rfl, rfl⟩ | ⟨rfl, rfl⟩ | ⟨rfl, rfl⟩ | ⟨rfl, rfl⟩ | ⟨rfl, rfl⟩ <;> rcases h' with ⟨rfl, rfl⟩ | ⟨rfl, rfl⟩ | ⟨rfl, rfl⟩ | ⟨rfl, rfl⟩ | ⟨rfl, rfl⟩ | ⟨rfl, rfl⟩ <;> first | rfl | (rw [ByteArray.toList_eq, ByteArray.toList_eq] at e; revert e; decide)
theorem kdS_inj {o o' : Int} {k k' : Int} (h : (o, k) ∈ pairs) (h' : (o', k') ∈ pairs) (e : (kdS k).toList = (kdS k').toList) : k = k' := by
  simp only [pairs, List.mem_cons, List.not_mem_nil, or_false, Prod.mk.injEq] at h h'
  rcases h with ⟨rfl, rfl⟩ | ⟨rfl, rfl⟩ | ⟨rfl, rfl⟩ | ⟨rfl, rfl⟩ | ⟨rfl, rfl⟩ | ⟨rfl, rfl⟩ <;> rcases h' with ⟨rfl, rfl⟩ | ⟨rfl, rfl⟩ | ⟨rfl, rfl⟩ | ⟨rfl, rfl⟩ | ⟨rfl, rfl⟩ | ⟨rfl, rfl⟩ <;> first | rfl | (rw [ByteArray.toList_eq, ByteArray.toList_eq] at e; revert e; decide)
/-- The pair that words begin with. -/
def findP (l : List ByteArray) : Option (Int × Int) := pairs.find? fun p => decide (findT l p.1 p.2)
theorem findP_hit {l : List ByteArray} {o k : Int} (hp : (o, k) ∈ pairs) (h : findT l o k) : findP l = some (o, k) := by
  unfold findP
  cases hq : pairs.find? (fun p => decide (findT l p.1 p.2)) with
  | none =>
    have := List.find?_eq_none.1 hq _ hp
    simp [h] at this
  | some q =>
    have h1 := List.find?_some hq
    have h2 := List.mem_of_find?_eq_some hq
    have h1 : findT l q.1 q.2 := by simpa using h1
    have a1 := opS_inj h2 hp ((eq_of_beq h1.2.1).symm.trans (eq_of_beq h.2.1))
    have a2 := kdS_inj h2 hp ((eq_of_beq h1.2.2).symm.trans (eq_of_beq h.2.2))
    exact congrArg some (Prod.ext a1 a2)
theorem findP_miss {l : List ByteArray} (h : ∀ p ∈ pairs, ¬ findT l p.1 p.2) : findP l = none := List.find?_eq_none.2 fun p hp => by simpa using h p hp
end Go.Proofs.YtndijkndllpkgaaDoor.X
namespace Go.Proofs.YtndijkndllpkgaaDoor.Pr
open Go.RowKit Go.Proofs.YtndijkndllpkgaaDoorW.PrintWords Go.Proofs.YtndijkndllpkgaaDoorW.PrintLast Go.Proofs.YtndijkndllpkgaaDoorW.PrintMore Go.Proofs.YtndijkndllpkgaaDoor.X Go.Proofs.YtndijkndllpkgaaDoor.Frm
def direct_find.f (l0 : List ByteArray) : Option (Int × Int × Int × Int × Int × Int × Int × Int × Int × Int × Int × Int × Int × Bool) :=
  some (match findP l0 with
    | some (o, k) => (o, k, 0, 0, 0, 0, 0, 0, 0, 0, 0, 0, 0, decide ((l0.length : Int) = wrap64 (2 + ((offs o k).length : Int))))
    | none => (0, 0, 0, 0, 0, 0, 0, 0, 0, 0, 0, 0, 0, false))
theorem find_hit {l : List ByteArray} {o k : Int} (hp : (o, k) ∈ pairs) (h : findT l o k) : direct_find.f l = some (o, k, 0, 0, 0, 0, 0, 0, 0, 0, 0, 0, 0, decide ((l.length : Int) = wrap64 (2 + ((offs o k).length : Int)))) := by
  unfold direct_find.f
  rw [findP_hit hp h]
theorem find_miss {l : List ByteArray} (h : ∀ p ∈ pairs, ¬ findT l p.1 p.2) : direct_find.f l = some (0, 0, 0, 0, 0, 0, 0, 0, 0, 0, 0, 0, 0, false) := by
  unfold direct_find.f
  rw [findP_miss h]
end Go.Proofs.YtndijkndllpkgaaDoor.Pr
/- The walk of felucca/direct.find by explicit steps (wip/xdir.py). -/
namespace Go.Proofs.YtndijkndllpkgaaDoor.Pr
open Go.RowKit Go.Proofs.YtndijkndllpkgaaDoor.Frm Go.Proofs.YtndijkndllpkgaaDoorW.PrintWords Go.Proofs.YtndijkndllpkgaaDoorW.PrintLast Go.Proofs.YtndijkndllpkgaaDoorW.PrintMore Go.Proofs.YtndijkndllpkgaaDoor.X
set_option linter.unusedVariables false
set_option linter.unusedSimpArgs false
theorem direct_find.zv38 (w : World) : (zeroValue 38).run Tryd.prog w = .ok (.agg #[.int .i64 0, .int .i64 0, .int .i64 0, .int .i64 0, .int .i64 0, .int .i64 0, .int .i64 0, .int .i64 0, .int .i64 0, .int .i64 0, .int .i64 0, .int .i64 0, .int .i64 0]) w := by
  first | (go_simp; done) | (go_simp; rfl) | rfl
theorem direct_find.sz38 : (Tryd.prog.info? 38).map (·.size) = some 13 := by
  kernel_rfl
theorem direct_find.zv60 (w : World) : (zeroValue 60).run Tryd.prog w = .ok (.agg #[.int .i64 0, .int .i64 0]) w := by
  first | (go_simp; done) | (go_simp; rfl) | rfl
theorem direct_find.zv56 (w : World) : (zeroValue 56).run Tryd.prog w = .ok (.agg #[.string (⟨#[]⟩ : ByteArray), .string (⟨#[]⟩ : ByteArray), .nilFunc]) w := by
  first | (go_simp; done) | (go_simp; rfl) | rfl
theorem direct_find.sz60 : (Tryd.prog.info? 60).map (·.size) = some 2 := by
  kernel_rfl
theorem direct_find.sz56 : (Tryd.prog.info? 56).map (·.size) = some 3 := by
  kernel_rfl
theorem direct_find.sz9 : (Tryd.prog.info? 9).map (·.size) = some 1 := by
  kernel_rfl
theorem direct_find.fa56_0 (b o : Nat) (w : World) : (Instr.fieldAt 56 (.pointer (some ⟨b, o, none⟩)) 0).run Tryd.prog w = .ok (.pointer (some ⟨b, o, none⟩)) w := by
  first | (go_simp; done) | (simp [Instr.fieldAt, Instr.sureAddr, Sem.run_bind, run_underlying Tryd.underlying56, fieldPlace, sizeOf, typeInfo, Addr.add]; done) | (go_simp; simp [Addr.add])
theorem direct_find.fa56_1 (b o : Nat) (w : World) : (Instr.fieldAt 56 (.pointer (some ⟨b, o, none⟩)) 1).run Tryd.prog w = .ok (.pointer (some ⟨b, o + 1, none⟩)) w := by
  first | (go_simp; done) | (simp [Instr.fieldAt, Instr.sureAddr, Sem.run_bind, run_underlying Tryd.underlying56, fieldPlace, sizeOf, typeInfo, Addr.add]; done) | (go_simp; simp [Addr.add])
def direct_find.T4 : Bool × List (List Nat × List Nat) := (true, [([], []), ([0], [0]), ([1], [1]), ([2], [2]), ([3], [3]), ([4, 3], [3, 4]), ([5, 3], [3, 5]), ([3], [3]), ([7, 3], [3, 7]), ([6, 8, 3], [3, 6, 8]), ([3, 9], [3, 9]), ([10, 3], [10]), ([11], [11]), ([12, 11], [11, 12]), ([13, 11], [11, 13]), ([11], [11]), ([15, 11], [11, 15]), ([14, 16, 11], [11, 14, 16]), ([11, 17], [11, 17])])
def direct_find.B4 : List Nat := [0, 1, 3, 7, 15, 31, 63, 15, 143, 511, 1023, 2047, 4095, 8191, 16383, 4095, 36863, 131071, 262143]
theorem direct_find.tab4 : rtab .any (opsOf Tryd.f39 4) = direct_find.T4 := by kernel_rfl
theorem direct_find.bits4 : waitsOk direct_find.T4.2 direct_find.B4 = true := by kernel_rfl
theorem direct_find.fa60_0 (b o : Nat) (w : World) : (Instr.fieldAt 60 (.pointer (some ⟨b, o, none⟩)) 0).run Tryd.prog w = .ok (.pointer (some ⟨b, o, none⟩)) w := by
  first | (go_simp; done) | (simp [Instr.fieldAt, Instr.sureAddr, Sem.run_bind, run_underlying Tryd.underlying60, fieldPlace, sizeOf, typeInfo, Addr.add]; done) | (go_simp; simp [Addr.add])
theorem direct_find.fa60_1 (b o : Nat) (w : World) : (Instr.fieldAt 60 (.pointer (some ⟨b, o, none⟩)) 1).run Tryd.prog w = .ok (.pointer (some ⟨b, o + 1, none⟩)) w := by
  first | (go_simp; done) | (simp [Instr.fieldAt, Instr.sureAddr, Sem.run_bind, run_underlying Tryd.underlying60, fieldPlace, sizeOf, typeInfo, Addr.add]; done) | (go_simp; simp [Addr.add])
theorem direct_find.fa38_0 (b o : Nat) (w : World) : (Instr.fieldAt 38 (.pointer (some ⟨b, o, none⟩)) 0).run Tryd.prog w = .ok (.pointer (some ⟨b, o, none⟩)) w := by
  first | (go_simp; done) | (simp [Instr.fieldAt, Instr.sureAddr, Sem.run_bind, run_underlying Tryd.underlying38, fieldPlace, sizeOf, typeInfo, Addr.add]; done) | (go_simp; simp [Addr.add])
theorem direct_find.fa38_1 (b o : Nat) (w : World) : (Instr.fieldAt 38 (.pointer (some ⟨b, o, none⟩)) 1).run Tryd.prog w = .ok (.pointer (some ⟨b, o + 1, none⟩)) w := by
  first | (go_simp; done) | (simp [Instr.fieldAt, Instr.sureAddr, Sem.run_bind, run_underlying Tryd.underlying38, fieldPlace, sizeOf, typeInfo, Addr.add]; done) | (go_simp; simp [Addr.add])
def direct_find.T5 : Bool × List (List Nat × List Nat) := (true, [([], []), ([0], [0]), ([], []), ([2], [2]), ([0, 1], []), ([4, 1, 0, 1], [1, 4]), ([0, 1, 2, 3, 4, 5], []), ([6, 3, 5, 0, 1, 2, 3, 4, 5], [3, 6])])
def direct_find.B5 : List Nat := [0, 1, 0, 4, 3, 19, 63, 127]
theorem direct_find.tab5 : rtab .any (opsOf Tryd.f39 5) = direct_find.T5 := by kernel_rfl
theorem direct_find.bits5 : waitsOk direct_find.T5.2 direct_find.B5 = true := by kernel_rfl
theorem direct_find.sz3 : (Tryd.prog.info? 3).map (·.size) = some 1 := by
  kernel_rfl
theorem direct_find.fa56_2 (b o : Nat) (w : World) : (Instr.fieldAt 56 (.pointer (some ⟨b, o, none⟩)) 2).run Tryd.prog w = .ok (.pointer (some ⟨b, o + 2, none⟩)) w := by
  first | (go_simp; done) | (simp [Instr.fieldAt, Instr.sureAddr, Sem.run_bind, run_underlying Tryd.underlying56, fieldPlace, sizeOf, typeInfo, Addr.add]; done) | (go_simp; simp [Addr.add])
def direct_find.T6 : Bool × List (List Nat × List Nat) := (true, [([], []), ([], []), ([1], [1]), ([], []), ([3], [3]), ([4], [4]), ([5], [5]), ([6], [6]), ([2, 7], [2, 7]), ([0, 5, 0, 5], [0]), ([8, 9, 0, 1, 2, 3, 4, 5, 6, 7, 8, 9], [8])])
def direct_find.B6 : List Nat := [0, 0, 2, 0, 8, 24, 56, 120, 254, 57, 1023]
theorem direct_find.tab6 : rtab .any (opsOf Tryd.f39 6) = direct_find.T6 := by kernel_rfl
theorem direct_find.bits6 : waitsOk direct_find.T6.2 direct_find.B6 = true := by kernel_rfl
set_option maxHeartbeats 4000000 in
set_option maxRecDepth 100000 in
theorem direct_find.calls (A0 : Option Addr) (c0 : Nat) (l0 : List ByteArray) (r1 : Int) (r2 : Int) (r3 : Int) (r4 : Int) (r5 : Int) (r6 : Int) (r7 : Int) (r8 : Int) (r9 : Int) (r10 : Int) (r11 : Int) (r12 : Int) (r13 : Int) (r14 : Bool) (w : World) (hr0 : Kd.C Kd.string w A0 l0.length l0) (hc0 : l0.length ≤ c0) (h : direct_find.f l0 = some (r1, r2, r3, r4, r5, r6, r7, r8, r9, r10, r11, r12, r13, r14)) :
    Calls Tryd.prog 39 #[.slice A0 l0.length c0] w fun e w' => e = .returned (.tuple #[.agg #[.int .i64 r1, .int .i64 r2, .int .i64 r3, .int .i64 r4, .int .i64 r5, .int .i64 r6, .int .i64 r7, .int .i64 r8, .int .i64 r9, .int .i64 r10, .int .i64 r11, .int .i64 r12, .int .i64 r13], .bool r14]) ∧ Below w.heap.size w w' := by
  have HB := Aside0.mk (Below.refl w.heap.size w)
  have HR0 := Aside0.mk hr0
  have HC0 := Aside0.mk hc0
  clear hr0 hc0
  refine calls_x (args := [.slice A0 l0.length c0]) Tryd.func39 rfl 48 48 rfl rfl (fun ac0 F0 => ?_)
  refine wp_seq_k (fun K1 hK1 => ?_)
  refine wp_region_lit ?_
  refine s_new (cs := #[.int .i64 0, .int .i64 0, .int .i64 0, .int .i64 0, .int .i64 0, .int .i64 0, .int .i64 0, .int .i64 0, .int .i64 0, .int .i64 0, .int .i64 0, .int .i64 0, .int .i64 0]) F0 (run_guard rfl) rfl rfl (r_alloc rfl (direct_find.zv38 _) rfl) (fun ac1 w1 b1 hb hge hlt hE F1 => ?_)
  clear F0 ac0
  have GEX1 := Aside0.mk (Nat.le_trans HB.out.size hge)
  replace HB := Aside0.mk (below_step HB.out hE)
  have X1 := Aside0.mk hb
  clear hb hge hlt hE
  refine sv (v := .bool false) F1 (run_guard rfl) rfl rfl (r_assign rfl ev_c) (fun ac2 F2 => ?_)
  clear F1 ac1
  refine c_end F2 ?_
  refine hK1 _ _ ?_
  refine wp_seq_k (fun K2 hK2 => ?_)
  refine wp_seq_k (fun K3 hK3 => ?_)
  refine wp_region_lit ?_
  refine sc F2 (run_guard rfl) rfl rfl (r_call rfl Tryd.func36 (by kernel_rfl) rfl rfl m0) ?_
  refine (forms_calls _).mono ?_
  rintro e w2 ⟨bm1, B1, rfl, hb1_, hB1_, hF_, hE⟩
  clear hb1_ hB1_
  replace X1 := Aside0.mk (blk_below X1.out hE)
  replace HB := Aside0.mk (below_step HB.out hE)
  have FF1 := Aside0.mk hF_
  clear hF_
  refine ⟨_, rfl, fun ac3 F3 => ?_⟩
  clear hE F2 ac2
  obtain ⟨rg1, mi1, w3, hrun, hI, hge, hE⟩ := iter_start FF1.out (fun o k => ¬ findT l0 o k)
  have GEIT := Aside0.mk (Nat.le_trans HB.out.size hge)
  refine sv (v := .pointer (some ⟨rg1, 0, none⟩)) F3 (run_guard rfl) rfl rfl (r_range rfl (F3.ev rfl) hrun) (fun ac4 F4 => ?_)
  clear hrun hge F3 ac3
  replace X1 := Aside0.mk (blk_below X1.out hE)
  replace FF1 := Aside0.mk (forms_ext FF1.out hE)
  replace HB := Aside0.mk (below_step HB.out hE)
  have IT := Aside0.mk hI
  clear hI hE
  refine c_end F4 ?_
  refine hK3 _ _ ?_
  refine wp_block ?_
  clear FF1
  refine c_loop (n := mi1) (fun (m : Nat) (a : Act) (w' : World) => Fr a 48 [(0, .slice A0 l0.length c0), (2, .pointer (some ⟨b1, 0, none⟩)), (7, .pointer (some ⟨rg1, 0, none⟩))] ∧ Aside0 (w'.heap[b1]? = some (.cells #[.int .i64 0, .int .i64 0, .int .i64 0, .int .i64 0, .int .i64 0, .int .i64 0, .int .i64 0, .int .i64 0, .int .i64 0, .int .i64 0, .int .i64 0, .int .i64 0, .int .i64 0] 38 (0, 0))) ∧ Aside0 (IterAt w' rg1 bm1 B1 (fun o k => ¬ findT l0 o k) m none) ∧ Aside0 (Below w.heap.size w w')) ?_ ?_
  · exact ⟨F4.pick ⟨rfl, rfl, rfl, trivial⟩, X1, IT, HB⟩
  · clear F4 X1 IT HB
    rintro m ac5 w4 ⟨F5, X1, IT, HB⟩
    refine wp_seq_k (fun K4 hK4 => ?_)
    refine wp_region_lit ?_
    rcases iter_next IT.out with ⟨hz, hall_, hrun⟩ | ⟨o_, k_, m_, w_, hlt_, hp_, hrun, hI, hSI⟩
    · refine sv (v := .tuple #[.bool false]) F5 (run_guard rfl) rfl rfl (r_next rfl rfl (F5.ev rfl) hrun) (fun ac6 F6 => ?_)
      clear hrun F5 ac5
      refine sv (v := .bool false) F6 (run_guard rfl) rfl rfl (r_extract rfl (F6.ev rfl) rfl) (fun ac7 F7 => ?_)
      clear F6 ac6
      refine c_end F7 ?_
      refine hK4 _ _ ?_
      refine wp_seq_k (fun K5 hK5 => ?_)
      refine wp_cond_false (F7.ev rfl) ?_
      refine wp_exit ?_
      refine hK2 _ _ ?_
      refine wp_seq_k (fun K6 hK6 => ?_)
      clear IT
      refine wp_region_lit ?_
      refine sv (v := .agg #[.int .i64 0, .int .i64 0, .int .i64 0, .int .i64 0, .int .i64 0, .int .i64 0, .int .i64 0, .int .i64 0, .int .i64 0, .int .i64 0, .int .i64 0, .int .i64 0, .int .i64 0]) F7 (run_guard rfl) rfl rfl (r_load rfl (F7.ev rfl) (l_part X1.out 0 [.int .i64 0, .int .i64 0, .int .i64 0, .int .i64 0, .int .i64 0, .int .i64 0, .int .i64 0, .int .i64 0, .int .i64 0, .int .i64 0, .int .i64 0, .int .i64 0, .int .i64 0] rfl Tryd.underlying38 rfl direct_find.sz38)) (fun ac8 F8 => ?_)
      clear F7 ac7
      obtain ⟨w5, hs, hS⟩ := s_part (P := Tryd.prog) (t := 38) (l' := [.int .i64 0, .int .i64 0, .int .i64 0, .int .i64 0, .int .i64 0, .int .i64 0, .int .i64 0, .int .i64 0, .int .i64 0, .int .i64 0, .int .i64 0, .int .i64 0, .int .i64 0]) X1.out 0 #[.int .i64 0, .int .i64 0, .int .i64 0, .int .i64 0, .int .i64 0, .int .i64 0, .int .i64 0, .int .i64 0, .int .i64 0, .int .i64 0, .int .i64 0, .int .i64 0, .int .i64 0] rfl rfl direct_find.sz38 rfl
      refine ss F8 (run_guard rfl) rfl (r_store rfl (F8.ev rfl) (F8.ev rfl) hs) ?_
      clear hs
      replace HB := Aside0.mk (HB.out.trans (hS.below _ GEX1.out))
      replace X1 := Aside0.mk hS.here
      clear hS
      refine sv (v := .bool false) F8 (run_guard rfl) rfl rfl (r_assign rfl ev_c) (fun ac9 F9 => ?_)
      clear F8 ac8
      refine c_end F9 ?_
      refine hK6 _ _ ?_
      refine wp_ret ?_
      have e_ := find_miss hall_
      rw [e_] at h
      clear e_
      (try simp only [Exit.then, Exit.inBlock])
      refine retx (fn := Tryd.f39) F9 (results2 (fn := Tryd.f39) rfl (rv_c (t := 2) (T := 38) (v := .agg #[.int .i64 0, .int .i64 0, .int .i64 0, .int .i64 0, .int .i64 0, .int .i64 0, .int .i64 0, .int .i64 0, .int .i64 0, .int .i64 0, .int .i64 0, .int .i64 0, .int .i64 0]) F9 rfl (l_part X1.out 0 [.int .i64 0, .int .i64 0, .int .i64 0, .int .i64 0, .int .i64 0, .int .i64 0, .int .i64 0, .int .i64 0, .int .i64 0, .int .i64 0, .int .i64 0, .int .i64 0, .int .i64 0] rfl Tryd.underlying38 rfl direct_find.sz38)) (rv_t (t := 3) (v := .bool false) F9 rfl)) ?_
      cases h
      exact ⟨rfl, HB.out⟩
    · refine sv (v := .tuple #[.bool true, .agg #[.int .i64 o_, .int .i64 k_], .agg #[.string (opS o_), .string (kdS k_), fnV B1 o_ k_]]) F5 (run_guard rfl) rfl rfl (r_next rfl rfl (F5.ev rfl) hrun) (fun ac6 F6 => ?_)
      clear hrun F5 ac5
      replace X1 := Aside0.mk ((hSI.away _ (iter_ne IT.out X1.out)).trans X1.out)
      replace HB := Aside0.mk (HB.out.trans (hSI.below _ GEIT.out))
      replace IT := Aside0.mk hI
      clear hI hSI
      refine sv (v := .bool true) F6 (run_guard rfl) rfl rfl (r_extract rfl (F6.ev rfl) rfl) (fun ac10 F10 => ?_)
      clear F6 ac6
      refine c_end F10 ?_
      refine hK4 _ _ ?_
      refine wp_seq_k (fun K7 hK7 => ?_)
      refine wp_cond_true (F10.ev rfl) ?_
      refine wp_skip ?_
      refine hK7 _ _ ?_
      refine wp_block ?_
      refine wp_seq_k (fun K8 hK8 => ?_)
      refine wp_region_lit ?_
      refine sv (v := .tuple #[.agg #[.int .i64 o_, .int .i64 k_], .agg #[.string (opS o_), .string (kdS k_), (fnV B1 o_ k_)]]) F10 (run_guard rfl) rfl rfl (r_entry rfl (F10.ev rfl) (iter_entry IT.out)) (fun ac11 F11 => ?_)
      clear F10 ac10
      refine sv (v := .agg #[.int .i64 o_, .int .i64 k_]) F11 (run_guard rfl) rfl rfl (r_extract rfl (F11.ev rfl) rfl) (fun ac12 F12 => ?_)
      clear F11 ac11
      refine sv (v := .agg #[.string (opS o_), .string (kdS k_), (fnV B1 o_ k_)]) F12 (run_guard rfl) rfl rfl (r_extract rfl (F12.ev rfl) rfl) (fun ac13 F13 => ?_)
      clear F12 ac12
      refine s_new (cs := #[.int .i64 0, .int .i64 0]) F13 (run_guard rfl) rfl rfl (r_alloc rfl (direct_find.zv60 _) rfl) (fun ac14 w6 b2 hb hge hlt hE F14 => ?_)
      clear F13 ac13
      have GEX2 := Aside0.mk (Nat.le_trans HB.out.size hge)
      have LTX1_X2 := Aside0.mk (Nat.lt_of_lt_of_le (blk_lt X1.out) hge)
      replace X1 := Aside0.mk (blk_below X1.out hE)
      replace IT := Aside0.mk (iter_ext IT.out hE)
      replace HB := Aside0.mk (below_step HB.out hE)
      have X2 := Aside0.mk hb
      clear hb hge hlt hE
      refine s_new (cs := #[.string (⟨#[]⟩ : ByteArray), .string (⟨#[]⟩ : ByteArray), .nilFunc]) F14 (run_guard rfl) rfl rfl (r_alloc rfl (direct_find.zv56 _) rfl) (fun ac15 w7 b3 hb hge hlt hE F15 => ?_)
      clear F14 ac14
      have GEX3 := Aside0.mk (Nat.le_trans HB.out.size hge)
      have LTX1_X3 := Aside0.mk (Nat.lt_of_lt_of_le (blk_lt X1.out) hge)
      have LTX2_X3 := Aside0.mk (Nat.lt_of_lt_of_le (blk_lt X2.out) hge)
      replace X1 := Aside0.mk (blk_below X1.out hE)
      replace IT := Aside0.mk (iter_ext IT.out hE)
      replace X2 := Aside0.mk (blk_below X2.out hE)
      replace HB := Aside0.mk (below_step HB.out hE)
      have X3 := Aside0.mk hb
      clear hb hge hlt hE
      obtain ⟨w8, hs, hS⟩ := s_part (P := Tryd.prog) (t := 60) (l' := [.int .i64 o_, .int .i64 k_]) X2.out 0 #[.int .i64 o_, .int .i64 k_] rfl rfl direct_find.sz60 rfl
      refine ss F15 (run_guard rfl) rfl (r_store rfl (F15.ev rfl) (F15.ev rfl) hs) ?_
      clear hs
      replace X1 := Aside0.mk (hS.blk X1.out (blk_ne X1.out X2.out (by decide)))
      replace IT := Aside0.mk (iter_set IT.out X2.out (by decide) hS)
      replace X3 := Aside0.mk (hS.blk X3.out (blk_ne X3.out X2.out (by decide)))
      replace HB := Aside0.mk (HB.out.trans (hS.below _ GEX2.out))
      replace X2 := Aside0.mk hS.here
      clear hS
      obtain ⟨w9, hs, hS⟩ := s_part (P := Tryd.prog) (t := 56) (l' := [.string (opS o_), .string (kdS k_), (fnV B1 o_ k_)]) X3.out 0 #[.string (opS o_), .string (kdS k_), (fnV B1 o_ k_)] rfl rfl direct_find.sz56 rfl
      refine ss F15 (run_guard rfl) rfl (r_store rfl (F15.ev rfl) (F15.ev rfl) hs) ?_
      clear hs
      replace X1 := Aside0.mk (hS.blk X1.out (blk_ne X1.out X3.out (by decide)))
      replace IT := Aside0.mk (iter_set IT.out X3.out (by decide) hS)
      replace X2 := Aside0.mk (hS.blk X2.out (blk_ne X2.out X3.out (by decide)))
      replace HB := Aside0.mk (HB.out.trans (hS.below _ GEX3.out))
      replace X3 := Aside0.mk hS.here
      clear hS
      refine c_end F15 ?_
      refine hK8 _ _ ?_
      refine wp_seq_k (fun K9 hK9 => ?_)
      cases hT1 : decide (2 < (l0.length : Int)) with
      | true =>
        cases hT2 : decide (0 < (l0.length : Int)) with
        | true =>
          obtain ⟨eb1, eo1, cs_, hi1, hk_, E1⟩ := e_at (P := Tryd.prog) (c := c0) (i := 0) (Kd.C_below HR0.out HB.out) (⟨#[]⟩ : ByteArray) (by omega) (of_decide_eq_true hT2) Tryd.underlying39 direct_find.sz9 (by decide)
          obtain rfl := K_scalar hk_
          replace hi1 := Aside0.mk hi1
          cases hT3 : ((l0.getD (0 : Int).toNat (⟨#[]⟩ : ByteArray)).toList == (opS o_).toList) with
          | true =>
            cases hT4 : decide (1 < (l0.length : Int)) with
            | true =>
              obtain ⟨eb2, eo2, cs_, hi2, hk_, E2⟩ := e_at (P := Tryd.prog) (c := c0) (i := 1) (Kd.C_below HR0.out HB.out) (⟨#[]⟩ : ByteArray) (by omega) (of_decide_eq_true hT4) Tryd.underlying39 direct_find.sz9 (by decide)
              obtain rfl := K_scalar hk_
              replace hi2 := Aside0.mk hi2
              refine start_ (n := 19) (S := fun _ => True) (ds := []) #[false, false, false, false, false, false, false, false, false, false, false, false, false, false, false, false, false, false, false] (by kernel_rfl) rfl rfl trivial (fun _ => ?_)
              refine with_tabW direct_find.tab4 direct_find.bits4 (fun HT_ HW_ => ?_)
              have hE := below_drew (Below.refl w9.heap.size w9)
              generalize w9.drew = w10 at hE ⊢
              replace X1 := Aside0.mk (blk_below X1.out hE)
              replace IT := Aside0.mk (iter_ext IT.out hE)
              replace X2 := Aside0.mk (blk_below X2.out hE)
              replace X3 := Aside0.mk (blk_below X3.out hE)
              replace E1 := Aside0.mk (range_below E1.out hE)
              replace E2 := Aside0.mk (range_below E2.out hE)
              replace HB := Aside0.mk (below_step HB.out hE)
              clear hE
              refine inv_at [0, 1, 2, 3, 4, 5, 6, 7, 8, 9, 10, 11, 12, 13, 14, 15, 16, 17, 18] (fun (a0_ : Act) (b : Nat → Bool) (a : Act) (w' : World) => FrB a 48 b [(0, .slice A0 l0.length c0), (2, .pointer (some ⟨b1, 0, none⟩)), (7, .pointer (some ⟨rg1, 0, none⟩)), (4, .pointer (some ⟨b2, 0, none⟩)), (5, .pointer (some ⟨b3, 0, none⟩))] [(0, 13, .slice A0 l0.length c0), (1, 14, .int .i64 (l0.length : Int)), (2, 15, .bool (decide (2 < (l0.length : Int)))), (3, 16, .bool (decide (2 < (l0.length : Int)))), (4, 17, .slice A0 l0.length c0), (5, 18, .pointer (some ⟨eb1, eo1, none⟩)), (6, 19, .string (l0.getD (0 : Int).toNat (⟨#[]⟩ : ByteArray))), (7, 20, .pointer (some ⟨b3, 0, none⟩)), (8, 21, .string (opS o_)), (9, 22, .bool ((l0.getD (0 : Int).toNat (⟨#[]⟩ : ByteArray)).toList == (opS o_).toList)), (10, 23, .bool ((l0.getD (0 : Int).toNat (⟨#[]⟩ : ByteArray)).toList == (opS o_).toList)), (11, 24, .bool ((l0.getD (0 : Int).toNat (⟨#[]⟩ : ByteArray)).toList == (opS o_).toList)), (12, 25, .slice A0 l0.length c0), (13, 26, .pointer (some ⟨eb2, eo2, none⟩)), (14, 27, .string (l0.getD (1 : Int).toNat (⟨#[]⟩ : ByteArray))), (15, 28, .pointer (some ⟨b3, 1, none⟩)), (16, 29, .string (kdS k_)), (17, 30, .bool ((l0.getD (1 : Int).toNat (⟨#[]⟩ : ByteArray)).toList == (kdS k_).toList)), (18, 31, .bool ((l0.getD (1 : Int).toNat (⟨#[]⟩ : ByteArray)).toList == (kdS k_).toList))] [] ∧ (Aside0 (Below w.heap.size w w')) ∧ (Aside0 (w'.heap[b1]? = some (.cells #[.int .i64 0, .int .i64 0, .int .i64 0, .int .i64 0, .int .i64 0, .int .i64 0, .int .i64 0, .int .i64 0, .int .i64 0, .int .i64 0, .int .i64 0, .int .i64 0, .int .i64 0] 38 (0, 0)))) ∧ (Aside0 (IterAt w' rg1 bm1 B1 (fun o k => ¬ findT l0 o k) m_ (some (o_, k_)))) ∧ (Aside0 (w'.heap[b2]? = some (.cells #[.int .i64 o_, .int .i64 k_] 60 (0, 0)))) ∧ (Aside0 (w'.heap[b3]? = some (.cells #[.string (opS o_), .string (kdS k_), (fnV B1 o_ k_)] 56 (0, 0)))) ∧ (Aside0 (w'.rangeAt eb1 eo1 [.string (l0.getD (0 : Int).toNat (⟨#[]⟩ : ByteArray))])) ∧ (Aside0 (w'.rangeAt eb2 eo2 [.string (l0.getD (1 : Int).toNat (⟨#[]⟩ : ByteArray))]))) HT_.out HW_.out (by kernel_rfl) (by kernel_rfl) ?_ ?_ ?_
              · exact ⟨FrB.start F15 ⟨rfl, rfl, rfl, rfl, rfl, trivial⟩ trivial, HB, X1, IT, X2, X3, E1, E2⟩
              · clear F15 HB X1 IT X2 X3 E1 E2 HT_ HW_
                refine steps_cons ?_ ?_
                · rintro b a w' ⟨hX, HB, X1, IT, X2, X3, E1, E2⟩ hb_ hon hoff
                  refine ⟨_, rfl, fun K hK => ?_⟩
                  have t0 : a.tmps[0]? = some (.slice A0 l0.length c0) := hX.t_in rfl
                  have e0 := eval_of t0
                  refine value_ (N := some 13) (v := .slice A0 l0.length c0) (run_guard rfl) rfl (r_move rfl e0) ?_
                  refine hK.out _ _ ⟨(hX.put 0 hb_ rfl rfl rfl rfl rfl rfl), HB, X1, IT, X2, X3, E1, E2⟩
                refine steps_cons ?_ ?_
                · rintro b a w' ⟨hX, HB, X1, IT, X2, X3, E1, E2⟩ hb_ hon hoff
                  refine ⟨_, rfl, fun K hK => ?_⟩
                  have t13 := hX.t_on 0 rfl (hon 0 (by kernel_rfl))
                  have e13 := eval_of t13
                  refine value_ (N := some 14) (v := .int .i64 (l0.length : Int)) (run_guard rfl) rfl (r_len rfl rfl Tryd.underlying39 e13) ?_
                  refine hK.out _ _ ⟨(hX.put 1 hb_ rfl rfl rfl rfl rfl rfl), HB, X1, IT, X2, X3, E1, E2⟩
                refine steps_cons ?_ ?_
                · rintro b a w' ⟨hX, HB, X1, IT, X2, X3, E1, E2⟩ hb_ hon hoff
                  refine ⟨_, rfl, fun K hK => ?_⟩
                  have t14 := hX.t_on 1 rfl (hon 1 (by kernel_rfl))
                  have e14 := eval_of t14
                  refine value_ (N := some 15) (v := .bool (decide (2 < (l0.length : Int)))) (run_guard rfl) rfl (r_gtr rfl e14 ev_c) ?_
                  refine hK.out _ _ ⟨(hX.put 2 hb_ rfl rfl rfl rfl rfl rfl), HB, X1, IT, X2, X3, E1, E2⟩
                refine steps_cons ?_ ?_
                · rintro b a w' ⟨hX, HB, X1, IT, X2, X3, E1, E2⟩ hb_ hon hoff
                  refine ⟨_, rfl, fun K hK => ?_⟩
                  have t15 := hX.t_on 2 rfl (hon 2 (by kernel_rfl))
                  have e15 := eval_of t15
                  refine value_ (N := some 16) (v := .bool (decide (2 < (l0.length : Int)))) (run_guard rfl) rfl (r_move rfl e15) ?_
                  refine hK.out _ _ ⟨(hX.put 3 hb_ rfl rfl rfl rfl rfl rfl), HB, X1, IT, X2, X3, E1, E2⟩
                refine steps_cons ?_ ?_
                · rintro b a w' ⟨hX, HB, X1, IT, X2, X3, E1, E2⟩ hb_ hon hoff
                  refine ⟨_, rfl, fun K hK => ?_⟩
                  have t0 : a.tmps[0]? = some (.slice A0 l0.length c0) := hX.t_in rfl
                  have e0 := eval_of t0
                  have t16 := hX.t_on 3 rfl (hon 3 (by kernel_rfl))
                  have e16 := eval_of t16
                  refine value_ (N := some 17) (v := .slice A0 l0.length c0) (wanted_on rfl rfl rfl (lkt t16 hT1)) rfl (r_move rfl e0) ?_
                  refine hK.out _ _ ⟨(hX.put 4 hb_ rfl rfl rfl rfl rfl rfl), HB, X1, IT, X2, X3, E1, E2⟩
                refine steps_cons ?_ ?_
                · rintro b a w' ⟨hX, HB, X1, IT, X2, X3, E1, E2⟩ hb_ hon hoff
                  refine ⟨_, rfl, fun K hK => ?_⟩
                  have t17 := hX.t_on 4 rfl (hon 4 (by kernel_rfl))
                  have e17 := eval_of t17
                  have t16 := hX.t_on 3 rfl (hon 3 (by kernel_rfl))
                  have e16 := eval_of t16
                  refine value_ (N := some 18) (v := .pointer (some ⟨eb1, eo1, none⟩)) (wanted_on rfl rfl rfl (lkt t16 hT1)) rfl (r_indexAddr rfl e17 ev_c (hi1.out _)) ?_
                  refine hK.out _ _ ⟨(hX.put 5 hb_ rfl rfl rfl rfl rfl rfl), HB, X1, IT, X2, X3, E1, E2⟩
                refine steps_cons ?_ ?_
                · rintro b a w' ⟨hX, HB, X1, IT, X2, X3, E1, E2⟩ hb_ hon hoff
                  refine ⟨_, rfl, fun K hK => ?_⟩
                  have t18 := hX.t_on 5 rfl (hon 5 (by kernel_rfl))
                  have e18 := eval_of t18
                  have t16 := hX.t_on 3 rfl (hon 3 (by kernel_rfl))
                  have e16 := eval_of t16
                  refine value_ (N := some 19) (v := .string (l0.getD (0 : Int).toNat (⟨#[]⟩ : ByteArray))) (wanted_on rfl rfl rfl (lkt t16 hT1)) rfl (r_load rfl e18 (l_cell E1.out 0 rfl (agg_no Tryd.underlying9 rfl))) ?_
                  refine hK.out _ _ ⟨(hX.put 6 hb_ rfl rfl rfl rfl rfl rfl), HB, X1, IT, X2, X3, E1, E2⟩
                refine steps_cons ?_ ?_
                · rintro b a w' ⟨hX, HB, X1, IT, X2, X3, E1, E2⟩ hb_ hon hoff
                  refine ⟨_, rfl, fun K hK => ?_⟩
                  have t5 : a.tmps[5]? = some (.pointer (some ⟨b3, 0, none⟩)) := hX.t_in rfl
                  have e5 := eval_of t5
                  have t16 := hX.t_on 3 rfl (hon 3 (by kernel_rfl))
                  have e16 := eval_of t16
                  refine value_ (N := some 20) (v := .pointer (some ⟨b3, 0, none⟩)) (wanted_on rfl rfl rfl (lkt t16 hT1)) rfl (r_fieldAddr rfl e5 (direct_find.fa56_0 _ _ _)) ?_
                  refine hK.out _ _ ⟨(hX.put 7 hb_ rfl rfl rfl rfl rfl rfl), HB, X1, IT, X2, X3, E1, E2⟩
                refine steps_cons ?_ ?_
                · rintro b a w' ⟨hX, HB, X1, IT, X2, X3, E1, E2⟩ hb_ hon hoff
                  refine ⟨_, rfl, fun K hK => ?_⟩
                  have t20 := hX.t_on 7 rfl (hon 7 (by kernel_rfl))
                  have e20 := eval_of t20
                  have t16 := hX.t_on 3 rfl (hon 3 (by kernel_rfl))
                  have e16 := eval_of t16
                  refine value_ (N := some 21) (v := .string (opS o_)) (wanted_on rfl rfl rfl (lkt t16 hT1)) rfl (r_load rfl e20 (l_one X3.out 0 rfl (agg_no Tryd.underlying9 rfl))) ?_
                  refine hK.out _ _ ⟨(hX.put 8 hb_ rfl rfl rfl rfl rfl rfl), HB, X1, IT, X2, X3, E1, E2⟩
                refine steps_cons ?_ ?_
                · rintro b a w' ⟨hX, HB, X1, IT, X2, X3, E1, E2⟩ hb_ hon hoff
                  refine ⟨_, rfl, fun K hK => ?_⟩
                  have t19 := hX.t_on 6 rfl (hon 6 (by kernel_rfl))
                  have e19 := eval_of t19
                  have t21 := hX.t_on 8 rfl (hon 8 (by kernel_rfl))
                  have e21 := eval_of t21
                  have t16 := hX.t_on 3 rfl (hon 3 (by kernel_rfl))
                  have e16 := eval_of t16
                  refine value_ (N := some 22) (v := .bool ((l0.getD (0 : Int).toNat (⟨#[]⟩ : ByteArray)).toList == (opS o_).toList)) (wanted_on rfl rfl rfl (lkt t16 hT1)) rfl (r_seq rfl e19 e21) ?_
                  refine hK.out _ _ ⟨(hX.put 9 hb_ rfl rfl rfl rfl rfl rfl), HB, X1, IT, X2, X3, E1, E2⟩
                refine steps_cons ?_ ?_
                · rintro b a w' ⟨hX, HB, X1, IT, X2, X3, E1, E2⟩ hb_ hon hoff
                  refine ⟨_, rfl, fun K hK => ?_⟩
                  have t16 := hX.t_on 3 rfl (hon 3 (by kernel_rfl))
                  have e16 := eval_of t16
                  have t22 := hX.t_on 9 rfl (hon 9 (by kernel_rfl))
                  have e22 := eval_of t22
                  refine value_ (N := some 23) (v := .bool ((l0.getD (0 : Int).toNat (⟨#[]⟩ : ByteArray)).toList == (opS o_).toList)) (run_guard rfl) rfl (r_pick_t rfl (e16.trans (congrArg Value.bool hT1)) e22) ?_
                  refine hK.out _ _ ⟨(hX.put 10 hb_ rfl rfl rfl rfl rfl rfl), HB, X1, IT, X2, X3, E1, E2⟩
                refine steps_cons ?_ ?_
                · rintro b a w' ⟨hX, HB, X1, IT, X2, X3, E1, E2⟩ hb_ hon hoff
                  refine ⟨_, rfl, fun K hK => ?_⟩
                  have t23 := hX.t_on 10 rfl (hon 10 (by kernel_rfl))
                  have e23 := eval_of t23
                  refine value_ (N := some 24) (v := .bool ((l0.getD (0 : Int).toNat (⟨#[]⟩ : ByteArray)).toList == (opS o_).toList)) (run_guard rfl) rfl (r_move rfl e23) ?_
                  refine hK.out _ _ ⟨(hX.put 11 hb_ rfl rfl rfl rfl rfl rfl), HB, X1, IT, X2, X3, E1, E2⟩
                refine steps_cons ?_ ?_
                · rintro b a w' ⟨hX, HB, X1, IT, X2, X3, E1, E2⟩ hb_ hon hoff
                  refine ⟨_, rfl, fun K hK => ?_⟩
                  have t0 : a.tmps[0]? = some (.slice A0 l0.length c0) := hX.t_in rfl
                  have e0 := eval_of t0
                  have t24 := hX.t_on 11 rfl (hon 11 (by kernel_rfl))
                  have e24 := eval_of t24
                  refine value_ (N := some 25) (v := .slice A0 l0.length c0) (wanted_on rfl rfl rfl (lkt t24 hT3)) rfl (r_move rfl e0) ?_
                  refine hK.out _ _ ⟨(hX.put 12 hb_ rfl rfl rfl rfl rfl rfl), HB, X1, IT, X2, X3, E1, E2⟩
                refine steps_cons ?_ ?_
                · rintro b a w' ⟨hX, HB, X1, IT, X2, X3, E1, E2⟩ hb_ hon hoff
                  refine ⟨_, rfl, fun K hK => ?_⟩
                  have t25 := hX.t_on 12 rfl (hon 12 (by kernel_rfl))
                  have e25 := eval_of t25
                  have t24 := hX.t_on 11 rfl (hon 11 (by kernel_rfl))
                  have e24 := eval_of t24
                  refine value_ (N := some 26) (v := .pointer (some ⟨eb2, eo2, none⟩)) (wanted_on rfl rfl rfl (lkt t24 hT3)) rfl (r_indexAddr rfl e25 ev_c (hi2.out _)) ?_
                  refine hK.out _ _ ⟨(hX.put 13 hb_ rfl rfl rfl rfl rfl rfl), HB, X1, IT, X2, X3, E1, E2⟩
                refine steps_cons ?_ ?_
                · rintro b a w' ⟨hX, HB, X1, IT, X2, X3, E1, E2⟩ hb_ hon hoff
                  refine ⟨_, rfl, fun K hK => ?_⟩
                  have t26 := hX.t_on 13 rfl (hon 13 (by kernel_rfl))
                  have e26 := eval_of t26
                  have t24 := hX.t_on 11 rfl (hon 11 (by kernel_rfl))
                  have e24 := eval_of t24
                  refine value_ (N := some 27) (v := .string (l0.getD (1 : Int).toNat (⟨#[]⟩ : ByteArray))) (wanted_on rfl rfl rfl (lkt t24 hT3)) rfl (r_load rfl e26 (l_cell E2.out 0 rfl (agg_no Tryd.underlying9 rfl))) ?_
                  refine hK.out _ _ ⟨(hX.put 14 hb_ rfl rfl rfl rfl rfl rfl), HB, X1, IT, X2, X3, E1, E2⟩
                refine steps_cons ?_ ?_
                · rintro b a w' ⟨hX, HB, X1, IT, X2, X3, E1, E2⟩ hb_ hon hoff
                  refine ⟨_, rfl, fun K hK => ?_⟩
                  have t5 : a.tmps[5]? = some (.pointer (some ⟨b3, 0, none⟩)) := hX.t_in rfl
                  have e5 := eval_of t5
                  have t24 := hX.t_on 11 rfl (hon 11 (by kernel_rfl))
                  have e24 := eval_of t24
                  refine value_ (N := some 28) (v := .pointer (some ⟨b3, 1, none⟩)) (wanted_on rfl rfl rfl (lkt t24 hT3)) rfl (r_fieldAddr rfl e5 (direct_find.fa56_1 _ _ _)) ?_
                  refine hK.out _ _ ⟨(hX.put 15 hb_ rfl rfl rfl rfl rfl rfl), HB, X1, IT, X2, X3, E1, E2⟩
                refine steps_cons ?_ ?_
                · rintro b a w' ⟨hX, HB, X1, IT, X2, X3, E1, E2⟩ hb_ hon hoff
                  refine ⟨_, rfl, fun K hK => ?_⟩
                  have t28 := hX.t_on 15 rfl (hon 15 (by kernel_rfl))
                  have e28 := eval_of t28
                  have t24 := hX.t_on 11 rfl (hon 11 (by kernel_rfl))
                  have e24 := eval_of t24
                  refine value_ (N := some 29) (v := .string (kdS k_)) (wanted_on rfl rfl rfl (lkt t24 hT3)) rfl (r_load rfl e28 (l_one X3.out 1 rfl (agg_no Tryd.underlying9 rfl))) ?_
                  refine hK.out _ _ ⟨(hX.put 16 hb_ rfl rfl rfl rfl rfl rfl), HB, X1, IT, X2, X3, E1, E2⟩
                refine steps_cons ?_ ?_
                · rintro b a w' ⟨hX, HB, X1, IT, X2, X3, E1, E2⟩ hb_ hon hoff
                  refine ⟨_, rfl, fun K hK => ?_⟩
                  have t27 := hX.t_on 14 rfl (hon 14 (by kernel_rfl))
                  have e27 := eval_of t27
                  have t29 := hX.t_on 16 rfl (hon 16 (by kernel_rfl))
                  have e29 := eval_of t29
                  have t24 := hX.t_on 11 rfl (hon 11 (by kernel_rfl))
                  have e24 := eval_of t24
                  refine value_ (N := some 30) (v := .bool ((l0.getD (1 : Int).toNat (⟨#[]⟩ : ByteArray)).toList == (kdS k_).toList)) (wanted_on rfl rfl rfl (lkt t24 hT3)) rfl (r_seq rfl e27 e29) ?_
                  refine hK.out _ _ ⟨(hX.put 17 hb_ rfl rfl rfl rfl rfl rfl), HB, X1, IT, X2, X3, E1, E2⟩
                refine steps_cons ?_ ?_
                · rintro b a w' ⟨hX, HB, X1, IT, X2, X3, E1, E2⟩ hb_ hon hoff
                  refine ⟨_, rfl, fun K hK => ?_⟩
                  have t24 := hX.t_on 11 rfl (hon 11 (by kernel_rfl))
                  have e24 := eval_of t24
                  have t30 := hX.t_on 17 rfl (hon 17 (by kernel_rfl))
                  have e30 := eval_of t30
                  refine value_ (N := some 31) (v := .bool ((l0.getD (1 : Int).toNat (⟨#[]⟩ : ByteArray)).toList == (kdS k_).toList)) (run_guard rfl) rfl (r_pick_t rfl (e24.trans (congrArg Value.bool hT3)) e30) ?_
                  refine hK.out _ _ ⟨(hX.put 18 hb_ rfl rfl rfl rfl rfl rfl), HB, X1, IT, X2, X3, E1, E2⟩
                exact steps_nil
              · rintro b ac16 w11 hall ⟨hX, HB, X1, IT, X2, X3, E1, E2⟩
                have F16 := hX.done (all_of hall rfl) (L' := [(13, .slice A0 l0.length c0), (14, .int .i64 (l0.length : Int)), (15, .bool (decide (2 < (l0.length : Int)))), (16, .bool (decide (2 < (l0.length : Int)))), (17, .slice A0 l0.length c0), (18, .pointer (some ⟨eb1, eo1, none⟩)), (19, .string (l0.getD (0 : Int).toNat (⟨#[]⟩ : ByteArray))), (20, .pointer (some ⟨b3, 0, none⟩)), (21, .string (opS o_)), (22, .bool ((l0.getD (0 : Int).toNat (⟨#[]⟩ : ByteArray)).toList == (opS o_).toList)), (23, .bool ((l0.getD (0 : Int).toNat (⟨#[]⟩ : ByteArray)).toList == (opS o_).toList)), (24, .bool ((l0.getD (0 : Int).toNat (⟨#[]⟩ : ByteArray)).toList == (opS o_).toList)), (25, .slice A0 l0.length c0), (26, .pointer (some ⟨eb2, eo2, none⟩)), (27, .string (l0.getD (1 : Int).toNat (⟨#[]⟩ : ByteArray))), (28, .pointer (some ⟨b3, 1, none⟩)), (29, .string (kdS k_)), (30, .bool ((l0.getD (1 : Int).toNat (⟨#[]⟩ : ByteArray)).toList == (kdS k_).toList)), (31, .bool ((l0.getD (1 : Int).toNat (⟨#[]⟩ : ByteArray)).toList == (kdS k_).toList)), (0, .slice A0 l0.length c0), (2, .pointer (some ⟨b1, 0, none⟩)), (7, .pointer (some ⟨rg1, 0, none⟩)), (4, .pointer (some ⟨b2, 0, none⟩)), (5, .pointer (some ⟨b3, 0, none⟩))]) rfl
                clear hX
                clear hall
                clear E1 E2 hi1 hi2
                refine hK9 _ _ ?_
                cases hT5 : ((l0.getD (1 : Int).toNat (⟨#[]⟩ : ByteArray)).toList == (kdS k_).toList) with
                | true =>
                  refine wp_cond_true (F16.ev (lk rfl hT5)) ?_
                  refine wp_seq_k (fun K10 hK10 => ?_)
                  refine start_ (n := 8) (S := fun _ => True) (ds := []) #[false, false, false, false, false, false, false, false] (by kernel_rfl) rfl rfl trivial (fun _ => ?_)
                  refine with_tabW direct_find.tab5 direct_find.bits5 (fun HT_ HW_ => ?_)
                  have hE := below_drew (Below.refl w11.heap.size w11)
                  generalize w11.drew = w12 at hE ⊢
                  replace X1 := Aside0.mk (blk_below X1.out hE)
                  replace IT := Aside0.mk (iter_ext IT.out hE)
                  replace X2 := Aside0.mk (blk_below X2.out hE)
                  replace X3 := Aside0.mk (blk_below X3.out hE)
                  replace HB := Aside0.mk (below_step HB.out hE)
                  clear hE
                  refine inv_at [0, 1, 2, 3, 4, 5, 6, 7] (fun (a0_ : Act) (b : Nat → Bool) (a : Act) (w' : World) => FrB a 48 b [(0, .slice A0 l0.length c0), (2, .pointer (some ⟨b1, 0, none⟩)), (4, .pointer (some ⟨b2, 0, none⟩)), (5, .pointer (some ⟨b3, 0, none⟩))] [(0, 32, .pointer (some ⟨b2, 0, none⟩)), (1, 33, .int .i64 o_), (2, 34, .pointer (some ⟨b2, 1, none⟩)), (3, 35, .int .i64 k_), (4, 36, .pointer (some ⟨b1, 0, none⟩)), (6, 37, .pointer (some ⟨b1, 1, none⟩))] [] ∧ (Aside0 (Below w.heap.size w w')) ∧ (Aside0 (IterAt w' rg1 bm1 B1 (fun o k => ¬ findT l0 o k) m_ (some (o_, k_)))) ∧ (Aside0 (w'.heap[b2]? = some (.cells #[.int .i64 o_, .int .i64 k_] 60 (0, 0)))) ∧ (Aside0 (w'.heap[b3]? = some (.cells #[.string (opS o_), .string (kdS k_), (fnV B1 o_ k_)] 56 (0, 0)))) ∧ (b 5 = false → Aside0 (w'.heap[b1]? = some (.cells #[.int .i64 0, .int .i64 0, .int .i64 0, .int .i64 0, .int .i64 0, .int .i64 0, .int .i64 0, .int .i64 0, .int .i64 0, .int .i64 0, .int .i64 0, .int .i64 0, .int .i64 0] 38 (0, 0)))) ∧ (b 5 = true → b 7 = false → Aside0 (w'.heap[b1]? = some (.cells #[.int .i64 o_, .int .i64 0, .int .i64 0, .int .i64 0, .int .i64 0, .int .i64 0, .int .i64 0, .int .i64 0, .int .i64 0, .int .i64 0, .int .i64 0, .int .i64 0, .int .i64 0] 38 (0, 0)))) ∧ (b 7 = true → Aside0 (w'.heap[b1]? = some (.cells #[.int .i64 o_, .int .i64 k_, .int .i64 0, .int .i64 0, .int .i64 0, .int .i64 0, .int .i64 0, .int .i64 0, .int .i64 0, .int .i64 0, .int .i64 0, .int .i64 0, .int .i64 0] 38 (0, 0))))) HT_.out HW_.out (by kernel_rfl) (by kernel_rfl) ?_ ?_ ?_
                  · exact ⟨FrB.start F16 ⟨rfl, rfl, rfl, rfl, trivial⟩ trivial, HB, IT, X2, X3, (fun _ => X1), (fun h_ => by cases h_), (fun h_ => by cases h_)⟩
                  · clear F16 HB IT X2 X3 X1 HT_ HW_
                    refine steps_cons ?_ ?_
                    · rintro b a w' ⟨hX, HB, IT, X2, X3, X1_v0, X1_v1, X1⟩ hb_ hon hoff
                      refine ⟨_, rfl, fun K hK => ?_⟩
                      have t4 : a.tmps[4]? = some (.pointer (some ⟨b2, 0, none⟩)) := hX.t_in rfl
                      have e4 := eval_of t4
                      have X1_v0' := X1_v0 (hoff 5 (by kernel_rfl))
                      refine value_ (N := some 32) (v := .pointer (some ⟨b2, 0, none⟩)) (run_guard rfl) rfl (r_fieldAddr rfl e4 (direct_find.fa60_0 _ _ _)) ?_
                      refine hK.out _ _ ⟨(hX.put 0 hb_ rfl rfl rfl rfl rfl rfl), HB, IT, X2, X3, (fun h0_ => (X1_v0 (by rwa [up_ne (by decide)] at h0_))), (fun h0_ h1_ => by rw [up_ne (by decide), hoff 5 (by kernel_rfl)] at h0_; cases h0_), (fun h0_ => by rw [up_ne (by decide), hoff 7 (by kernel_rfl)] at h0_; cases h0_)⟩
                    refine steps_cons ?_ ?_
                    · rintro b a w' ⟨hX, HB, IT, X2, X3, X1_v0, X1_v1, X1⟩ hb_ hon hoff
                      refine ⟨_, rfl, fun K hK => ?_⟩
                      have t32 := hX.t_on 0 rfl (hon 0 (by kernel_rfl))
                      have e32 := eval_of t32
                      have X1_v0' := X1_v0 (hoff 5 (by kernel_rfl))
                      refine value_ (N := some 33) (v := .int .i64 o_) (run_guard rfl) rfl (r_load rfl e32 (l_one X2.out 0 rfl (agg_no Tryd.underlying3 rfl))) ?_
                      refine hK.out _ _ ⟨(hX.put 1 hb_ rfl rfl rfl rfl rfl rfl), HB, IT, X2, X3, (fun h0_ => (X1_v0 (by rwa [up_ne (by decide)] at h0_))), (fun h0_ h1_ => by rw [up_ne (by decide), hoff 5 (by kernel_rfl)] at h0_; cases h0_), (fun h0_ => by rw [up_ne (by decide), hoff 7 (by kernel_rfl)] at h0_; cases h0_)⟩
                    refine steps_cons ?_ ?_
                    · rintro b a w' ⟨hX, HB, IT, X2, X3, X1_v0, X1_v1, X1⟩ hb_ hon hoff
                      refine ⟨_, rfl, fun K hK => ?_⟩
                      have t4 : a.tmps[4]? = some (.pointer (some ⟨b2, 0, none⟩)) := hX.t_in rfl
                      have e4 := eval_of t4
                      refine value_ (N := some 34) (v := .pointer (some ⟨b2, 1, none⟩)) (run_guard rfl) rfl (r_fieldAddr rfl e4 (direct_find.fa60_1 _ _ _)) ?_
                      refine hK.out _ _ ⟨(hX.put 2 hb_ rfl rfl rfl rfl rfl rfl), HB, IT, X2, X3, (fun h0_ => (X1_v0 (by rwa [up_ne (by decide)] at h0_))), (fun h0_ h1_ => (X1_v1 (by rwa [up_ne (by decide)] at h0_) (by rwa [up_ne (by decide)] at h1_))), (fun h0_ => by rw [up_ne (by decide), hoff 7 (by kernel_rfl)] at h0_; cases h0_)⟩
                    refine steps_cons ?_ ?_
                    · rintro b a w' ⟨hX, HB, IT, X2, X3, X1_v0, X1_v1, X1⟩ hb_ hon hoff
                      refine ⟨_, rfl, fun K hK => ?_⟩
                      have t34 := hX.t_on 2 rfl (hon 2 (by kernel_rfl))
                      have e34 := eval_of t34
                      refine value_ (N := some 35) (v := .int .i64 k_) (run_guard rfl) rfl (r_load rfl e34 (l_one X2.out 1 rfl (agg_no Tryd.underlying3 rfl))) ?_
                      refine hK.out _ _ ⟨(hX.put 3 hb_ rfl rfl rfl rfl rfl rfl), HB, IT, X2, X3, (fun h0_ => (X1_v0 (by rwa [up_ne (by decide)] at h0_))), (fun h0_ h1_ => (X1_v1 (by rwa [up_ne (by decide)] at h0_) (by rwa [up_ne (by decide)] at h1_))), (fun h0_ => by rw [up_ne (by decide), hoff 7 (by kernel_rfl)] at h0_; cases h0_)⟩
                    refine steps_cons ?_ ?_
                    · rintro b a w' ⟨hX, HB, IT, X2, X3, X1_v0, X1_v1, X1⟩ hb_ hon hoff
                      refine ⟨_, rfl, fun K hK => ?_⟩
                      have t2 : a.tmps[2]? = some (.pointer (some ⟨b1, 0, none⟩)) := hX.t_in rfl
                      have e2 := eval_of t2
                      have X1_v0' := X1_v0 (hoff 5 (by kernel_rfl))
                      refine value_ (N := some 36) (v := .pointer (some ⟨b1, 0, none⟩)) (run_guard rfl) rfl (r_fieldAddr rfl e2 (direct_find.fa38_0 _ _ _)) ?_
                      refine hK.out _ _ ⟨(hX.put 4 hb_ rfl rfl rfl rfl rfl rfl), HB, IT, X2, X3, (fun h0_ => (X1_v0 (by rwa [up_ne (by decide)] at h0_))), (fun h0_ h1_ => by rw [up_ne (by decide), hoff 5 (by kernel_rfl)] at h0_; cases h0_), (fun h0_ => by rw [up_ne (by decide), hoff 7 (by kernel_rfl)] at h0_; cases h0_)⟩
                    refine steps_cons ?_ ?_
                    · rintro b a w' ⟨hX, HB, IT, X2, X3, X1_v0, X1_v1, X1⟩ hb_ hon hoff
                      refine ⟨_, rfl, fun K hK => ?_⟩
                      have t36 := hX.t_on 4 rfl (hon 4 (by kernel_rfl))
                      have e36 := eval_of t36
                      have t33 := hX.t_on 1 rfl (hon 1 (by kernel_rfl))
                      have e33 := eval_of t33
                      have X1_v0' := X1_v0 hb_
                      obtain ⟨w1, hs, hS⟩ := s_one (P := Tryd.prog) (t := 3) (v := .int .i64 o_) (cs' := #[.int .i64 o_, .int .i64 0, .int .i64 0, .int .i64 0, .int .i64 0, .int .i64 0, .int .i64 0, .int .i64 0, .int .i64 0, .int .i64 0, .int .i64 0, .int .i64 0, .int .i64 0]) X1_v0'.out 0 rfl rfl (fun W hc hf => x_store_int _ _ _ W Tryd.underlying3 direct_find.sz3 hc hf)
                      refine skip_ (run_guard rfl) rfl (r_store rfl e36 e33 hs) ?_
                      refine hK.out _ _ ⟨(hX.none rfl undef), ⟨HB.out.trans (hS.below _ GEX1.out)⟩, ⟨iter_set IT.out X1_v0'.out (by decide) hS⟩, ⟨hS.blk X2.out (blk_ne X2.out X1_v0'.out (by decide))⟩, ⟨hS.blk X3.out (blk_ne X3.out X1_v0'.out (by decide))⟩, (fun h0_ => by rw [up_self] at h0_; cases h0_), (fun h0_ h1_ => ⟨hS.here⟩), (fun h0_ => by rw [up_ne (by decide), hoff 7 (by kernel_rfl)] at h0_; cases h0_)⟩
                    refine steps_cons ?_ ?_
                    · rintro b a w' ⟨hX, HB, IT, X2, X3, X1_v0, X1_v1, X1⟩ hb_ hon hoff
                      refine ⟨_, rfl, fun K hK => ?_⟩
                      have t2 : a.tmps[2]? = some (.pointer (some ⟨b1, 0, none⟩)) := hX.t_in rfl
                      have e2 := eval_of t2
                      have X1_v1' := X1_v1 (hon 5 (by kernel_rfl)) (hoff 7 (by kernel_rfl))
                      refine value_ (N := some 37) (v := .pointer (some ⟨b1, 1, none⟩)) (run_guard rfl) rfl (r_fieldAddr rfl e2 (direct_find.fa38_1 _ _ _)) ?_
                      refine hK.out _ _ ⟨(hX.put 5 hb_ rfl rfl rfl rfl rfl rfl), HB, IT, X2, X3, (fun h0_ => by rw [up_ne (by decide), hon 5 (by kernel_rfl)] at h0_; cases h0_), (fun h0_ h1_ => (X1_v1 (by rwa [up_ne (by decide)] at h0_) (by rwa [up_ne (by decide)] at h1_))), (fun h0_ => by rw [up_ne (by decide), hoff 7 (by kernel_rfl)] at h0_; cases h0_)⟩
                    refine steps_cons ?_ ?_
                    · rintro b a w' ⟨hX, HB, IT, X2, X3, X1_v0, X1_v1, X1⟩ hb_ hon hoff
                      refine ⟨_, rfl, fun K hK => ?_⟩
                      have t37 := hX.t_on 5 rfl (hon 6 (by kernel_rfl))
                      have e37 := eval_of t37
                      have t35 := hX.t_on 3 rfl (hon 3 (by kernel_rfl))
                      have e35 := eval_of t35
                      have X1_v1' := X1_v1 (hon 5 (by kernel_rfl)) hb_
                      obtain ⟨w1, hs, hS⟩ := s_one (P := Tryd.prog) (t := 3) (v := .int .i64 k_) (cs' := #[.int .i64 o_, .int .i64 k_, .int .i64 0, .int .i64 0, .int .i64 0, .int .i64 0, .int .i64 0, .int .i64 0, .int .i64 0, .int .i64 0, .int .i64 0, .int .i64 0, .int .i64 0]) X1_v1'.out 1 rfl rfl (fun W hc hf => x_store_int _ _ _ W Tryd.underlying3 direct_find.sz3 hc hf)
                      refine skip_ (run_guard rfl) rfl (r_store rfl e37 e35 hs) ?_
                      refine hK.out _ _ ⟨(hX.none rfl undef), ⟨HB.out.trans (hS.below _ GEX1.out)⟩, ⟨iter_set IT.out X1_v1'.out (by decide) hS⟩, ⟨hS.blk X2.out (blk_ne X2.out X1_v1'.out (by decide))⟩, ⟨hS.blk X3.out (blk_ne X3.out X1_v1'.out (by decide))⟩, (fun h0_ => by rw [up_ne (by decide), hon 5 (by kernel_rfl)] at h0_; cases h0_), (fun h0_ h1_ => by rw [up_self] at h1_; cases h1_), (fun h0_ => ⟨hS.here⟩)⟩
                    exact steps_nil
                  · rintro b ac17 w13 hall ⟨hX, HB, IT, X2, X3, X1_v0, X1_v1, X1⟩
                    have F17 := hX.done (all_of hall rfl) (L' := [(32, .pointer (some ⟨b2, 0, none⟩)), (33, .int .i64 o_), (34, .pointer (some ⟨b2, 1, none⟩)), (35, .int .i64 k_), (36, .pointer (some ⟨b1, 0, none⟩)), (37, .pointer (some ⟨b1, 1, none⟩)), (0, .slice A0 l0.length c0), (2, .pointer (some ⟨b1, 0, none⟩)), (4, .pointer (some ⟨b2, 0, none⟩)), (5, .pointer (some ⟨b3, 0, none⟩))]) rfl
                    clear hX
                    clear X1_v0
                    clear X1_v1
                    replace X1 := X1 (hall 7 rfl)
                    clear hall
                    refine hK10 _ _ ?_
                    refine wp_seq_k (fun K11 hK11 => ?_)
                    clear X2
                    refine start_ (n := 11) (S := fun _ => True) (ds := []) #[false, false, false, false, false, false, false, false, false, false, false] (by kernel_rfl) rfl rfl trivial (fun _ => ?_)
                    refine with_tabW direct_find.tab6 direct_find.bits6 (fun HT_ HW_ => ?_)
                    have hE := below_drew (Below.refl w13.heap.size w13)
                    generalize w13.drew = w14 at hE ⊢
                    replace X1 := Aside0.mk (blk_below X1.out hE)
                    replace IT := Aside0.mk (iter_ext IT.out hE)
                    replace X3 := Aside0.mk (blk_below X3.out hE)
                    replace HB := Aside0.mk (below_step HB.out hE)
                    clear hE
                    refine inv_at [0, 1, 2, 3, 4, 5, 6, 7, 8, 9, 10] (fun (a0_ : Act) (b : Nat → Bool) (a : Act) (w' : World) => ∃ Aq1 : Option Addr, ∃ cq1 : Nat, FrB a 48 b [(0, .slice A0 l0.length c0), (2, .pointer (some ⟨b1, 0, none⟩)), (5, .pointer (some ⟨b3, 0, none⟩))] [(0, 38, .agg #[.int .i64 o_, .int .i64 k_, .int .i64 0, .int .i64 0, .int .i64 0, .int .i64 0, .int .i64 0, .int .i64 0, .int .i64 0, .int .i64 0, .int .i64 0, .int .i64 0, .int .i64 0]), (1, 39, .slice A0 l0.length c0), (2, 40, .int .i64 (l0.length : Int)), (3, 41, .pointer (some ⟨b3, 2, none⟩)), (4, 42, (fnV B1 o_ k_)), (5, 43, .slice Aq1 ((offs o_ k_).length) cq1), (6, 44, .int .i64 ((offs o_ k_).length : Int)), (7, 45, .int .i64 (wrap64 (2 + ((offs o_ k_).length : Int)))), (8, 46, .bool (decide ((l0.length : Int) = (wrap64 (2 + ((offs o_ k_).length : Int)))))), (10, 3, .bool (decide ((l0.length : Int) = (wrap64 (2 + ((offs o_ k_).length : Int))))))] [] ∧ (Aside0 (Below w.heap.size w w')) ∧ (Aside0 (IterAt w' rg1 bm1 B1 (fun o k => ¬ findT l0 o k) m_ (some (o_, k_)))) ∧ (Aside0 (w'.heap[b3]? = some (.cells #[.string (opS o_), .string (kdS k_), (fnV B1 o_ k_)] 56 (0, 0)))) ∧ (b 9 = false → Aside0 (w'.heap[b1]? = some (.cells #[.int .i64 o_, .int .i64 k_, .int .i64 0, .int .i64 0, .int .i64 0, .int .i64 0, .int .i64 0, .int .i64 0, .int .i64 0, .int .i64 0, .int .i64 0, .int .i64 0, .int .i64 0] 38 (0, 0)))) ∧ (b 9 = true → Aside0 (w'.heap[b1]? = some (.cells #[.int .i64 o_, .int .i64 k_, .int .i64 0, .int .i64 0, .int .i64 0, .int .i64 0, .int .i64 0, .int .i64 0, .int .i64 0, .int .i64 0, .int .i64 0, .int .i64 0, .int .i64 0] 38 (0, 0)))) ∧ (b 5 = true → Aside0 (Kd.R (kP b1) 63 w' w.heap.size (fun _ => True) (.slice Aq1 ((offs o_ k_).length) cq1) (offs o_ k_)))) HT_.out HW_.out (by kernel_rfl) (by kernel_rfl) ?_ ?_ ?_
                    · exact ⟨none, 0, FrB.start F17 ⟨rfl, rfl, rfl, trivial⟩ trivial, HB, IT, X3, (fun _ => X1), (fun h_ => by cases h_), (fun h_ => by cases h_)⟩
                    · clear F17 HB IT X3 X1 HT_ HW_
                      refine steps_cons ?_ ?_
                      · rintro b a w' ⟨Aq1, cq1, hX, HB, IT, X3, X1_v0, X1, R1⟩ hb_ hon hoff
                        refine ⟨_, rfl, fun K hK => ?_⟩
                        have t2 : a.tmps[2]? = some (.pointer (some ⟨b1, 0, none⟩)) := hX.t_in rfl
                        have e2 := eval_of t2
                        have X1_v0' := X1_v0 (hoff 9 (by kernel_rfl))
                        refine value_ (N := some 38) (v := .agg #[.int .i64 o_, .int .i64 k_, .int .i64 0, .int .i64 0, .int .i64 0, .int .i64 0, .int .i64 0, .int .i64 0, .int .i64 0, .int .i64 0, .int .i64 0, .int .i64 0, .int .i64 0]) (run_guard rfl) rfl (r_load rfl e2 (l_part X1_v0'.out 0 [.int .i64 o_, .int .i64 k_, .int .i64 0, .int .i64 0, .int .i64 0, .int .i64 0, .int .i64 0, .int .i64 0, .int .i64 0, .int .i64 0, .int .i64 0, .int .i64 0, .int .i64 0] rfl Tryd.underlying38 rfl direct_find.sz38)) ?_
                        refine hK.out _ _ ⟨Aq1, cq1, (hX.put 0 hb_ rfl rfl rfl rfl rfl rfl), HB, IT, X3, (fun h0_ => (X1_v0 (by rwa [up_ne (by decide)] at h0_))), (fun h0_ => by rw [up_ne (by decide), hoff 9 (by kernel_rfl)] at h0_; cases h0_), (fun h0_ => (R1 (by rwa [up_ne (by decide)] at h0_)))⟩
                      refine steps_cons ?_ ?_
                      · rintro b a w' ⟨Aq1, cq1, hX, HB, IT, X3, X1_v0, X1, R1⟩ hb_ hon hoff
                        refine ⟨_, rfl, fun K hK => ?_⟩
                        have t0 : a.tmps[0]? = some (.slice A0 l0.length c0) := hX.t_in rfl
                        have e0 := eval_of t0
                        refine value_ (N := some 39) (v := .slice A0 l0.length c0) (run_guard rfl) rfl (r_move rfl e0) ?_
                        refine hK.out _ _ ⟨Aq1, cq1, (hX.put 1 hb_ rfl rfl rfl rfl rfl rfl), HB, IT, X3, (fun h0_ => (X1_v0 (by rwa [up_ne (by decide)] at h0_))), (fun h0_ => (X1 (by rwa [up_ne (by decide)] at h0_))), (fun h0_ => (R1 (by rwa [up_ne (by decide)] at h0_)))⟩
                      refine steps_cons ?_ ?_
                      · rintro b a w' ⟨Aq1, cq1, hX, HB, IT, X3, X1_v0, X1, R1⟩ hb_ hon hoff
                        refine ⟨_, rfl, fun K hK => ?_⟩
                        have t39 := hX.t_on 1 rfl (hon 1 (by kernel_rfl))
                        have e39 := eval_of t39
                        refine value_ (N := some 40) (v := .int .i64 (l0.length : Int)) (run_guard rfl) rfl (r_len rfl rfl Tryd.underlying39 e39) ?_
                        refine hK.out _ _ ⟨Aq1, cq1, (hX.put 2 hb_ rfl rfl rfl rfl rfl rfl), HB, IT, X3, (fun h0_ => (X1_v0 (by rwa [up_ne (by decide)] at h0_))), (fun h0_ => (X1 (by rwa [up_ne (by decide)] at h0_))), (fun h0_ => (R1 (by rwa [up_ne (by decide)] at h0_)))⟩
                      refine steps_cons ?_ ?_
                      · rintro b a w' ⟨Aq1, cq1, hX, HB, IT, X3, X1_v0, X1, R1⟩ hb_ hon hoff
                        refine ⟨_, rfl, fun K hK => ?_⟩
                        have t5 : a.tmps[5]? = some (.pointer (some ⟨b3, 0, none⟩)) := hX.t_in rfl
                        have e5 := eval_of t5
                        have X1_v0' := X1_v0 (hoff 9 (by kernel_rfl))
                        refine value_ (N := some 41) (v := .pointer (some ⟨b3, 2, none⟩)) (run_guard rfl) rfl (r_fieldAddr rfl e5 (direct_find.fa56_2 _ _ _)) ?_
                        refine hK.out _ _ ⟨Aq1, cq1, (hX.put 3 hb_ rfl rfl rfl rfl rfl rfl), HB, IT, X3, (fun h0_ => (X1_v0 (by rwa [up_ne (by decide)] at h0_))), (fun h0_ => by rw [up_ne (by decide), hoff 9 (by kernel_rfl)] at h0_; cases h0_), (fun h0_ => by rw [up_ne (by decide), hoff 5 (by kernel_rfl)] at h0_; cases h0_)⟩
                      refine steps_cons ?_ ?_
                      · rintro b a w' ⟨Aq1, cq1, hX, HB, IT, X3, X1_v0, X1, R1⟩ hb_ hon hoff
                        refine ⟨_, rfl, fun K hK => ?_⟩
                        have t41 := hX.t_on 3 rfl (hon 3 (by kernel_rfl))
                        have e41 := eval_of t41
                        have X1_v0' := X1_v0 (hoff 9 (by kernel_rfl))
                        refine value_ (N := some 42) (v := (fnV B1 o_ k_)) (run_guard rfl) rfl (r_load rfl e41 (l_one X3.out 2 rfl (agg_no Tryd.underlying54 rfl))) ?_
                        refine hK.out _ _ ⟨Aq1, cq1, (hX.put 4 hb_ rfl rfl rfl rfl rfl rfl), HB, IT, X3, (fun h0_ => (X1_v0 (by rwa [up_ne (by decide)] at h0_))), (fun h0_ => by rw [up_ne (by decide), hoff 9 (by kernel_rfl)] at h0_; cases h0_), (fun h0_ => by rw [up_ne (by decide), hoff 5 (by kernel_rfl)] at h0_; cases h0_)⟩
                      refine steps_cons ?_ ?_
                      · rintro b a w' ⟨Aq1, cq1, hX, HB, IT, X3, X1_v0, X1, R1⟩ hb_ hon hoff
                        refine ⟨_, rfl, fun K hK => ?_⟩
                        have t42 := hX.t_on 4 rfl (hon 4 (by kernel_rfl))
                        have e42 := eval_of t42
                        have t2 : a.tmps[2]? = some (.pointer (some ⟨b1, 0, none⟩)) := hX.t_in rfl
                        have e2 := eval_of t2
                        have X1_v0' := X1_v0 (hoff 9 (by kernel_rfl))
                        refine call_ (N := some 43) _ _ (run_guard rfl) rfl (r_callv rfl e42 (num_fn o_ k_ hp_).choose_spec.1 (num_fn o_ k_ hp_).choose_spec.2.1 (num_fn o_ k_ hp_).choose_spec.2.2 (m1 e2)) ?_
                        refine (num_x (IterAt.forms IT.out) hp_ b1).mono ?_
                        rintro e w1 ⟨v_, rfl, hR_, hE⟩
                        replace hR_ := Kd.R_lower hR_ HB.out.size
                        obtain ⟨Aq1', cq1', rfl⟩ := Kd.R_slice hR_
                        refine ⟨_, rfl, ?_⟩
                        refine hK.out _ _ ⟨Aq1', cq1', (hX.put 5 hb_ rfl rfl rfl rfl rfl rfl), ⟨below_step HB.out hE⟩, ⟨iter_ext IT.out hE⟩, ⟨blk_below X3.out hE⟩, (fun h0_ => ⟨blk_below (X1_v0 (by rwa [up_ne (by decide)] at h0_)).out hE⟩), (fun h0_ => by rw [up_ne (by decide), hoff 9 (by kernel_rfl)] at h0_; cases h0_), (fun h0_ => ⟨hR_⟩)⟩
                      refine steps_cons ?_ ?_
                      · rintro b a w' ⟨Aq1, cq1, hX, HB, IT, X3, X1_v0, X1, R1⟩ hb_ hon hoff
                        refine ⟨_, rfl, fun K hK => ?_⟩
                        have t43 := hX.t_on 5 rfl (hon 5 (by kernel_rfl))
                        have e43 := eval_of t43
                        have R1' := R1 (hon 5 (by kernel_rfl))
                        refine value_ (N := some 44) (v := .int .i64 ((offs o_ k_).length : Int)) (run_guard rfl) rfl (r_len rfl rfl Tryd.underlying61 e43) ?_
                        refine hK.out _ _ ⟨Aq1, cq1, (hX.put 6 hb_ rfl rfl rfl rfl rfl rfl), HB, IT, X3, (fun h0_ => (X1_v0 (by rwa [up_ne (by decide)] at h0_))), (fun h0_ => (X1 (by rwa [up_ne (by decide)] at h0_))), (fun h0_ => (R1 (by rwa [up_ne (by decide)] at h0_)))⟩
                      refine steps_cons ?_ ?_
                      · rintro b a w' ⟨Aq1, cq1, hX, HB, IT, X3, X1_v0, X1, R1⟩ hb_ hon hoff
                        refine ⟨_, rfl, fun K hK => ?_⟩
                        have t44 := hX.t_on 6 rfl (hon 6 (by kernel_rfl))
                        have e44 := eval_of t44
                        have R1' := R1 (hon 5 (by kernel_rfl))
                        refine value_ (N := some 45) (v := .int .i64 (wrap64 (2 + ((offs o_ k_).length : Int)))) (run_guard rfl) rfl (r_add rfl ev_c e44) ?_
                        refine hK.out _ _ ⟨Aq1, cq1, (hX.put 7 hb_ rfl rfl rfl rfl rfl rfl), HB, IT, X3, (fun h0_ => (X1_v0 (by rwa [up_ne (by decide)] at h0_))), (fun h0_ => (X1 (by rwa [up_ne (by decide)] at h0_))), (fun h0_ => (R1 (by rwa [up_ne (by decide)] at h0_)))⟩
                      refine steps_cons ?_ ?_
                      · rintro b a w' ⟨Aq1, cq1, hX, HB, IT, X3, X1_v0, X1, R1⟩ hb_ hon hoff
                        refine ⟨_, rfl, fun K hK => ?_⟩
                        have t40 := hX.t_on 2 rfl (hon 2 (by kernel_rfl))
                        have e40 := eval_of t40
                        have t45 := hX.t_on 7 rfl (hon 7 (by kernel_rfl))
                        have e45 := eval_of t45
                        have R1' := R1 (hon 5 (by kernel_rfl))
                        refine value_ (N := some 46) (v := .bool (decide ((l0.length : Int) = (wrap64 (2 + ((offs o_ k_).length : Int)))))) (run_guard rfl) rfl (r_eql rfl e40 e45) ?_
                        refine hK.out _ _ ⟨Aq1, cq1, (hX.put 8 hb_ rfl rfl rfl rfl rfl rfl), HB, IT, X3, (fun h0_ => (X1_v0 (by rwa [up_ne (by decide)] at h0_))), (fun h0_ => (X1 (by rwa [up_ne (by decide)] at h0_))), (fun h0_ => (R1 (by rwa [up_ne (by decide)] at h0_)))⟩
                      refine steps_cons ?_ ?_
                      · rintro b a w' ⟨Aq1, cq1, hX, HB, IT, X3, X1_v0, X1, R1⟩ hb_ hon hoff
                        refine ⟨_, rfl, fun K hK => ?_⟩
                        have t2 : a.tmps[2]? = some (.pointer (some ⟨b1, 0, none⟩)) := hX.t_in rfl
                        have e2 := eval_of t2
                        have t38 := hX.t_on 0 rfl (hon 0 (by kernel_rfl))
                        have e38 := eval_of t38
                        have X1_v0' := X1_v0 hb_
                        have R1' := R1 (hon 5 (by kernel_rfl))
                        obtain ⟨w1, hs, hS⟩ := s_part (P := Tryd.prog) (t := 38) (l' := [.int .i64 o_, .int .i64 k_, .int .i64 0, .int .i64 0, .int .i64 0, .int .i64 0, .int .i64 0, .int .i64 0, .int .i64 0, .int .i64 0, .int .i64 0, .int .i64 0, .int .i64 0]) X1_v0'.out 0 #[.int .i64 o_, .int .i64 k_, .int .i64 0, .int .i64 0, .int .i64 0, .int .i64 0, .int .i64 0, .int .i64 0, .int .i64 0, .int .i64 0, .int .i64 0, .int .i64 0, .int .i64 0] rfl rfl direct_find.sz38 rfl
                        refine skip_ (run_guard rfl) rfl (r_store rfl e2 e38 hs) ?_
                        refine hK.out _ _ ⟨Aq1, cq1, (hX.none rfl undef), ⟨HB.out.trans (hS.below _ GEX1.out)⟩, ⟨iter_set IT.out X1_v0'.out (by decide) hS⟩, ⟨hS.blk X3.out (blk_ne X3.out X1_v0'.out (by decide))⟩, (fun h0_ => by rw [up_self] at h0_; cases h0_), (fun h0_ => ⟨hS.here⟩), (fun h0_ => ⟨R_set1 (R1 (by rwa [up_ne (by decide)] at h0_)).out X1_v0'.out (by intro q_ hq_; rcases List.mem_cons.1 hq_ with rfl | hq_; decide; cases hq_) hS⟩)⟩
                      refine steps_cons ?_ ?_
                      · rintro b a w' ⟨Aq1, cq1, hX, HB, IT, X3, X1_v0, X1, R1⟩ hb_ hon hoff
                        refine ⟨_, rfl, fun K hK => ?_⟩
                        have t46 := hX.t_on 8 rfl (hon 8 (by kernel_rfl))
                        have e46 := eval_of t46
                        have X1' := X1 (hon 9 (by kernel_rfl))
                        have R1' := R1 (hon 5 (by kernel_rfl))
                        refine value_ (N := some 3) (v := .bool (decide ((l0.length : Int) = (wrap64 (2 + ((offs o_ k_).length : Int)))))) (run_guard rfl) rfl (r_assign rfl e46) ?_
                        refine hK.out _ _ ⟨Aq1, cq1, (hX.put 9 hb_ rfl rfl rfl rfl rfl rfl), HB, IT, X3, (fun h0_ => by rw [up_ne (by decide), hon 9 (by kernel_rfl)] at h0_; cases h0_), (fun h0_ => (X1 (by rwa [up_ne (by decide)] at h0_))), (fun h0_ => (R1 (by rwa [up_ne (by decide)] at h0_)))⟩
                      exact steps_nil
                    · rintro b ac18 w15 hall ⟨Aq1, cq1, hX, HB, IT, X3, X1_v0, X1, R1⟩
                      have F18 := hX.done (all_of hall rfl) (L' := [(38, .agg #[.int .i64 o_, .int .i64 k_, .int .i64 0, .int .i64 0, .int .i64 0, .int .i64 0, .int .i64 0, .int .i64 0, .int .i64 0, .int .i64 0, .int .i64 0, .int .i64 0, .int .i64 0]), (39, .slice A0 l0.length c0), (40, .int .i64 (l0.length : Int)), (41, .pointer (some ⟨b3, 2, none⟩)), (42, (fnV B1 o_ k_)), (43, .slice Aq1 ((offs o_ k_).length) cq1), (44, .int .i64 ((offs o_ k_).length : Int)), (45, .int .i64 (wrap64 (2 + ((offs o_ k_).length : Int)))), (46, .bool (decide ((l0.length : Int) = (wrap64 (2 + ((offs o_ k_).length : Int)))))), (3, .bool (decide ((l0.length : Int) = (wrap64 (2 + ((offs o_ k_).length : Int)))))), (0, .slice A0 l0.length c0), (2, .pointer (some ⟨b1, 0, none⟩)), (5, .pointer (some ⟨b3, 0, none⟩))]) rfl
                      clear hX
                      clear X1_v0
                      replace X1 := X1 (hall 9 rfl)
                      replace R1 := R1 (hall 5 rfl)
                      clear hall
                      refine hK11 _ _ ?_
                      refine wp_ret ?_
                      have e_ := find_hit hp_ ⟨hT1, hT3, hT5⟩
                      rw [e_] at h
                      clear e_
                      (try simp only [Exit.then, Exit.inBlock])
                      refine retx (fn := Tryd.f39) F18 (results2 (fn := Tryd.f39) rfl (rv_c (t := 2) (T := 38) (v := .agg #[.int .i64 o_, .int .i64 k_, .int .i64 0, .int .i64 0, .int .i64 0, .int .i64 0, .int .i64 0, .int .i64 0, .int .i64 0, .int .i64 0, .int .i64 0, .int .i64 0, .int .i64 0]) F18 rfl (l_part X1.out 0 [.int .i64 o_, .int .i64 k_, .int .i64 0, .int .i64 0, .int .i64 0, .int .i64 0, .int .i64 0, .int .i64 0, .int .i64 0, .int .i64 0, .int .i64 0, .int .i64 0, .int .i64 0] rfl Tryd.underlying38 rfl direct_find.sz38)) (rv_t (t := 3) (v := .bool (decide ((l0.length : Int) = (wrap64 (2 + ((offs o_ k_).length : Int)))))) F18 rfl)) ?_
                      cases h
                      exact ⟨rfl, HB.out⟩
                | false =>
                  refine wp_cond_false (F16.ev (lk rfl hT5)) ?_
                  refine wp_skip ?_
                  refine ⟨m_, hlt_, F16.pick ⟨rfl, rfl, rfl, trivial⟩, X1, ⟨iter_drop IT.out (fun hq_ => Bool.noConfusion (hT5.symm.trans hq_.2.2))⟩, HB⟩
            | false =>
              exfalso
              have g0_ := of_decide_eq_true hT1
              have g1_ := of_decide_eq_true hT2
              have g2_ := of_decide_eq_false hT4
              omega
          | false =>
            refine start_ (n := 19) (S := fun _ => True) (ds := []) #[false, false, false, false, false, false, false, false, false, false, false, false, false, false, false, false, false, false, false] (by kernel_rfl) rfl rfl trivial (fun _ => ?_)
            refine with_tabW direct_find.tab4 direct_find.bits4 (fun HT_ HW_ => ?_)
            have hE := below_drew (Below.refl w9.heap.size w9)
            generalize w9.drew = w16 at hE ⊢
            replace X1 := Aside0.mk (blk_below X1.out hE)
            replace IT := Aside0.mk (iter_ext IT.out hE)
            replace X2 := Aside0.mk (blk_below X2.out hE)
            replace X3 := Aside0.mk (blk_below X3.out hE)
            replace E1 := Aside0.mk (range_below E1.out hE)
            replace HB := Aside0.mk (below_step HB.out hE)
            clear hE
            refine inv_at [0, 1, 2, 3, 4, 5, 6, 7, 8, 9, 10, 11, 12, 13, 14, 15, 16, 17, 18] (fun (a0_ : Act) (b : Nat → Bool) (a : Act) (w' : World) => FrB a 48 b [(0, .slice A0 l0.length c0), (2, .pointer (some ⟨b1, 0, none⟩)), (7, .pointer (some ⟨rg1, 0, none⟩)), (4, .pointer (some ⟨b2, 0, none⟩)), (5, .pointer (some ⟨b3, 0, none⟩))] [(0, 13, .slice A0 l0.length c0), (1, 14, .int .i64 (l0.length : Int)), (2, 15, .bool (decide (2 < (l0.length : Int)))), (3, 16, .bool (decide (2 < (l0.length : Int)))), (4, 17, .slice A0 l0.length c0), (5, 18, .pointer (some ⟨eb1, eo1, none⟩)), (6, 19, .string (l0.getD (0 : Int).toNat (⟨#[]⟩ : ByteArray))), (7, 20, .pointer (some ⟨b3, 0, none⟩)), (8, 21, .string (opS o_)), (9, 22, .bool ((l0.getD (0 : Int).toNat (⟨#[]⟩ : ByteArray)).toList == (opS o_).toList)), (10, 23, .bool ((l0.getD (0 : Int).toNat (⟨#[]⟩ : ByteArray)).toList == (opS o_).toList)), (11, 24, .bool ((l0.getD (0 : Int).toNat (⟨#[]⟩ : ByteArray)).toList == (opS o_).toList)), (12, 25, undef), (13, 26, undef), (14, 27, undef), (15, 28, undef), (16, 29, undef), (17, 30, undef), (18, 31, .bool false)] [] ∧ (Aside0 (Below w.heap.size w w')) ∧ (Aside0 (w'.heap[b1]? = some (.cells #[.int .i64 0, .int .i64 0, .int .i64 0, .int .i64 0, .int .i64 0, .int .i64 0, .int .i64 0, .int .i64 0, .int .i64 0, .int .i64 0, .int .i64 0, .int .i64 0, .int .i64 0] 38 (0, 0)))) ∧ (Aside0 (IterAt w' rg1 bm1 B1 (fun o k => ¬ findT l0 o k) m_ (some (o_, k_)))) ∧ (Aside0 (w'.heap[b2]? = some (.cells #[.int .i64 o_, .int .i64 k_] 60 (0, 0)))) ∧ (Aside0 (w'.heap[b3]? = some (.cells #[.string (opS o_), .string (kdS k_), (fnV B1 o_ k_)] 56 (0, 0)))) ∧ (Aside0 (w'.rangeAt eb1 eo1 [.string (l0.getD (0 : Int).toNat (⟨#[]⟩ : ByteArray))]))) HT_.out HW_.out (by kernel_rfl) (by kernel_rfl) ?_ ?_ ?_
            · exact ⟨FrB.start F15 ⟨rfl, rfl, rfl, rfl, rfl, trivial⟩ trivial, HB, X1, IT, X2, X3, E1⟩
            · clear F15 HB X1 IT X2 X3 E1 HT_ HW_
              refine steps_cons ?_ ?_
              · rintro b a w' ⟨hX, HB, X1, IT, X2, X3, E1⟩ hb_ hon hoff
                refine ⟨_, rfl, fun K hK => ?_⟩
                have t0 : a.tmps[0]? = some (.slice A0 l0.length c0) := hX.t_in rfl
                have e0 := eval_of t0
                refine value_ (N := some 13) (v := .slice A0 l0.length c0) (run_guard rfl) rfl (r_move rfl e0) ?_
                refine hK.out _ _ ⟨(hX.put 0 hb_ rfl rfl rfl rfl rfl rfl), HB, X1, IT, X2, X3, E1⟩
              refine steps_cons ?_ ?_
              · rintro b a w' ⟨hX, HB, X1, IT, X2, X3, E1⟩ hb_ hon hoff
                refine ⟨_, rfl, fun K hK => ?_⟩
                have t13 := hX.t_on 0 rfl (hon 0 (by kernel_rfl))
                have e13 := eval_of t13
                refine value_ (N := some 14) (v := .int .i64 (l0.length : Int)) (run_guard rfl) rfl (r_len rfl rfl Tryd.underlying39 e13) ?_
                refine hK.out _ _ ⟨(hX.put 1 hb_ rfl rfl rfl rfl rfl rfl), HB, X1, IT, X2, X3, E1⟩
              refine steps_cons ?_ ?_
              · rintro b a w' ⟨hX, HB, X1, IT, X2, X3, E1⟩ hb_ hon hoff
                refine ⟨_, rfl, fun K hK => ?_⟩
                have t14 := hX.t_on 1 rfl (hon 1 (by kernel_rfl))
                have e14 := eval_of t14
                refine value_ (N := some 15) (v := .bool (decide (2 < (l0.length : Int)))) (run_guard rfl) rfl (r_gtr rfl e14 ev_c) ?_
                refine hK.out _ _ ⟨(hX.put 2 hb_ rfl rfl rfl rfl rfl rfl), HB, X1, IT, X2, X3, E1⟩
              refine steps_cons ?_ ?_
              · rintro b a w' ⟨hX, HB, X1, IT, X2, X3, E1⟩ hb_ hon hoff
                refine ⟨_, rfl, fun K hK => ?_⟩
                have t15 := hX.t_on 2 rfl (hon 2 (by kernel_rfl))
                have e15 := eval_of t15
                refine value_ (N := some 16) (v := .bool (decide (2 < (l0.length : Int)))) (run_guard rfl) rfl (r_move rfl e15) ?_
                refine hK.out _ _ ⟨(hX.put 3 hb_ rfl rfl rfl rfl rfl rfl), HB, X1, IT, X2, X3, E1⟩
              refine steps_cons ?_ ?_
              · rintro b a w' ⟨hX, HB, X1, IT, X2, X3, E1⟩ hb_ hon hoff
                refine ⟨_, rfl, fun K hK => ?_⟩
                have t0 : a.tmps[0]? = some (.slice A0 l0.length c0) := hX.t_in rfl
                have e0 := eval_of t0
                have t16 := hX.t_on 3 rfl (hon 3 (by kernel_rfl))
                have e16 := eval_of t16
                refine value_ (N := some 17) (v := .slice A0 l0.length c0) (wanted_on rfl rfl rfl (lkt t16 hT1)) rfl (r_move rfl e0) ?_
                refine hK.out _ _ ⟨(hX.put 4 hb_ rfl rfl rfl rfl rfl rfl), HB, X1, IT, X2, X3, E1⟩
              refine steps_cons ?_ ?_
              · rintro b a w' ⟨hX, HB, X1, IT, X2, X3, E1⟩ hb_ hon hoff
                refine ⟨_, rfl, fun K hK => ?_⟩
                have t17 := hX.t_on 4 rfl (hon 4 (by kernel_rfl))
                have e17 := eval_of t17
                have t16 := hX.t_on 3 rfl (hon 3 (by kernel_rfl))
                have e16 := eval_of t16
                refine value_ (N := some 18) (v := .pointer (some ⟨eb1, eo1, none⟩)) (wanted_on rfl rfl rfl (lkt t16 hT1)) rfl (r_indexAddr rfl e17 ev_c (hi1.out _)) ?_
                refine hK.out _ _ ⟨(hX.put 5 hb_ rfl rfl rfl rfl rfl rfl), HB, X1, IT, X2, X3, E1⟩
              refine steps_cons ?_ ?_
              · rintro b a w' ⟨hX, HB, X1, IT, X2, X3, E1⟩ hb_ hon hoff
                refine ⟨_, rfl, fun K hK => ?_⟩
                have t18 := hX.t_on 5 rfl (hon 5 (by kernel_rfl))
                have e18 := eval_of t18
                have t16 := hX.t_on 3 rfl (hon 3 (by kernel_rfl))
                have e16 := eval_of t16
                refine value_ (N := some 19) (v := .string (l0.getD (0 : Int).toNat (⟨#[]⟩ : ByteArray))) (wanted_on rfl rfl rfl (lkt t16 hT1)) rfl (r_load rfl e18 (l_cell E1.out 0 rfl (agg_no Tryd.underlying9 rfl))) ?_
                refine hK.out _ _ ⟨(hX.put 6 hb_ rfl rfl rfl rfl rfl rfl), HB, X1, IT, X2, X3, E1⟩
              refine steps_cons ?_ ?_
              · rintro b a w' ⟨hX, HB, X1, IT, X2, X3, E1⟩ hb_ hon hoff
                refine ⟨_, rfl, fun K hK => ?_⟩
                have t5 : a.tmps[5]? = some (.pointer (some ⟨b3, 0, none⟩)) := hX.t_in rfl
                have e5 := eval_of t5
                have t16 := hX.t_on 3 rfl (hon 3 (by kernel_rfl))
                have e16 := eval_of t16
                refine value_ (N := some 20) (v := .pointer (some ⟨b3, 0, none⟩)) (wanted_on rfl rfl rfl (lkt t16 hT1)) rfl (r_fieldAddr rfl e5 (direct_find.fa56_0 _ _ _)) ?_
                refine hK.out _ _ ⟨(hX.put 7 hb_ rfl rfl rfl rfl rfl rfl), HB, X1, IT, X2, X3, E1⟩
              refine steps_cons ?_ ?_
              · rintro b a w' ⟨hX, HB, X1, IT, X2, X3, E1⟩ hb_ hon hoff
                refine ⟨_, rfl, fun K hK => ?_⟩
                have t20 := hX.t_on 7 rfl (hon 7 (by kernel_rfl))
                have e20 := eval_of t20
                have t16 := hX.t_on 3 rfl (hon 3 (by kernel_rfl))
                have e16 := eval_of t16
                refine value_ (N := some 21) (v := .string (opS o_)) (wanted_on rfl rfl rfl (lkt t16 hT1)) rfl (r_load rfl e20 (l_one X3.out 0 rfl (agg_no Tryd.underlying9 rfl))) ?_
                refine hK.out _ _ ⟨(hX.put 8 hb_ rfl rfl rfl rfl rfl rfl), HB, X1, IT, X2, X3, E1⟩
              refine steps_cons ?_ ?_
              · rintro b a w' ⟨hX, HB, X1, IT, X2, X3, E1⟩ hb_ hon hoff
                refine ⟨_, rfl, fun K hK => ?_⟩
                have t19 := hX.t_on 6 rfl (hon 6 (by kernel_rfl))
                have e19 := eval_of t19
                have t21 := hX.t_on 8 rfl (hon 8 (by kernel_rfl))
                have e21 := eval_of t21
                have t16 := hX.t_on 3 rfl (hon 3 (by kernel_rfl))
                have e16 := eval_of t16
                refine value_ (N := some 22) (v := .bool ((l0.getD (0 : Int).toNat (⟨#[]⟩ : ByteArray)).toList == (opS o_).toList)) (wanted_on rfl rfl rfl (lkt t16 hT1)) rfl (r_seq rfl e19 e21) ?_
                refine hK.out _ _ ⟨(hX.put 9 hb_ rfl rfl rfl rfl rfl rfl), HB, X1, IT, X2, X3, E1⟩
              refine steps_cons ?_ ?_
              · rintro b a w' ⟨hX, HB, X1, IT, X2, X3, E1⟩ hb_ hon hoff
                refine ⟨_, rfl, fun K hK => ?_⟩
                have t16 := hX.t_on 3 rfl (hon 3 (by kernel_rfl))
                have e16 := eval_of t16
                have t22 := hX.t_on 9 rfl (hon 9 (by kernel_rfl))
                have e22 := eval_of t22
                refine value_ (N := some 23) (v := .bool ((l0.getD (0 : Int).toNat (⟨#[]⟩ : ByteArray)).toList == (opS o_).toList)) (run_guard rfl) rfl (r_pick_t rfl (e16.trans (congrArg Value.bool hT1)) e22) ?_
                refine hK.out _ _ ⟨(hX.put 10 hb_ rfl rfl rfl rfl rfl rfl), HB, X1, IT, X2, X3, E1⟩
              refine steps_cons ?_ ?_
              · rintro b a w' ⟨hX, HB, X1, IT, X2, X3, E1⟩ hb_ hon hoff
                refine ⟨_, rfl, fun K hK => ?_⟩
                have t23 := hX.t_on 10 rfl (hon 10 (by kernel_rfl))
                have e23 := eval_of t23
                refine value_ (N := some 24) (v := .bool ((l0.getD (0 : Int).toNat (⟨#[]⟩ : ByteArray)).toList == (opS o_).toList)) (run_guard rfl) rfl (r_move rfl e23) ?_
                refine hK.out _ _ ⟨(hX.put 11 hb_ rfl rfl rfl rfl rfl rfl), HB, X1, IT, X2, X3, E1⟩
              refine steps_cons ?_ ?_
              · rintro b a w' ⟨hX, HB, X1, IT, X2, X3, E1⟩ hb_ hon hoff
                refine ⟨_, rfl, fun K hK => ?_⟩
                have t24 := hX.t_on 11 rfl (hon 11 (by kernel_rfl))
                have e24 := eval_of t24
                refine off_ (wanted_off rfl rfl rfl (lkt t24 hT3)) ?_
                show K (a.put (some 25) undef) w'
                refine hK.out _ _ ⟨(hX.put 12 hb_ rfl rfl rfl rfl rfl rfl), HB, X1, IT, X2, X3, E1⟩
              refine steps_cons ?_ ?_
              · rintro b a w' ⟨hX, HB, X1, IT, X2, X3, E1⟩ hb_ hon hoff
                refine ⟨_, rfl, fun K hK => ?_⟩
                have t24 := hX.t_on 11 rfl (hon 11 (by kernel_rfl))
                have e24 := eval_of t24
                refine off_ (wanted_off rfl rfl rfl (lkt t24 hT3)) ?_
                show K (a.put (some 26) undef) w'
                refine hK.out _ _ ⟨(hX.put 13 hb_ rfl rfl rfl rfl rfl rfl), HB, X1, IT, X2, X3, E1⟩
              refine steps_cons ?_ ?_
              · rintro b a w' ⟨hX, HB, X1, IT, X2, X3, E1⟩ hb_ hon hoff
                refine ⟨_, rfl, fun K hK => ?_⟩
                have t24 := hX.t_on 11 rfl (hon 11 (by kernel_rfl))
                have e24 := eval_of t24
                refine off_ (wanted_off rfl rfl rfl (lkt t24 hT3)) ?_
                show K (a.put (some 27) undef) w'
                refine hK.out _ _ ⟨(hX.put 14 hb_ rfl rfl rfl rfl rfl rfl), HB, X1, IT, X2, X3, E1⟩
              refine steps_cons ?_ ?_
              · rintro b a w' ⟨hX, HB, X1, IT, X2, X3, E1⟩ hb_ hon hoff
                refine ⟨_, rfl, fun K hK => ?_⟩
                have t24 := hX.t_on 11 rfl (hon 11 (by kernel_rfl))
                have e24 := eval_of t24
                refine off_ (wanted_off rfl rfl rfl (lkt t24 hT3)) ?_
                show K (a.put (some 28) undef) w'
                refine hK.out _ _ ⟨(hX.put 15 hb_ rfl rfl rfl rfl rfl rfl), HB, X1, IT, X2, X3, E1⟩
              refine steps_cons ?_ ?_
              · rintro b a w' ⟨hX, HB, X1, IT, X2, X3, E1⟩ hb_ hon hoff
                refine ⟨_, rfl, fun K hK => ?_⟩
                have t24 := hX.t_on 11 rfl (hon 11 (by kernel_rfl))
                have e24 := eval_of t24
                refine off_ (wanted_off rfl rfl rfl (lkt t24 hT3)) ?_
                show K (a.put (some 29) undef) w'
                refine hK.out _ _ ⟨(hX.put 16 hb_ rfl rfl rfl rfl rfl rfl), HB, X1, IT, X2, X3, E1⟩
              refine steps_cons ?_ ?_
              · rintro b a w' ⟨hX, HB, X1, IT, X2, X3, E1⟩ hb_ hon hoff
                refine ⟨_, rfl, fun K hK => ?_⟩
                have t24 := hX.t_on 11 rfl (hon 11 (by kernel_rfl))
                have e24 := eval_of t24
                refine off_ (wanted_off rfl rfl rfl (lkt t24 hT3)) ?_
                show K (a.put (some 30) undef) w'
                refine hK.out _ _ ⟨(hX.put 17 hb_ rfl rfl rfl rfl rfl rfl), HB, X1, IT, X2, X3, E1⟩
              refine steps_cons ?_ ?_
              · rintro b a w' ⟨hX, HB, X1, IT, X2, X3, E1⟩ hb_ hon hoff
                refine ⟨_, rfl, fun K hK => ?_⟩
                have t24 := hX.t_on 11 rfl (hon 11 (by kernel_rfl))
                have e24 := eval_of t24
                have t30 := hX.t_on 17 rfl (hon 17 (by kernel_rfl))
                have e30 := eval_of t30
                refine value_ (N := some 31) (v := .bool false) (run_guard rfl) rfl (r_pick_f rfl (e24.trans (congrArg Value.bool hT3)) ev_c) ?_
                refine hK.out _ _ ⟨(hX.put 18 hb_ rfl rfl rfl rfl rfl rfl), HB, X1, IT, X2, X3, E1⟩
              exact steps_nil
            · rintro b ac19 w17 hall ⟨hX, HB, X1, IT, X2, X3, E1⟩
              have F19 := hX.done (all_of hall rfl) (L' := [(13, .slice A0 l0.length c0), (14, .int .i64 (l0.length : Int)), (15, .bool (decide (2 < (l0.length : Int)))), (16, .bool (decide (2 < (l0.length : Int)))), (17, .slice A0 l0.length c0), (18, .pointer (some ⟨eb1, eo1, none⟩)), (19, .string (l0.getD (0 : Int).toNat (⟨#[]⟩ : ByteArray))), (20, .pointer (some ⟨b3, 0, none⟩)), (21, .string (opS o_)), (22, .bool ((l0.getD (0 : Int).toNat (⟨#[]⟩ : ByteArray)).toList == (opS o_).toList)), (23, .bool ((l0.getD (0 : Int).toNat (⟨#[]⟩ : ByteArray)).toList == (opS o_).toList)), (24, .bool ((l0.getD (0 : Int).toNat (⟨#[]⟩ : ByteArray)).toList == (opS o_).toList)), (25, undef), (26, undef), (27, undef), (28, undef), (29, undef), (30, undef), (31, .bool false), (0, .slice A0 l0.length c0), (2, .pointer (some ⟨b1, 0, none⟩)), (7, .pointer (some ⟨rg1, 0, none⟩)), (4, .pointer (some ⟨b2, 0, none⟩)), (5, .pointer (some ⟨b3, 0, none⟩))]) rfl
              clear hX
              clear hall
              clear E1 hi1
              refine hK9 _ _ ?_
              refine wp_cond_false (F19.ev rfl) ?_
              refine wp_skip ?_
              refine ⟨m_, hlt_, F19.pick ⟨rfl, rfl, rfl, trivial⟩, X1, ⟨iter_drop IT.out (fun hq_ => Bool.noConfusion (hT3.symm.trans hq_.2.1))⟩, HB⟩
        | false =>
          exfalso
          have g0_ := of_decide_eq_true hT1
          have g1_ := of_decide_eq_false hT2
          omega
      | false =>
        refine start_ (n := 19) (S := fun _ => True) (ds := []) #[false, false, false, false, false, false, false, false, false, false, false, false, false, false, false, false, false, false, false] (by kernel_rfl) rfl rfl trivial (fun _ => ?_)
        refine with_tabW direct_find.tab4 direct_find.bits4 (fun HT_ HW_ => ?_)
        have hE := below_drew (Below.refl w9.heap.size w9)
        generalize w9.drew = w18 at hE ⊢
        replace X1 := Aside0.mk (blk_below X1.out hE)
        replace IT := Aside0.mk (iter_ext IT.out hE)
        replace X2 := Aside0.mk (blk_below X2.out hE)
        replace X3 := Aside0.mk (blk_below X3.out hE)
        replace HB := Aside0.mk (below_step HB.out hE)
        clear hE
        refine inv_at [0, 1, 2, 3, 4, 5, 6, 7, 8, 9, 10, 11, 12, 13, 14, 15, 16, 17, 18] (fun (a0_ : Act) (b : Nat → Bool) (a : Act) (w' : World) => FrB a 48 b [(0, .slice A0 l0.length c0), (2, .pointer (some ⟨b1, 0, none⟩)), (7, .pointer (some ⟨rg1, 0, none⟩)), (4, .pointer (some ⟨b2, 0, none⟩)), (5, .pointer (some ⟨b3, 0, none⟩))] [(0, 13, .slice A0 l0.length c0), (1, 14, .int .i64 (l0.length : Int)), (2, 15, .bool (decide (2 < (l0.length : Int)))), (3, 16, .bool (decide (2 < (l0.length : Int)))), (4, 17, undef), (5, 18, undef), (6, 19, undef), (7, 20, undef), (8, 21, undef), (9, 22, undef), (10, 23, .bool false), (11, 24, .bool false), (12, 25, undef), (13, 26, undef), (14, 27, undef), (15, 28, undef), (16, 29, undef), (17, 30, undef), (18, 31, .bool false)] [] ∧ (Aside0 (Below w.heap.size w w')) ∧ (Aside0 (w'.heap[b1]? = some (.cells #[.int .i64 0, .int .i64 0, .int .i64 0, .int .i64 0, .int .i64 0, .int .i64 0, .int .i64 0, .int .i64 0, .int .i64 0, .int .i64 0, .int .i64 0, .int .i64 0, .int .i64 0] 38 (0, 0)))) ∧ (Aside0 (IterAt w' rg1 bm1 B1 (fun o k => ¬ findT l0 o k) m_ (some (o_, k_)))) ∧ (Aside0 (w'.heap[b2]? = some (.cells #[.int .i64 o_, .int .i64 k_] 60 (0, 0)))) ∧ (Aside0 (w'.heap[b3]? = some (.cells #[.string (opS o_), .string (kdS k_), (fnV B1 o_ k_)] 56 (0, 0))))) HT_.out HW_.out (by kernel_rfl) (by kernel_rfl) ?_ ?_ ?_
        · exact ⟨FrB.start F15 ⟨rfl, rfl, rfl, rfl, rfl, trivial⟩ trivial, HB, X1, IT, X2, X3⟩
        · clear F15 HB X1 IT X2 X3 HT_ HW_
          refine steps_cons ?_ ?_
          · rintro b a w' ⟨hX, HB, X1, IT, X2, X3⟩ hb_ hon hoff
            refine ⟨_, rfl, fun K hK => ?_⟩
            have t0 : a.tmps[0]? = some (.slice A0 l0.length c0) := hX.t_in rfl
            have e0 := eval_of t0
            refine value_ (N := some 13) (v := .slice A0 l0.length c0) (run_guard rfl) rfl (r_move rfl e0) ?_
            refine hK.out _ _ ⟨(hX.put 0 hb_ rfl rfl rfl rfl rfl rfl), HB, X1, IT, X2, X3⟩
          refine steps_cons ?_ ?_
          · rintro b a w' ⟨hX, HB, X1, IT, X2, X3⟩ hb_ hon hoff
            refine ⟨_, rfl, fun K hK => ?_⟩
            have t13 := hX.t_on 0 rfl (hon 0 (by kernel_rfl))
            have e13 := eval_of t13
            refine value_ (N := some 14) (v := .int .i64 (l0.length : Int)) (run_guard rfl) rfl (r_len rfl rfl Tryd.underlying39 e13) ?_
            refine hK.out _ _ ⟨(hX.put 1 hb_ rfl rfl rfl rfl rfl rfl), HB, X1, IT, X2, X3⟩
          refine steps_cons ?_ ?_
          · rintro b a w' ⟨hX, HB, X1, IT, X2, X3⟩ hb_ hon hoff
            refine ⟨_, rfl, fun K hK => ?_⟩
            have t14 := hX.t_on 1 rfl (hon 1 (by kernel_rfl))
            have e14 := eval_of t14
            refine value_ (N := some 15) (v := .bool (decide (2 < (l0.length : Int)))) (run_guard rfl) rfl (r_gtr rfl e14 ev_c) ?_
            refine hK.out _ _ ⟨(hX.put 2 hb_ rfl rfl rfl rfl rfl rfl), HB, X1, IT, X2, X3⟩
          refine steps_cons ?_ ?_
          · rintro b a w' ⟨hX, HB, X1, IT, X2, X3⟩ hb_ hon hoff
            refine ⟨_, rfl, fun K hK => ?_⟩
            have t15 := hX.t_on 2 rfl (hon 2 (by kernel_rfl))
            have e15 := eval_of t15
            refine value_ (N := some 16) (v := .bool (decide (2 < (l0.length : Int)))) (run_guard rfl) rfl (r_move rfl e15) ?_
            refine hK.out _ _ ⟨(hX.put 3 hb_ rfl rfl rfl rfl rfl rfl), HB, X1, IT, X2, X3⟩
          refine steps_cons ?_ ?_
          · rintro b a w' ⟨hX, HB, X1, IT, X2, X3⟩ hb_ hon hoff
            refine ⟨_, rfl, fun K hK => ?_⟩
            have t16 := hX.t_on 3 rfl (hon 3 (by kernel_rfl))
            have e16 := eval_of t16
            refine off_ (wanted_off rfl rfl rfl (lkt t16 hT1)) ?_
            show K (a.put (some 17) undef) w'
            refine hK.out _ _ ⟨(hX.put 4 hb_ rfl rfl rfl rfl rfl rfl), HB, X1, IT, X2, X3⟩
          refine steps_cons ?_ ?_
          · rintro b a w' ⟨hX, HB, X1, IT, X2, X3⟩ hb_ hon hoff
            refine ⟨_, rfl, fun K hK => ?_⟩
            have t16 := hX.t_on 3 rfl (hon 3 (by kernel_rfl))
            have e16 := eval_of t16
            refine off_ (wanted_off rfl rfl rfl (lkt t16 hT1)) ?_
            show K (a.put (some 18) undef) w'
            refine hK.out _ _ ⟨(hX.put 5 hb_ rfl rfl rfl rfl rfl rfl), HB, X1, IT, X2, X3⟩
          refine steps_cons ?_ ?_
          · rintro b a w' ⟨hX, HB, X1, IT, X2, X3⟩ hb_ hon hoff
            refine ⟨_, rfl, fun K hK => ?_⟩
            have t16 := hX.t_on 3 rfl (hon 3 (by kernel_rfl))
            have e16 := eval_of t16
            refine off_ (wanted_off rfl rfl rfl (lkt t16 hT1)) ?_
            show K (a.put (some 19) undef) w'
            refine hK.out _ _ ⟨(hX.put 6 hb_ rfl rfl rfl rfl rfl rfl), HB, X1, IT, X2, X3⟩
          refine steps_cons ?_ ?_
          · rintro b a w' ⟨hX, HB, X1, IT, X2, X3⟩ hb_ hon hoff
            refine ⟨_, rfl, fun K hK => ?_⟩
            have t16 := hX.t_on 3 rfl (hon 3 (by kernel_rfl))
            have e16 := eval_of t16
            refine off_ (wanted_off rfl rfl rfl (lkt t16 hT1)) ?_
            show K (a.put (some 20) undef) w'
            refine hK.out _ _ ⟨(hX.put 7 hb_ rfl rfl rfl rfl rfl rfl), HB, X1, IT, X2, X3⟩
          refine steps_cons ?_ ?_
          · rintro b a w' ⟨hX, HB, X1, IT, X2, X3⟩ hb_ hon hoff
            refine ⟨_, rfl, fun K hK => ?_⟩
            have t16 := hX.t_on 3 rfl (hon 3 (by kernel_rfl))
            have e16 := eval_of t16
            refine off_ (wanted_off rfl rfl rfl (lkt t16 hT1)) ?_
            show K (a.put (some 21) undef) w'
            refine hK.out _ _ ⟨(hX.put 8 hb_ rfl rfl rfl rfl rfl rfl), HB, X1, IT, X2, X3⟩
          refine steps_cons ?_ ?_
          · rintro b a w' ⟨hX, HB, X1, IT, X2, X3⟩ hb_ hon hoff
            refine ⟨_, rfl, fun K hK => ?_⟩
            have t16 := hX.t_on 3 rfl (hon 3 (by kernel_rfl))
            have e16 := eval_of t16
            refine off_ (wanted_off rfl rfl rfl (lkt t16 hT1)) ?_
            show K (a.put (some 22) undef) w'
            refine hK.out _ _ ⟨(hX.put 9 hb_ rfl rfl rfl rfl rfl rfl), HB, X1, IT, X2, X3⟩
          refine steps_cons ?_ ?_
          · rintro b a w' ⟨hX, HB, X1, IT, X2, X3⟩ hb_ hon hoff
            refine ⟨_, rfl, fun K hK => ?_⟩
            have t16 := hX.t_on 3 rfl (hon 3 (by kernel_rfl))
            have e16 := eval_of t16
            have t22 := hX.t_on 9 rfl (hon 9 (by kernel_rfl))
            have e22 := eval_of t22
            refine value_ (N := some 23) (v := .bool false) (run_guard rfl) rfl (r_pick_f rfl (e16.trans (congrArg Value.bool hT1)) ev_c) ?_
            refine hK.out _ _ ⟨(hX.put 10 hb_ rfl rfl rfl rfl rfl rfl), HB, X1, IT, X2, X3⟩
          refine steps_cons ?_ ?_
          · rintro b a w' ⟨hX, HB, X1, IT, X2, X3⟩ hb_ hon hoff
            refine ⟨_, rfl, fun K hK => ?_⟩
            have t23 := hX.t_on 10 rfl (hon 10 (by kernel_rfl))
            have e23 := eval_of t23
            refine value_ (N := some 24) (v := .bool false) (run_guard rfl) rfl (r_move rfl e23) ?_
            refine hK.out _ _ ⟨(hX.put 11 hb_ rfl rfl rfl rfl rfl rfl), HB, X1, IT, X2, X3⟩
          refine steps_cons ?_ ?_
          · rintro b a w' ⟨hX, HB, X1, IT, X2, X3⟩ hb_ hon hoff
            refine ⟨_, rfl, fun K hK => ?_⟩
            have t24 := hX.t_on 11 rfl (hon 11 (by kernel_rfl))
            have e24 := eval_of t24
            refine off_ (wanted_off rfl rfl rfl t24) ?_
            show K (a.put (some 25) undef) w'
            refine hK.out _ _ ⟨(hX.put 12 hb_ rfl rfl rfl rfl rfl rfl), HB, X1, IT, X2, X3⟩
          refine steps_cons ?_ ?_
          · rintro b a w' ⟨hX, HB, X1, IT, X2, X3⟩ hb_ hon hoff
            refine ⟨_, rfl, fun K hK => ?_⟩
            have t24 := hX.t_on 11 rfl (hon 11 (by kernel_rfl))
            have e24 := eval_of t24
            refine off_ (wanted_off rfl rfl rfl t24) ?_
            show K (a.put (some 26) undef) w'
            refine hK.out _ _ ⟨(hX.put 13 hb_ rfl rfl rfl rfl rfl rfl), HB, X1, IT, X2, X3⟩
          refine steps_cons ?_ ?_
          · rintro b a w' ⟨hX, HB, X1, IT, X2, X3⟩ hb_ hon hoff
            refine ⟨_, rfl, fun K hK => ?_⟩
            have t24 := hX.t_on 11 rfl (hon 11 (by kernel_rfl))
            have e24 := eval_of t24
            refine off_ (wanted_off rfl rfl rfl t24) ?_
            show K (a.put (some 27) undef) w'
            refine hK.out _ _ ⟨(hX.put 14 hb_ rfl rfl rfl rfl rfl rfl), HB, X1, IT, X2, X3⟩
          refine steps_cons ?_ ?_
          · rintro b a w' ⟨hX, HB, X1, IT, X2, X3⟩ hb_ hon hoff
            refine ⟨_, rfl, fun K hK => ?_⟩
            have t24 := hX.t_on 11 rfl (hon 11 (by kernel_rfl))
            have e24 := eval_of t24
            refine off_ (wanted_off rfl rfl rfl t24) ?_
            show K (a.put (some 28) undef) w'
            refine hK.out _ _ ⟨(hX.put 15 hb_ rfl rfl rfl rfl rfl rfl), HB, X1, IT, X2, X3⟩
          refine steps_cons ?_ ?_
          · rintro b a w' ⟨hX, HB, X1, IT, X2, X3⟩ hb_ hon hoff
            refine ⟨_, rfl, fun K hK => ?_⟩
            have t24 := hX.t_on 11 rfl (hon 11 (by kernel_rfl))
            have e24 := eval_of t24
            refine off_ (wanted_off rfl rfl rfl t24) ?_
            show K (a.put (some 29) undef) w'
            refine hK.out _ _ ⟨(hX.put 16 hb_ rfl rfl rfl rfl rfl rfl), HB, X1, IT, X2, X3⟩
          refine steps_cons ?_ ?_
          · rintro b a w' ⟨hX, HB, X1, IT, X2, X3⟩ hb_ hon hoff
            refine ⟨_, rfl, fun K hK => ?_⟩
            have t24 := hX.t_on 11 rfl (hon 11 (by kernel_rfl))
            have e24 := eval_of t24
            refine off_ (wanted_off rfl rfl rfl t24) ?_
            show K (a.put (some 30) undef) w'
            refine hK.out _ _ ⟨(hX.put 17 hb_ rfl rfl rfl rfl rfl rfl), HB, X1, IT, X2, X3⟩
          refine steps_cons ?_ ?_
          · rintro b a w' ⟨hX, HB, X1, IT, X2, X3⟩ hb_ hon hoff
            refine ⟨_, rfl, fun K hK => ?_⟩
            have t24 := hX.t_on 11 rfl (hon 11 (by kernel_rfl))
            have e24 := eval_of t24
            have t30 := hX.t_on 17 rfl (hon 17 (by kernel_rfl))
            have e30 := eval_of t30
            refine value_ (N := some 31) (v := .bool false) (run_guard rfl) rfl (r_pick_f rfl e24 ev_c) ?_
            refine hK.out _ _ ⟨(hX.put 18 hb_ rfl rfl rfl rfl rfl rfl), HB, X1, IT, X2, X3⟩
          exact steps_nil
        · rintro b ac20 w19 hall ⟨hX, HB, X1, IT, X2, X3⟩
          have F20 := hX.done (all_of hall rfl) (L' := [(13, .slice A0 l0.length c0), (14, .int .i64 (l0.length : Int)), (15, .bool (decide (2 < (l0.length : Int)))), (16, .bool (decide (2 < (l0.length : Int)))), (17, undef), (18, undef), (19, undef), (20, undef), (21, undef), (22, undef), (23, .bool false), (24, .bool false), (25, undef), (26, undef), (27, undef), (28, undef), (29, undef), (30, undef), (31, .bool false), (0, .slice A0 l0.length c0), (2, .pointer (some ⟨b1, 0, none⟩)), (7, .pointer (some ⟨rg1, 0, none⟩)), (4, .pointer (some ⟨b2, 0, none⟩)), (5, .pointer (some ⟨b3, 0, none⟩))]) rfl
          clear hX
          clear hall
          refine hK9 _ _ ?_
          refine wp_cond_false (F20.ev rfl) ?_
          refine wp_skip ?_
          refine ⟨m_, hlt_, F20.pick ⟨rfl, rfl, rfl, trivial⟩, X1, ⟨iter_drop IT.out (fun hq_ => Bool.noConfusion (hT1.symm.trans hq_.1))⟩, HB⟩
end Go.Proofs.YtndijkndllpkgaaDoor.Pr
/- The walk of felucca/direct.Parse by explicit steps (wip/xdir.py). -/
namespace Go.Proofs.YtndijkndllpkgaaDoor.Pr
open Go.RowKit Go.Proofs.YtndijkndllpkgaaDoor.Frm Go.Proofs.YtndijkndllpkgaaDoorW.PrintWords Go.Proofs.YtndijkndllpkgaaDoorW.PrintLast Go.Proofs.YtndijkndllpkgaaDoorW.PrintMore Go.Proofs.YtndijkndllpkgaaDoor.X
set_option linter.unusedVariables false
set_option linter.unusedSimpArgs false
theorem direct_Parse.zv38 (w : World) : (zeroValue 38).run Tryd.prog w = .ok (.agg #[.int .i64 0, .int .i64 0, .int .i64 0, .int .i64 0, .int .i64 0, .int .i64 0, .int .i64 0, .int .i64 0, .int .i64 0, .int .i64 0, .int .i64 0, .int .i64 0, .int .i64 0]) w := by
  first | (go_simp; done) | (go_simp; rfl) | rfl
theorem direct_Parse.sz38 : (Tryd.prog.info? 38).map (·.size) = some 13 := by
  kernel_rfl
theorem direct_Parse.bld38_ (w : World) : (Instr.build 38 #[]).run Tryd.prog w = .ok (.agg #[.int .i64 0, .int .i64 0, .int .i64 0, .int .i64 0, .int .i64 0, .int .i64 0, .int .i64 0, .int .i64 0, .int .i64 0, .int .i64 0, .int .i64 0, .int .i64 0, .int .i64 0]) w := by
  first | (go_simp; done) | (go_simp; rfl) | rfl
theorem direct_Parse.fa38_0 (b o : Nat) (w : World) : (Instr.fieldAt 38 (.pointer (some ⟨b, o, none⟩)) 0).run Tryd.prog w = .ok (.pointer (some ⟨b, o, none⟩)) w := by
  first | (go_simp; done) | (simp [Instr.fieldAt, Instr.sureAddr, Sem.run_bind, run_underlying Tryd.underlying38, fieldPlace, sizeOf, typeInfo, Addr.add]; done) | (go_simp; simp [Addr.add])
theorem direct_Parse.fa38_1 (b o : Nat) (w : World) : (Instr.fieldAt 38 (.pointer (some ⟨b, o, none⟩)) 1).run Tryd.prog w = .ok (.pointer (some ⟨b, o + 1, none⟩)) w := by
  first | (go_simp; done) | (simp [Instr.fieldAt, Instr.sureAddr, Sem.run_bind, run_underlying Tryd.underlying38, fieldPlace, sizeOf, typeInfo, Addr.add]; done) | (go_simp; simp [Addr.add])
theorem direct_Parse.bld60_0_1 (p0_0 : Int) (p1_0 : Int) (w : World) : (Instr.build 60 #[(0, .int .i64 p0_0), (1, .int .i64 p1_0)]).run Tryd.prog w = .ok (.agg #[.int .i64 p0_0, .int .i64 p1_0]) w := by
  first | (go_simp; done) | (go_simp; rfl) | rfl
theorem direct_Parse.fld56_2 (c0 c1 c2 : Value) (w : World) : (Instr.field 56 (.agg #[c0, c1, c2]) 2).run Tryd.prog w = .ok (c2) w := by
  first | (go_simp; done) | (go_simp; rfl) | rfl
def direct_Parse.T4 : Bool × List (List Nat × List Nat) := (true, [([], []), ([], []), ([1], [1]), ([], []), ([3], [3]), ([2, 4], [2, 4]), ([0, 5], [0, 5]), ([6], [6]), ([7, 0], [7]), ([8], [8]), ([], [])])
def direct_Parse.B4 : List Nat := [0, 0, 2, 0, 8, 30, 63, 127, 255, 511, 0]
theorem direct_Parse.tab4 : rtab .any (opsOf Tryd.f28 4) = direct_Parse.T4 := by kernel_rfl
theorem direct_Parse.bits4 : waitsOk direct_Parse.T4.2 direct_Parse.B4 = true := by kernel_rfl
theorem direct_Parse.sz63 : (Tryd.prog.info? 63).map (·.size) = some 1 := by
  kernel_rfl
theorem direct_Parse.sz9 : (Tryd.prog.info? 9).map (·.size) = some 1 := by
  kernel_rfl
theorem direct_Parse.sz3 : (Tryd.prog.info? 3).map (·.size) = some 1 := by
  kernel_rfl
def direct_Parse.l0 : Nat → (List ByteArray) → Int → Int → Int → Int → Int → Int → Int → Int → Int → Int → Int → Int → Int → Int → Int → Int → Option (Int × Int × Int × Int × Int × Int × Int × Int × Int × Int × Int × Int × Int × Int)
  | 0, _, _, _, _, _, _, _, _, _, _, _, _, _, _, _, _, _ => none
  | k + 1, l0, y1, y2, x26, xX2_0, xX2_1, xX2_2, xX2_3, xX2_4, xX2_5, xX2_6, xX2_7, xX2_8, xX2_9, xX2_10, xX2_11, xX2_12 => bif decide (x26 < ((offs y1 y2).length : Int)) then (bif decide (0 ≤ x26) then (bif decide (0 ≤ (wrap64 (2 + x26))) then (bif decide ((wrap64 (2 + x26)) < (l0.length : Int)) then ((num_Parse.f (l0.getD (wrap64 (2 + x26) : Int).toNat (⟨#[]⟩ : ByteArray)) 2147483647).bind fun ⟨y15, y16⟩ => (bif (!y16) then (some (0, 0, 0, 0, 0, 0, 0, 0, 0, 0, 0, 0, 0, 2)) else ((direct_Parse.l0 k l0 y1 y2 (wrap64 (x26 + 1)) (bif Nat.beq ((offs y1 y2).getD (x26 : Int).toNat (0 : Nat)) 0 then y15 else xX2_0) (bif Nat.beq ((offs y1 y2).getD (x26 : Int).toNat (0 : Nat)) 1 then y15 else xX2_1) (bif Nat.beq ((offs y1 y2).getD (x26 : Int).toNat (0 : Nat)) 2 then y15 else xX2_2) (bif Nat.beq ((offs y1 y2).getD (x26 : Int).toNat (0 : Nat)) 3 then y15 else xX2_3) (bif Nat.beq ((offs y1 y2).getD (x26 : Int).toNat (0 : Nat)) 4 then y15 else xX2_4) (bif Nat.beq ((offs y1 y2).getD (x26 : Int).toNat (0 : Nat)) 5 then y15 else xX2_5) (bif Nat.beq ((offs y1 y2).getD (x26 : Int).toNat (0 : Nat)) 6 then y15 else xX2_6) (bif Nat.beq ((offs y1 y2).getD (x26 : Int).toNat (0 : Nat)) 7 then y15 else xX2_7) (bif Nat.beq ((offs y1 y2).getD (x26 : Int).toNat (0 : Nat)) 8 then y15 else xX2_8) (bif Nat.beq ((offs y1 y2).getD (x26 : Int).toNat (0 : Nat)) 9 then y15 else xX2_9) (bif Nat.beq ((offs y1 y2).getD (x26 : Int).toNat (0 : Nat)) 10 then y15 else xX2_10) (bif Nat.beq ((offs y1 y2).getD (x26 : Int).toNat (0 : Nat)) 11 then y15 else xX2_11) (bif Nat.beq ((offs y1 y2).getD (x26 : Int).toNat (0 : Nat)) 12 then y15 else xX2_12))))) else (none)) else (none)) else (none)) else ((direct_Right.f xX2_0 xX2_1 xX2_2 xX2_3 xX2_4 xX2_5 xX2_6 xX2_7 xX2_8 xX2_9 xX2_10 xX2_11 xX2_12).bind fun y17 => (bif (!y17) then (some (0, 0, 0, 0, 0, 0, 0, 0, 0, 0, 0, 0, 0, 1)) else (some (xX2_0, xX2_1, xX2_2, xX2_3, xX2_4, xX2_5, xX2_6, xX2_7, xX2_8, xX2_9, xX2_10, xX2_11, xX2_12, 0))))
def direct_Parse.f (k : Nat) (l0 : List ByteArray) : Option (Int × Int × Int × Int × Int × Int × Int × Int × Int × Int × Int × Int × Int × Int) := (direct_find.f l0).bind fun ⟨y1, y2, y3, y4, y5, y6, y7, y8, y9, y10, y11, y12, y13, y14⟩ => (bif (!y14) then (some (0, 0, 0, 0, 0, 0, 0, 0, 0, 0, 0, 0, 0, 2)) else (bif decide ((y1, y2) ∈ pairs) then ((direct_Parse.l0 k l0 y1 y2 0 y1 y2 y3 y4 y5 y6 y7 y8 y9 y10 y11 y12 y13)) else (none)))
set_option maxHeartbeats 4000000 in
set_option maxRecDepth 100000 in
theorem direct_Parse.calls (k : Nat) (A0 : Option Addr) (c0 : Nat) (l0 : List ByteArray) (r1 : Int) (r2 : Int) (r3 : Int) (r4 : Int) (r5 : Int) (r6 : Int) (r7 : Int) (r8 : Int) (r9 : Int) (r10 : Int) (r11 : Int) (r12 : Int) (r13 : Int) (r14 : Int) (w : World) (hr0 : Kd.C Kd.string w A0 l0.length l0) (hc0 : l0.length ≤ c0) (h : direct_Parse.f k l0 = some (r1, r2, r3, r4, r5, r6, r7, r8, r9, r10, r11, r12, r13, r14)) :
    Calls Tryd.prog 28 #[.slice A0 l0.length c0] w fun e w' => e = .returned (.tuple #[.agg #[.int .i64 r1, .int .i64 r2, .int .i64 r3, .int .i64 r4, .int .i64 r5, .int .i64 r6, .int .i64 r7, .int .i64 r8, .int .i64 r9, .int .i64 r10, .int .i64 r11, .int .i64 r12, .int .i64 r13], .int .i64 r14]) ∧ Below w.heap.size w w' := by
  unfold direct_Parse.f at h
  have HB := Aside0.mk (Below.refl w.heap.size w)
  have HR0 := Aside0.mk hr0
  have HC0 := Aside0.mk hc0
  clear hr0 hc0
  refine calls_x (args := [.slice A0 l0.length c0]) Tryd.func28 rfl 51 51 rfl rfl (fun ac0 F0 => ?_)
  refine wp_seq_k (fun K1 hK1 => ?_)
  refine wp_region_lit ?_
  refine s_new (cs := #[.int .i64 0, .int .i64 0, .int .i64 0, .int .i64 0, .int .i64 0, .int .i64 0, .int .i64 0, .int .i64 0, .int .i64 0, .int .i64 0, .int .i64 0, .int .i64 0, .int .i64 0]) F0 (run_guard rfl) rfl rfl (r_alloc rfl (direct_Parse.zv38 _) rfl) (fun ac1 w1 b1 hb hge hlt hE F1 => ?_)
  clear F0 ac0
  have GEX1 := Aside0.mk (Nat.le_trans HB.out.size hge)
  replace HB := Aside0.mk (below_step HB.out hE)
  have X1 := Aside0.mk hb
  clear hb hge hlt hE
  refine sv (v := .int .i64 0) F1 (run_guard rfl) rfl rfl (r_assign rfl ev_c) (fun ac2 F2 => ?_)
  clear F1 ac1
  refine c_end F2 ?_
  refine hK1 _ _ ?_
  refine wp_seq_k (fun K2 hK2 => ?_)
  refine wp_region_lit ?_
  refine sv (v := .slice A0 l0.length c0) F2 (run_guard rfl) rfl rfl (r_move rfl (F2.ev rfl)) (fun ac3 F3 => ?_)
  clear F2 ac2
  replace h := Option.bind_eq_some_iff.1 h
  obtain ⟨⟨y1, y2, y3, y4, y5, y6, y7, y8, y9, y10, y11, y12, y13, y14⟩, hy, h⟩ := h
  refine sc F3 (run_guard rfl) rfl rfl (r_call rfl Tryd.func39 (by kernel_rfl) rfl rfl (m1 (F3.ev rfl))) ?_
  refine (direct_find.calls A0 c0 l0 _ _ _ _ _ _ _ _ _ _ _ _ _ _ _ (Kd.C_below HR0.out HB.out) HC0.out hy).mono ?_
  rintro e w2 ⟨rfl, hE⟩
  clear hy
  replace X1 := Aside0.mk (blk_below X1.out hE)
  replace HB := Aside0.mk (below_step HB.out hE)
  refine ⟨_, rfl, fun ac4 F4 => ?_⟩
  clear hE F3 ac3
  refine sv (v := .tuple #[.agg #[.int .i64 y1, .int .i64 y2, .int .i64 y3, .int .i64 y4, .int .i64 y5, .int .i64 y6, .int .i64 y7, .int .i64 y8, .int .i64 y9, .int .i64 y10, .int .i64 y11, .int .i64 y12, .int .i64 y13], .bool y14]) F4 (run_guard rfl) rfl rfl (r_move rfl (F4.ev rfl)) (fun ac5 F5 => ?_)
  clear F4 ac4
  refine sv (v := .agg #[.int .i64 y1, .int .i64 y2, .int .i64 y3, .int .i64 y4, .int .i64 y5, .int .i64 y6, .int .i64 y7, .int .i64 y8, .int .i64 y9, .int .i64 y10, .int .i64 y11, .int .i64 y12, .int .i64 y13]) F5 (run_guard rfl) rfl rfl (r_extract rfl (F5.ev rfl) rfl) (fun ac6 F6 => ?_)
  clear F5 ac5
  refine sv (v := .bool y14) F6 (run_guard rfl) rfl rfl (r_extract rfl (F6.ev rfl) rfl) (fun ac7 F7 => ?_)
  clear F6 ac6
  refine s_new (cs := #[.int .i64 0, .int .i64 0, .int .i64 0, .int .i64 0, .int .i64 0, .int .i64 0, .int .i64 0, .int .i64 0, .int .i64 0, .int .i64 0, .int .i64 0, .int .i64 0, .int .i64 0]) F7 (run_guard rfl) rfl rfl (r_alloc rfl (direct_Parse.zv38 _) rfl) (fun ac8 w3 b2 hb hge hlt hE F8 => ?_)
  clear F7 ac7
  have GEX2 := Aside0.mk (Nat.le_trans HB.out.size hge)
  have LTX1_X2 := Aside0.mk (Nat.lt_of_lt_of_le (blk_lt X1.out) hge)
  replace X1 := Aside0.mk (blk_below X1.out hE)
  replace HB := Aside0.mk (below_step HB.out hE)
  have X2 := Aside0.mk hb
  clear hb hge hlt hE
  obtain ⟨w4, hs, hS⟩ := s_part (P := Tryd.prog) (t := 38) (l' := [.int .i64 y1, .int .i64 y2, .int .i64 y3, .int .i64 y4, .int .i64 y5, .int .i64 y6, .int .i64 y7, .int .i64 y8, .int .i64 y9, .int .i64 y10, .int .i64 y11, .int .i64 y12, .int .i64 y13]) X2.out 0 #[.int .i64 y1, .int .i64 y2, .int .i64 y3, .int .i64 y4, .int .i64 y5, .int .i64 y6, .int .i64 y7, .int .i64 y8, .int .i64 y9, .int .i64 y10, .int .i64 y11, .int .i64 y12, .int .i64 y13] rfl rfl direct_Parse.sz38 rfl
  refine ss F8 (run_guard rfl) rfl (r_store rfl (F8.ev rfl) (F8.ev rfl) hs) ?_
  clear hs
  replace X1 := Aside0.mk (hS.blk X1.out (Nat.ne_of_lt LTX1_X2.out))
  replace HB := Aside0.mk (HB.out.trans (hS.below _ GEX2.out))
  replace X2 := Aside0.mk hS.here
  clear hS
  refine sv (v := .bool y14) F8 (run_guard rfl) rfl rfl (r_assign rfl (F8.ev rfl)) (fun ac9 F9 => ?_)
  clear F8 ac8
  refine c_end F9 ?_
  refine hK2 _ _ ?_
  refine wp_seq_k (fun K3 hK3 => ?_)
  refine wp_seq_k (fun K4 hK4 => ?_)
  refine wp_region_lit ?_
  refine sv (v := .bool y14) F9 (run_guard rfl) rfl rfl (r_move rfl (F9.ev rfl)) (fun ac10 F10 => ?_)
  clear F9 ac9
  refine sv (v := .bool (!y14)) F10 (run_guard rfl) rfl rfl (r_not (b := y14) rfl (F10.ev rfl)) (fun ac11 F11 => ?_)
  clear F10 ac10
  refine c_end F11 ?_
  refine hK4 _ _ ?_
  cases hT1 : (!y14) with
  | true =>
    replace h := cond_t hT1 h
    refine wp_cond_true (F11.ev (lk rfl hT1)) ?_
    refine wp_seq_k (fun K5 hK5 => ?_)
    clear X2
    refine wp_region_lit ?_
    refine sv (v := .agg #[.int .i64 0, .int .i64 0, .int .i64 0, .int .i64 0, .int .i64 0, .int .i64 0, .int .i64 0, .int .i64 0, .int .i64 0, .int .i64 0, .int .i64 0, .int .i64 0, .int .i64 0]) F11 (run_guard rfl) rfl rfl (r_build rfl p0 (direct_Parse.bld38_ _)) (fun ac12 F12 => ?_)
    clear F11 ac11
    obtain ⟨w5, hs, hS⟩ := s_part (P := Tryd.prog) (t := 38) (l' := [.int .i64 0, .int .i64 0, .int .i64 0, .int .i64 0, .int .i64 0, .int .i64 0, .int .i64 0, .int .i64 0, .int .i64 0, .int .i64 0, .int .i64 0, .int .i64 0, .int .i64 0]) X1.out 0 #[.int .i64 0, .int .i64 0, .int .i64 0, .int .i64 0, .int .i64 0, .int .i64 0, .int .i64 0, .int .i64 0, .int .i64 0, .int .i64 0, .int .i64 0, .int .i64 0, .int .i64 0] rfl rfl direct_Parse.sz38 rfl
    refine ss F12 (run_guard rfl) rfl (r_store rfl (F12.ev rfl) (F12.ev rfl) hs) ?_
    clear hs
    replace HB := Aside0.mk (HB.out.trans (hS.below _ GEX1.out))
    replace X1 := Aside0.mk hS.here
    clear hS
    refine sv (v := .int .i64 2) F12 (run_guard rfl) rfl rfl (r_assign rfl ev_c) (fun ac13 F13 => ?_)
    clear F12 ac12
    refine c_end F13 ?_
    refine hK5 _ _ ?_
    refine wp_ret ?_
    (try simp only [Exit.then, Exit.inBlock])
    refine retx (fn := Tryd.f28) F13 (results2 (fn := Tryd.f28) rfl (rv_c (t := 2) (T := 38) (v := .agg #[.int .i64 0, .int .i64 0, .int .i64 0, .int .i64 0, .int .i64 0, .int .i64 0, .int .i64 0, .int .i64 0, .int .i64 0, .int .i64 0, .int .i64 0, .int .i64 0, .int .i64 0]) F13 rfl (l_part X1.out 0 [.int .i64 0, .int .i64 0, .int .i64 0, .int .i64 0, .int .i64 0, .int .i64 0, .int .i64 0, .int .i64 0, .int .i64 0, .int .i64 0, .int .i64 0, .int .i64 0, .int .i64 0] rfl Tryd.underlying38 rfl direct_Parse.sz38)) (rv_t (t := 3) (v := .int .i64 2) F13 rfl)) ?_
    cases h
    exact ⟨rfl, HB.out⟩
  | false =>
    replace h := cond_f hT1 h
    refine wp_cond_false (F11.ev (lk rfl hT1)) ?_
    refine wp_skip ?_
    refine hK3 _ _ ?_
    refine wp_seq_k (fun K6 hK6 => ?_)
    refine wp_seq_k (fun K7 hK7 => ?_)
    cases hT2 : decide ((y1, y2) ∈ pairs) with
    | true =>
      replace h := cond_t hT2 h
      refine start_ (n := 11) (S := fun _ => True) (ds := []) #[false, false, false, false, false, false, false, false, false, false, false] (by kernel_rfl) rfl rfl trivial (fun _ => ?_)
      refine with_tabW direct_Parse.tab4 direct_Parse.bits4 (fun HT_ HW_ => ?_)
      have hE := below_drew (Below.refl w4.heap.size w4)
      generalize w4.drew = w6 at hE ⊢
      replace X1 := Aside0.mk (blk_below X1.out hE)
      replace X2 := Aside0.mk (blk_below X2.out hE)
      replace HB := Aside0.mk (below_step HB.out hE)
      clear hE
      refine inv_at [0, 1, 2, 3, 4, 5, 6, 7, 8, 9, 10] (fun (a0_ : Act) (b : Nat → Bool) (a : Act) (w' : World) => ∃ bm1 : Nat, ∃ B1 : Nat, ∃ Aq1 : Option Addr, ∃ cq1 : Nat, FrB a 51 b [(0, .slice A0 l0.length c0), (2, .pointer (some ⟨b1, 0, none⟩)), (4, .pointer (some ⟨b2, 0, none⟩))] [(0, 16, .map (some bm1)), (1, 17, .pointer (some ⟨b2, 0, none⟩)), (2, 18, .int .i64 y1), (3, 19, .pointer (some ⟨b2, 1, none⟩)), (4, 20, .int .i64 y2), (5, 21, .agg #[.int .i64 y1, .int .i64 y2]), (6, 22, .agg #[.string (opS y1), .string (kdS y2), (fnV B1 y1 y2)]), (7, 23, (fnV B1 y1 y2)), (8, 24, .slice Aq1 ((offs y1 y2).length) cq1), (9, 25, .int .i64 ((offs y1 y2).length : Int)), (10, 26, .int .i64 0)] [] ∧ (Aside0 (Below w.heap.size w w')) ∧ (Aside0 (w'.heap[b1]? = some (.cells #[.int .i64 0, .int .i64 0, .int .i64 0, .int .i64 0, .int .i64 0, .int .i64 0, .int .i64 0, .int .i64 0, .int .i64 0, .int .i64 0, .int .i64 0, .int .i64 0, .int .i64 0] 38 (0, 0)))) ∧ (Aside0 (w'.heap[b2]? = some (.cells #[.int .i64 y1, .int .i64 y2, .int .i64 y3, .int .i64 y4, .int .i64 y5, .int .i64 y6, .int .i64 y7, .int .i64 y8, .int .i64 y9, .int .i64 y10, .int .i64 y11, .int .i64 y12, .int .i64 y13] 38 (0, 0)))) ∧ (b 0 = true → Aside0 (FormsAt w' bm1 B1)) ∧ (b 8 = true → Aside0 (Kd.R (kP b2) 63 w' w.heap.size (fun _ => True) (.slice Aq1 ((offs y1 y2).length) cq1) (offs y1 y2)))) HT_.out HW_.out (by kernel_rfl) (by kernel_rfl) ?_ ?_ ?_
      · exact ⟨0, 0, none, 0, FrB.start F11 ⟨rfl, rfl, rfl, trivial⟩ trivial, HB, X1, X2, (fun h_ => by cases h_), (fun h_ => by cases h_)⟩
      · clear F11 HB X1 X2 HT_ HW_
        refine steps_cons ?_ ?_
        · rintro b a w' ⟨bm1, B1, Aq1, cq1, hX, HB, X1, X2, FF1, R1⟩ hb_ hon hoff
          refine ⟨_, rfl, fun K hK => ?_⟩
          refine call_ (N := some 16) _ _ (run_guard rfl) rfl (r_call rfl Tryd.func36 (by kernel_rfl) rfl rfl m0) ?_
          refine (forms_calls _).mono ?_
          rintro e w1 ⟨bm1', B1', rfl, hb1_, hB1_, hF_, hE⟩
          clear hb1_ hB1_
          refine ⟨_, rfl, ?_⟩
          refine hK.out _ _ ⟨bm1', B1', Aq1, cq1, ((FrB.turn (C' := [(0, 16, .map (some bm1)), (1, 17, .pointer (some ⟨b2, 0, none⟩)), (2, 18, .int .i64 y1), (3, 19, .pointer (some ⟨b2, 1, none⟩)), (4, 20, .int .i64 y2), (5, 21, .agg #[.int .i64 y1, .int .i64 y2]), (6, 22, .agg #[.string (opS y1), .string (kdS y2), (fnV B1' y1 y2)]), (7, 23, (fnV B1' y1 y2)), (8, 24, .slice Aq1 ((offs y1 y2).length) cq1), (9, 25, .int .i64 ((offs y1 y2).length : Int)), (10, 26, .int .i64 0)]) hX ⟨.inl rfl, .inl rfl, .inl rfl, .inl rfl, .inl rfl, .inl rfl, .inr (hoff 6 (by kernel_rfl)), .inr (hoff 7 (by kernel_rfl)), .inl rfl, .inl rfl, .inl rfl, trivial⟩).put 0 hb_ rfl rfl rfl rfl rfl rfl), ⟨below_step HB.out hE⟩, ⟨blk_below X1.out hE⟩, ⟨blk_below X2.out hE⟩, (fun h0_ => ⟨hF_⟩), (fun h0_ => by rw [up_ne (by decide), hoff 8 (by kernel_rfl)] at h0_; cases h0_)⟩
        refine steps_cons ?_ ?_
        · rintro b a w' ⟨bm1, B1, Aq1, cq1, hX, HB, X1, X2, FF1, R1⟩ hb_ hon hoff
          refine ⟨_, rfl, fun K hK => ?_⟩
          have t4 : a.tmps[4]? = some (.pointer (some ⟨b2, 0, none⟩)) := hX.t_in rfl
          have e4 := eval_of t4
          refine value_ (N := some 17) (v := .pointer (some ⟨b2, 0, none⟩)) (run_guard rfl) rfl (r_fieldAddr rfl e4 (direct_Parse.fa38_0 _ _ _)) ?_
          refine hK.out _ _ ⟨bm1, B1, Aq1, cq1, (hX.put 1 hb_ rfl rfl rfl rfl rfl rfl), HB, X1, X2, (fun h0_ => (FF1 (by rwa [up_ne (by decide)] at h0_))), (fun h0_ => by rw [up_ne (by decide), hoff 8 (by kernel_rfl)] at h0_; cases h0_)⟩
        refine steps_cons ?_ ?_
        · rintro b a w' ⟨bm1, B1, Aq1, cq1, hX, HB, X1, X2, FF1, R1⟩ hb_ hon hoff
          refine ⟨_, rfl, fun K hK => ?_⟩
          have t17 := hX.t_on 1 rfl (hon 1 (by kernel_rfl))
          have e17 := eval_of t17
          refine value_ (N := some 18) (v := .int .i64 y1) (run_guard rfl) rfl (r_load rfl e17 (l_one X2.out 0 rfl (agg_no Tryd.underlying3 rfl))) ?_
          refine hK.out _ _ ⟨bm1, B1, Aq1, cq1, (hX.put 2 hb_ rfl rfl rfl rfl rfl rfl), HB, X1, X2, (fun h0_ => (FF1 (by rwa [up_ne (by decide)] at h0_))), (fun h0_ => by rw [up_ne (by decide), hoff 8 (by kernel_rfl)] at h0_; cases h0_)⟩
        refine steps_cons ?_ ?_
        · rintro b a w' ⟨bm1, B1, Aq1, cq1, hX, HB, X1, X2, FF1, R1⟩ hb_ hon hoff
          refine ⟨_, rfl, fun K hK => ?_⟩
          have t4 : a.tmps[4]? = some (.pointer (some ⟨b2, 0, none⟩)) := hX.t_in rfl
          have e4 := eval_of t4
          refine value_ (N := some 19) (v := .pointer (some ⟨b2, 1, none⟩)) (run_guard rfl) rfl (r_fieldAddr rfl e4 (direct_Parse.fa38_1 _ _ _)) ?_
          refine hK.out _ _ ⟨bm1, B1, Aq1, cq1, (hX.put 3 hb_ rfl rfl rfl rfl rfl rfl), HB, X1, X2, (fun h0_ => (FF1 (by rwa [up_ne (by decide)] at h0_))), (fun h0_ => by rw [up_ne (by decide), hoff 8 (by kernel_rfl)] at h0_; cases h0_)⟩
        refine steps_cons ?_ ?_
        · rintro b a w' ⟨bm1, B1, Aq1, cq1, hX, HB, X1, X2, FF1, R1⟩ hb_ hon hoff
          refine ⟨_, rfl, fun K hK => ?_⟩
          have t19 := hX.t_on 3 rfl (hon 3 (by kernel_rfl))
          have e19 := eval_of t19
          refine value_ (N := some 20) (v := .int .i64 y2) (run_guard rfl) rfl (r_load rfl e19 (l_one X2.out 1 rfl (agg_no Tryd.underlying3 rfl))) ?_
          refine hK.out _ _ ⟨bm1, B1, Aq1, cq1, (hX.put 4 hb_ rfl rfl rfl rfl rfl rfl), HB, X1, X2, (fun h0_ => (FF1 (by rwa [up_ne (by decide)] at h0_))), (fun h0_ => by rw [up_ne (by decide), hoff 8 (by kernel_rfl)] at h0_; cases h0_)⟩
        refine steps_cons ?_ ?_
        · rintro b a w' ⟨bm1, B1, Aq1, cq1, hX, HB, X1, X2, FF1, R1⟩ hb_ hon hoff
          refine ⟨_, rfl, fun K hK => ?_⟩
          have t18 := hX.t_on 2 rfl (hon 2 (by kernel_rfl))
          have e18 := eval_of t18
          have t20 := hX.t_on 4 rfl (hon 4 (by kernel_rfl))
          have e20 := eval_of t20
          refine value_ (N := some 21) (v := .agg #[.int .i64 y1, .int .i64 y2]) (run_guard rfl) rfl (r_build rfl (p2 e18 e20) (direct_Parse.bld60_0_1 _ _ _)) ?_
          refine hK.out _ _ ⟨bm1, B1, Aq1, cq1, (hX.put 5 hb_ rfl rfl rfl rfl rfl rfl), HB, X1, X2, (fun h0_ => (FF1 (by rwa [up_ne (by decide)] at h0_))), (fun h0_ => by rw [up_ne (by decide), hoff 8 (by kernel_rfl)] at h0_; cases h0_)⟩
        refine steps_cons ?_ ?_
        · rintro b a w' ⟨bm1, B1, Aq1, cq1, hX, HB, X1, X2, FF1, R1⟩ hb_ hon hoff
          refine ⟨_, rfl, fun K hK => ?_⟩
          have t16 := hX.t_on 0 rfl (hon 0 (by kernel_rfl))
          have e16 := eval_of t16
          have t21 := hX.t_on 5 rfl (hon 5 (by kernel_rfl))
          have e21 := eval_of t21
          have FF1' := FF1 (hon 0 (by kernel_rfl))
          refine value_ (N := some 22) (v := .agg #[.string (opS y1), .string (kdS y2), (fnV B1 y1 y2)]) (run_guard rfl) rfl (r_lookup rfl e16 e21 (lookup_in FF1'.out (of_decide_eq_true hT2))) ?_
          refine hK.out _ _ ⟨bm1, B1, Aq1, cq1, (hX.put 6 hb_ rfl rfl rfl rfl rfl rfl), HB, X1, X2, (fun h0_ => (FF1 (by rwa [up_ne (by decide)] at h0_))), (fun h0_ => by rw [up_ne (by decide), hoff 8 (by kernel_rfl)] at h0_; cases h0_)⟩
        refine steps_cons ?_ ?_
        · rintro b a w' ⟨bm1, B1, Aq1, cq1, hX, HB, X1, X2, FF1, R1⟩ hb_ hon hoff
          refine ⟨_, rfl, fun K hK => ?_⟩
          have t22 := hX.t_on 6 rfl (hon 6 (by kernel_rfl))
          have e22 := eval_of t22
          have FF1' := FF1 (hon 0 (by kernel_rfl))
          refine value_ (N := some 23) (v := (fnV B1 y1 y2)) (run_guard rfl) rfl (r_field rfl e22 (direct_Parse.fld56_2 _ _ _ _)) ?_
          refine hK.out _ _ ⟨bm1, B1, Aq1, cq1, (hX.put 7 hb_ rfl rfl rfl rfl rfl rfl), HB, X1, X2, (fun h0_ => (FF1 (by rwa [up_ne (by decide)] at h0_))), (fun h0_ => by rw [up_ne (by decide), hoff 8 (by kernel_rfl)] at h0_; cases h0_)⟩
        refine steps_cons ?_ ?_
        · rintro b a w' ⟨bm1, B1, Aq1, cq1, hX, HB, X1, X2, FF1, R1⟩ hb_ hon hoff
          refine ⟨_, rfl, fun K hK => ?_⟩
          have t23 := hX.t_on 7 rfl (hon 7 (by kernel_rfl))
          have e23 := eval_of t23
          have t4 : a.tmps[4]? = some (.pointer (some ⟨b2, 0, none⟩)) := hX.t_in rfl
          have e4 := eval_of t4
          have FF1' := FF1 (hon 0 (by kernel_rfl))
          refine call_ (N := some 24) _ _ (run_guard rfl) rfl (r_callv rfl e23 (num_fn y1 y2 (of_decide_eq_true hT2)).choose_spec.1 (num_fn y1 y2 (of_decide_eq_true hT2)).choose_spec.2.1 (num_fn y1 y2 (of_decide_eq_true hT2)).choose_spec.2.2 (m1 e4)) ?_
          refine (num_x FF1'.out (of_decide_eq_true hT2) b2).mono ?_
          rintro e w1 ⟨v_, rfl, hR_, hE⟩
          replace hR_ := Kd.R_lower hR_ HB.out.size
          obtain ⟨Aq1', cq1', rfl⟩ := Kd.R_slice hR_
          refine ⟨_, rfl, ?_⟩
          refine hK.out _ _ ⟨bm1, B1, Aq1', cq1', (hX.put 8 hb_ rfl rfl rfl rfl rfl rfl), ⟨below_step HB.out hE⟩, ⟨blk_below X1.out hE⟩, ⟨blk_below X2.out hE⟩, (fun h0_ => ⟨forms_ext (FF1 (by rwa [up_ne (by decide)] at h0_)).out hE⟩), (fun h0_ => ⟨hR_⟩)⟩
        refine steps_cons ?_ ?_
        · rintro b a w' ⟨bm1, B1, Aq1, cq1, hX, HB, X1, X2, FF1, R1⟩ hb_ hon hoff
          refine ⟨_, rfl, fun K hK => ?_⟩
          have t24 := hX.t_on 8 rfl (hon 8 (by kernel_rfl))
          have e24 := eval_of t24
          have FF1' := FF1 (hon 0 (by kernel_rfl))
          have R1' := R1 (hon 8 (by kernel_rfl))
          refine value_ (N := some 25) (v := .int .i64 ((offs y1 y2).length : Int)) (run_guard rfl) rfl (r_len rfl rfl Tryd.underlying61 e24) ?_
          refine hK.out _ _ ⟨bm1, B1, Aq1, cq1, (hX.put 9 hb_ rfl rfl rfl rfl rfl rfl), HB, X1, X2, (fun h0_ => (FF1 (by rwa [up_ne (by decide)] at h0_))), (fun h0_ => (R1 (by rwa [up_ne (by decide)] at h0_)))⟩
        refine steps_cons ?_ ?_
        · rintro b a w' ⟨bm1, B1, Aq1, cq1, hX, HB, X1, X2, FF1, R1⟩ hb_ hon hoff
          refine ⟨_, rfl, fun K hK => ?_⟩
          refine value_ (N := some 26) (v := .int .i64 0) (run_guard rfl) rfl (r_move rfl ev_c) ?_
          refine hK.out _ _ ⟨bm1, B1, Aq1, cq1, (hX.put 10 hb_ rfl rfl rfl rfl rfl rfl), HB, X1, X2, (fun h0_ => (FF1 (by rwa [up_ne (by decide)] at h0_))), (fun h0_ => (R1 (by rwa [up_ne (by decide)] at h0_)))⟩
        exact steps_nil
      · rintro b ac14 w7 hall ⟨bm1, B1, Aq1, cq1, hX, HB, X1, X2, FF1, R1⟩
        have F14 := hX.done (all_of hall rfl) (L' := [(16, .map (some bm1)), (17, .pointer (some ⟨b2, 0, none⟩)), (18, .int .i64 y1), (19, .pointer (some ⟨b2, 1, none⟩)), (20, .int .i64 y2), (21, .agg #[.int .i64 y1, .int .i64 y2]), (22, .agg #[.string (opS y1), .string (kdS y2), (fnV B1 y1 y2)]), (23, (fnV B1 y1 y2)), (24, .slice Aq1 ((offs y1 y2).length) cq1), (25, .int .i64 ((offs y1 y2).length : Int)), (26, .int .i64 0), (0, .slice A0 l0.length c0), (2, .pointer (some ⟨b1, 0, none⟩)), (4, .pointer (some ⟨b2, 0, none⟩))]) rfl
        clear hX
        replace FF1 := FF1 (hall 0 rfl)
        replace R1 := R1 (hall 8 rfl)
        clear hall
        refine hK7 _ _ ?_
        refine wp_block ?_
        clear FF1
        have H0 := Aside0.mk h
        clear h
        refine c_loop (n := k) (fun (m : Nat) (a : Act) (w' : World) => ∃ x26 : Int, ∃ xX2_0 : Int, ∃ xX2_1 : Int, ∃ xX2_2 : Int, ∃ xX2_3 : Int, ∃ xX2_4 : Int, ∃ xX2_5 : Int, ∃ xX2_6 : Int, ∃ xX2_7 : Int, ∃ xX2_8 : Int, ∃ xX2_9 : Int, ∃ xX2_10 : Int, ∃ xX2_11 : Int, ∃ xX2_12 : Int, Fr a 51 [(0, .slice A0 l0.length c0), (2, .pointer (some ⟨b1, 0, none⟩)), (4, .pointer (some ⟨b2, 0, none⟩)), (24, .slice Aq1 ((offs y1 y2).length) cq1), (25, .int .i64 ((offs y1 y2).length : Int)), (26, .int .i64 x26)] ∧ Aside0 (w'.heap[b1]? = some (.cells #[.int .i64 0, .int .i64 0, .int .i64 0, .int .i64 0, .int .i64 0, .int .i64 0, .int .i64 0, .int .i64 0, .int .i64 0, .int .i64 0, .int .i64 0, .int .i64 0, .int .i64 0] 38 (0, 0))) ∧ Aside0 (w'.heap[b2]? = some (.cells #[.int .i64 xX2_0, .int .i64 xX2_1, .int .i64 xX2_2, .int .i64 xX2_3, .int .i64 xX2_4, .int .i64 xX2_5, .int .i64 xX2_6, .int .i64 xX2_7, .int .i64 xX2_8, .int .i64 xX2_9, .int .i64 xX2_10, .int .i64 xX2_11, .int .i64 xX2_12] 38 (0, 0))) ∧ Aside0 (Kd.R (kP b2) 63 w' w.heap.size (fun _ => True) (.slice Aq1 ((offs y1 y2).length) cq1) (offs y1 y2)) ∧ Aside0 (Below w.heap.size w w') ∧ Aside0 (m ≤ k) ∧ Aside0 ((direct_Parse.l0 m l0 y1 y2 x26 xX2_0 xX2_1 xX2_2 xX2_3 xX2_4 xX2_5 xX2_6 xX2_7 xX2_8 xX2_9 xX2_10 xX2_11 xX2_12) = some (r1, r2, r3, r4, r5, r6, r7, r8, r9, r10, r11, r12, r13, r14))) ?_ ?_
        · exact ⟨0, y1, y2, y3, y4, y5, y6, y7, y8, y9, y10, y11, y12, y13, F14.pick ⟨rfl, rfl, rfl, rfl, rfl, rfl, trivial⟩, X1, X2, R1, HB, ⟨Nat.le_refl _⟩, H0⟩
        · clear F14 X1 X2 R1 HB H0
          rintro m ac15 w8 ⟨x26, xX2_0, xX2_1, xX2_2, xX2_3, xX2_4, xX2_5, xX2_6, xX2_7, xX2_8, xX2_9, xX2_10, xX2_11, xX2_12, F, X1, X2, R1, HB, HKk1, H⟩
          cases m with
          | zero => exact absurd H.out (by simp [direct_Parse.l0])
          | succ k1 =>
            have h := H.out
            clear H
            simp only [direct_Parse.l0] at h
            have F15 := F
            clear F
            refine wp_seq_k (fun K8 hK8 => ?_)
            refine wp_region_lit ?_
            refine sv (v := .bool (decide (x26 < ((offs y1 y2).length : Int)))) F15 (run_guard rfl) rfl rfl (r_lss rfl (F15.ev rfl) (F15.ev rfl)) (fun ac16 F16 => ?_)
            clear F15 ac15
            refine c_end F16 ?_
            refine hK8 _ _ ?_
            refine wp_seq_k (fun K9 hK9 => ?_)
            cases hT3 : decide (x26 < ((offs y1 y2).length : Int)) with
            | true =>
              replace h := cond_t hT3 h
              refine wp_cond_true (F16.ev (lk rfl hT3)) ?_
              refine wp_skip ?_
              refine hK9 _ _ ?_
              refine wp_seq_k (fun K10 hK10 => ?_)
              refine wp_block ?_
              refine wp_seq_k (fun K11 hK11 => ?_)
              refine wp_region_lit ?_
              refine sv (v := .int .i64 x26) F16 (run_guard rfl) rfl rfl (r_move rfl (F16.ev rfl)) (fun ac17 F17 => ?_)
              clear F16 ac16
              cases hT4 : decide (0 ≤ x26) with
              | true =>
                replace h := cond_t hT4 h
                obtain ⟨eb1, eo1, cs_, hi_, hk_, E1⟩ := e_at (P := Tryd.prog) (c := cq1) (i := x26) (Kd.R_reads' R1.out).2.2 (0 : Nat) (of_decide_eq_true hT4) (of_decide_eq_true hT3) Tryd.underlying61 direct_Parse.sz63 Nat.zero_lt_one
                obtain rfl := K_scalar hk_
                refine sv (v := .pointer (some ⟨eb1, eo1, none⟩)) F17 (run_guard rfl) rfl rfl (r_indexAddr rfl (F17.ev rfl) (F17.ev rfl) (hi_ _)) (fun ac18 F18 => ?_)
                clear hi_ F17 ac17
                refine sv (v := .pointer (some ⟨b2, ((offs y1 y2).getD (x26 : Int).toNat (0 : Nat)), none⟩)) F18 (run_guard rfl) rfl rfl (r_load rfl (F18.ev rfl) (l_cell E1.out 0 rfl (agg_no Tryd.underlying63 rfl))) (fun ac19 F19 => ?_)
                clear F18 ac18
                refine sv (v := .int .i64 x26) F19 (run_guard rfl) rfl rfl (r_assign rfl (F19.ev rfl)) (fun ac20 F20 => ?_)
                clear F19 ac19
                refine sv (v := .pointer (some ⟨b2, ((offs y1 y2).getD (x26 : Int).toNat (0 : Nat)), none⟩)) F20 (run_guard rfl) rfl rfl (r_assign rfl (F20.ev rfl)) (fun ac21 F21 => ?_)
                clear F20 ac20
                refine c_end F21 ?_
                clear E1
                refine hK11 _ _ ?_
                refine wp_seq_k (fun K12 hK12 => ?_)
                refine wp_region_lit ?_
                refine sv (v := .pointer (some ⟨b2, ((offs y1 y2).getD (x26 : Int).toNat (0 : Nat)), none⟩)) F21 (run_guard rfl) rfl rfl (r_move rfl (F21.ev rfl)) (fun ac22 F22 => ?_)
                clear F21 ac21
                refine sv (v := .slice A0 l0.length c0) F22 (run_guard rfl) rfl rfl (r_move rfl (F22.ev rfl)) (fun ac23 F23 => ?_)
                clear F22 ac22
                refine sv (v := .int .i64 x26) F23 (run_guard rfl) rfl rfl (r_move rfl (F23.ev rfl)) (fun ac24 F24 => ?_)
                clear F23 ac23
                refine sv (v := .int .i64 (wrap64 (2 + x26))) F24 (run_guard rfl) rfl rfl (r_add rfl ev_c (F24.ev rfl)) (fun ac25 F25 => ?_)
                clear F24 ac24
                cases hT5 : decide (0 ≤ (wrap64 (2 + x26))) with
                | true =>
                  replace h := cond_t hT5 h
                  cases hT6 : decide ((wrap64 (2 + x26)) < (l0.length : Int)) with
                  | true =>
                    replace h := cond_t hT6 h
                    obtain ⟨eb2, eo2, cs_, hi_, hk_, E2⟩ := e_at (P := Tryd.prog) (c := c0) (i := wrap64 (2 + x26)) (Kd.C_below HR0.out HB.out) (⟨#[]⟩ : ByteArray) (of_decide_eq_true hT5) (of_decide_eq_true hT6) Tryd.underlying39 direct_Parse.sz9 (by decide)
                    obtain rfl := K_scalar hk_
                    refine sv (v := .pointer (some ⟨eb2, eo2, none⟩)) F25 (run_guard rfl) rfl rfl (r_indexAddr rfl (F25.ev rfl) (F25.ev rfl) (hi_ _)) (fun ac26 F26 => ?_)
                    clear hi_ F25 ac25
                    refine sv (v := .string (l0.getD (wrap64 (2 + x26) : Int).toNat (⟨#[]⟩ : ByteArray))) F26 (run_guard rfl) rfl rfl (r_load rfl (F26.ev rfl) (l_cell E2.out 0 rfl (agg_no Tryd.underlying9 rfl))) (fun ac27 F27 => ?_)
                    clear F26 ac26
                    replace h := Option.bind_eq_some_iff.1 h
                    obtain ⟨⟨y15, y16⟩, hy, h⟩ := h
                    refine sc F27 (run_guard rfl) rfl rfl (r_call rfl Tryd.func17 (by kernel_rfl) rfl rfl (m2 (F27.ev rfl) ev_c)) ?_
                    refine (num_Parse.calls (l0.getD (wrap64 (2 + x26) : Int).toNat (⟨#[]⟩ : ByteArray)) 2147483647 _ _ _ hy).mono ?_
                    rintro e w9 ⟨rfl, hE⟩
                    clear hy
                    replace X1 := Aside0.mk (blk_below X1.out hE)
                    replace X2 := Aside0.mk (blk_below X2.out hE)
                    replace R1 := Aside0.mk (Kd.R_below R1.out hE)
                    replace E2 := Aside0.mk (range_below E2.out hE)
                    replace HB := Aside0.mk (below_step HB.out hE)
                    refine ⟨_, rfl, fun ac28 F28 => ?_⟩
                    clear hE F27 ac27
                    refine sv (v := .tuple #[.int .i64 y15, .bool y16]) F28 (run_guard rfl) rfl rfl (r_move rfl (F28.ev rfl)) (fun ac29 F29 => ?_)
                    clear F28 ac28
                    refine sv (v := .int .i64 y15) F29 (run_guard rfl) rfl rfl (r_extract rfl (F29.ev rfl) rfl) (fun ac30 F30 => ?_)
                    clear F29 ac29
                    refine sv (v := .bool y16) F30 (run_guard rfl) rfl rfl (r_extract rfl (F30.ev rfl) rfl) (fun ac31 F31 => ?_)
                    clear F30 ac30
                    refine sv (v := .pointer (some ⟨b2, ((offs y1 y2).getD (x26 : Int).toNat (0 : Nat)), none⟩)) F31 (run_guard rfl) rfl rfl (r_nil rfl (F31.ev rfl)) (fun ac32 F32 => ?_)
                    clear F31 ac31
                    obtain ⟨w10, hs, hS⟩ := s_dyn (P := Tryd.prog) (t := 3) (xs := [xX2_0, xX2_1, xX2_2, xX2_3, xX2_4, xX2_5, xX2_6, xX2_7, xX2_8, xX2_9, xX2_10, xX2_11, xX2_12]) X2.out rfl ((offs y1 y2).getD (x26 : Int).toNat (0 : Nat)) y15 (offs_getD (offs_lt _ _) (by have h1_ := of_decide_eq_true hT4; have h2_ := of_decide_eq_true hT3; omega)) rfl (cs' := #[.int .i64 (bif Nat.beq ((offs y1 y2).getD (x26 : Int).toNat (0 : Nat)) 0 then y15 else xX2_0), .int .i64 (bif Nat.beq ((offs y1 y2).getD (x26 : Int).toNat (0 : Nat)) 1 then y15 else xX2_1), .int .i64 (bif Nat.beq ((offs y1 y2).getD (x26 : Int).toNat (0 : Nat)) 2 then y15 else xX2_2), .int .i64 (bif Nat.beq ((offs y1 y2).getD (x26 : Int).toNat (0 : Nat)) 3 then y15 else xX2_3), .int .i64 (bif Nat.beq ((offs y1 y2).getD (x26 : Int).toNat (0 : Nat)) 4 then y15 else xX2_4), .int .i64 (bif Nat.beq ((offs y1 y2).getD (x26 : Int).toNat (0 : Nat)) 5 then y15 else xX2_5), .int .i64 (bif Nat.beq ((offs y1 y2).getD (x26 : Int).toNat (0 : Nat)) 6 then y15 else xX2_6), .int .i64 (bif Nat.beq ((offs y1 y2).getD (x26 : Int).toNat (0 : Nat)) 7 then y15 else xX2_7), .int .i64 (bif Nat.beq ((offs y1 y2).getD (x26 : Int).toNat (0 : Nat)) 8 then y15 else xX2_8), .int .i64 (bif Nat.beq ((offs y1 y2).getD (x26 : Int).toNat (0 : Nat)) 9 then y15 else xX2_9), .int .i64 (bif Nat.beq ((offs y1 y2).getD (x26 : Int).toNat (0 : Nat)) 10 then y15 else xX2_10), .int .i64 (bif Nat.beq ((offs y1 y2).getD (x26 : Int).toNat (0 : Nat)) 11 then y15 else xX2_11), .int .i64 (bif Nat.beq ((offs y1 y2).getD (x26 : Int).toNat (0 : Nat)) 12 then y15 else xX2_12)]) rfl Tryd.underlying3 direct_Parse.sz3
                    refine ss F32 (run_guard rfl) rfl (r_store rfl (F32.ev rfl) (F32.ev rfl) hs) ?_
                    clear hs
                    replace X1 := Aside0.mk (hS.blk X1.out (Nat.ne_of_lt LTX1_X2.out))
                    replace R1 := Aside0.mk (R_set1 R1.out X2.out (by intro q_ hq_; rcases List.mem_cons.1 hq_ with rfl | hq_; decide; cases hq_) hS)
                    clear E2
                    replace HB := Aside0.mk (HB.out.trans (hS.below _ GEX2.out))
                    replace X2 := Aside0.mk hS.here
                    clear hS
                    refine sv (v := .bool y16) F32 (run_guard rfl) rfl rfl (r_assign rfl (F32.ev rfl)) (fun ac33 F33 => ?_)
                    clear F32 ac32
                    refine c_end F33 ?_
                    refine hK12 _ _ ?_
                    refine wp_seq_k (fun K13 hK13 => ?_)
                    refine wp_region_lit ?_
                    refine sv (v := .bool y16) F33 (run_guard rfl) rfl rfl (r_move rfl (F33.ev rfl)) (fun ac34 F34 => ?_)
                    clear F33 ac33
                    refine sv (v := .bool (!y16)) F34 (run_guard rfl) rfl rfl (r_not (b := y16) rfl (F34.ev rfl)) (fun ac35 F35 => ?_)
                    clear F34 ac34
                    refine c_end F35 ?_
                    refine hK13 _ _ ?_
                    cases hT7 : (!y16) with
                    | true =>
                      replace h := cond_t hT7 h
                      refine wp_cond_true (F35.ev (lk rfl hT7)) ?_
                      refine wp_seq_k (fun K14 hK14 => ?_)
                      clear X2 R1
                      refine wp_region_lit ?_
                      refine sv (v := .agg #[.int .i64 0, .int .i64 0, .int .i64 0, .int .i64 0, .int .i64 0, .int .i64 0, .int .i64 0, .int .i64 0, .int .i64 0, .int .i64 0, .int .i64 0, .int .i64 0, .int .i64 0]) F35 (run_guard rfl) rfl rfl (r_build rfl p0 (direct_Parse.bld38_ _)) (fun ac36 F36 => ?_)
                      clear F35 ac35
                      obtain ⟨w11, hs, hS⟩ := s_part (P := Tryd.prog) (t := 38) (l' := [.int .i64 0, .int .i64 0, .int .i64 0, .int .i64 0, .int .i64 0, .int .i64 0, .int .i64 0, .int .i64 0, .int .i64 0, .int .i64 0, .int .i64 0, .int .i64 0, .int .i64 0]) X1.out 0 #[.int .i64 0, .int .i64 0, .int .i64 0, .int .i64 0, .int .i64 0, .int .i64 0, .int .i64 0, .int .i64 0, .int .i64 0, .int .i64 0, .int .i64 0, .int .i64 0, .int .i64 0] rfl rfl direct_Parse.sz38 rfl
                      refine ss F36 (run_guard rfl) rfl (r_store rfl (F36.ev rfl) (F36.ev rfl) hs) ?_
                      clear hs
                      replace HB := Aside0.mk (HB.out.trans (hS.below _ GEX1.out))
                      replace X1 := Aside0.mk hS.here
                      clear hS
                      refine sv (v := .int .i64 2) F36 (run_guard rfl) rfl rfl (r_assign rfl ev_c) (fun ac37 F37 => ?_)
                      clear F36 ac36
                      refine c_end F37 ?_
                      refine hK14 _ _ ?_
                      refine wp_ret ?_
                      (try simp only [Exit.then, Exit.inBlock])
                      refine retx (fn := Tryd.f28) F37 (results2 (fn := Tryd.f28) rfl (rv_c (t := 2) (T := 38) (v := .agg #[.int .i64 0, .int .i64 0, .int .i64 0, .int .i64 0, .int .i64 0, .int .i64 0, .int .i64 0, .int .i64 0, .int .i64 0, .int .i64 0, .int .i64 0, .int .i64 0, .int .i64 0]) F37 rfl (l_part X1.out 0 [.int .i64 0, .int .i64 0, .int .i64 0, .int .i64 0, .int .i64 0, .int .i64 0, .int .i64 0, .int .i64 0, .int .i64 0, .int .i64 0, .int .i64 0, .int .i64 0, .int .i64 0] rfl Tryd.underlying38 rfl direct_Parse.sz38)) (rv_t (t := 3) (v := .int .i64 2) F37 rfl)) ?_
                      cases h
                      exact ⟨rfl, HB.out⟩
                    | false =>
                      replace h := cond_f hT7 h
                      refine wp_cond_false (F35.ev (lk rfl hT7)) ?_
                      refine wp_skip ?_
                      refine hK10 _ _ ?_
                      refine wp_region_lit ?_
                      refine sv (v := .int .i64 (wrap64 (x26 + 1))) F35 (run_guard rfl) rfl rfl (r_add rfl (F35.ev rfl) ev_c) (fun ac38 F38 => ?_)
                      clear F35 ac35
                      refine sv (v := .int .i64 (wrap64 (x26 + 1))) F38 (run_guard rfl) rfl rfl (r_move rfl (F38.ev rfl)) (fun ac39 F39 => ?_)
                      clear F38 ac38
                      refine c_end F39 ?_
                      refine ⟨k1, Nat.lt_succ_self _, (wrap64 (x26 + 1)), ((bif Nat.beq ((offs y1 y2).getD (x26 : Int).toNat (0 : Nat)) 0 then y15 else xX2_0)), ((bif Nat.beq ((offs y1 y2).getD (x26 : Int).toNat (0 : Nat)) 1 then y15 else xX2_1)), ((bif Nat.beq ((offs y1 y2).getD (x26 : Int).toNat (0 : Nat)) 2 then y15 else xX2_2)), ((bif Nat.beq ((offs y1 y2).getD (x26 : Int).toNat (0 : Nat)) 3 then y15 else xX2_3)), ((bif Nat.beq ((offs y1 y2).getD (x26 : Int).toNat (0 : Nat)) 4 then y15 else xX2_4)), ((bif Nat.beq ((offs y1 y2).getD (x26 : Int).toNat (0 : Nat)) 5 then y15 else xX2_5)), ((bif Nat.beq ((offs y1 y2).getD (x26 : Int).toNat (0 : Nat)) 6 then y15 else xX2_6)), ((bif Nat.beq ((offs y1 y2).getD (x26 : Int).toNat (0 : Nat)) 7 then y15 else xX2_7)), ((bif Nat.beq ((offs y1 y2).getD (x26 : Int).toNat (0 : Nat)) 8 then y15 else xX2_8)), ((bif Nat.beq ((offs y1 y2).getD (x26 : Int).toNat (0 : Nat)) 9 then y15 else xX2_9)), ((bif Nat.beq ((offs y1 y2).getD (x26 : Int).toNat (0 : Nat)) 10 then y15 else xX2_10)), ((bif Nat.beq ((offs y1 y2).getD (x26 : Int).toNat (0 : Nat)) 11 then y15 else xX2_11)), ((bif Nat.beq ((offs y1 y2).getD (x26 : Int).toNat (0 : Nat)) 12 then y15 else xX2_12)), F39.pick ⟨rfl, rfl, rfl, rfl, rfl, rfl, trivial⟩, X1, X2, R1, HB, ⟨(by have := HKk1.out; omega)⟩, ⟨h⟩⟩
                  | false =>
                    replace h := cond_f hT6 h
                    cases h
                | false =>
                  replace h := cond_f hT5 h
                  cases h
              | false =>
                replace h := cond_f hT4 h
                cases h
            | false =>
              replace h := cond_f hT3 h
              refine wp_cond_false (F16.ev (lk rfl hT3)) ?_
              refine wp_exit ?_
              refine hK6 _ _ ?_
              refine wp_seq_k (fun K15 hK15 => ?_)
              refine wp_seq_k (fun K16 hK16 => ?_)
              clear R1
              refine wp_region_lit ?_
              refine sv (v := .agg #[.int .i64 xX2_0, .int .i64 xX2_1, .int .i64 xX2_2, .int .i64 xX2_3, .int .i64 xX2_4, .int .i64 xX2_5, .int .i64 xX2_6, .int .i64 xX2_7, .int .i64 xX2_8, .int .i64 xX2_9, .int .i64 xX2_10, .int .i64 xX2_11, .int .i64 xX2_12]) F16 (run_guard rfl) rfl rfl (r_load rfl (F16.ev rfl) (l_part X2.out 0 [.int .i64 xX2_0, .int .i64 xX2_1, .int .i64 xX2_2, .int .i64 xX2_3, .int .i64 xX2_4, .int .i64 xX2_5, .int .i64 xX2_6, .int .i64 xX2_7, .int .i64 xX2_8, .int .i64 xX2_9, .int .i64 xX2_10, .int .i64 xX2_11, .int .i64 xX2_12] rfl Tryd.underlying38 rfl direct_Parse.sz38)) (fun ac40 F40 => ?_)
              clear F16 ac16
              replace h := Option.bind_eq_some_iff.1 h
              obtain ⟨y17, hy, h⟩ := h
              refine sc F40 (run_guard rfl) rfl rfl (r_call rfl Tryd.func30 (by kernel_rfl) rfl rfl (m1 (F40.ev rfl))) ?_
              refine (direct_Right.calls xX2_0 xX2_1 xX2_2 xX2_3 xX2_4 xX2_5 xX2_6 xX2_7 xX2_8 xX2_9 xX2_10 xX2_11 xX2_12 _ _ hy).mono ?_
              rintro e w12 ⟨rfl, hE⟩
              clear hy
              replace X1 := Aside0.mk (blk_below X1.out hE)
              replace X2 := Aside0.mk (blk_below X2.out hE)
              replace HB := Aside0.mk (below_step HB.out hE)
              refine ⟨_, rfl, fun ac41 F41 => ?_⟩
              clear hE F40 ac40
              refine sv (v := .bool (!y17)) F41 (run_guard rfl) rfl rfl (r_not (b := y17) rfl (F41.ev rfl)) (fun ac42 F42 => ?_)
              clear F41 ac41
              refine c_end F42 ?_
              refine hK16 _ _ ?_
              cases hT8 : (!y17) with
              | true =>
                replace h := cond_t hT8 h
                refine wp_cond_true (F42.ev (lk rfl hT8)) ?_
                refine wp_seq_k (fun K17 hK17 => ?_)
                clear X2
                refine wp_region_lit ?_
                refine sv (v := .agg #[.int .i64 0, .int .i64 0, .int .i64 0, .int .i64 0, .int .i64 0, .int .i64 0, .int .i64 0, .int .i64 0, .int .i64 0, .int .i64 0, .int .i64 0, .int .i64 0, .int .i64 0]) F42 (run_guard rfl) rfl rfl (r_build rfl p0 (direct_Parse.bld38_ _)) (fun ac43 F43 => ?_)
                clear F42 ac42
                obtain ⟨w13, hs, hS⟩ := s_part (P := Tryd.prog) (t := 38) (l' := [.int .i64 0, .int .i64 0, .int .i64 0, .int .i64 0, .int .i64 0, .int .i64 0, .int .i64 0, .int .i64 0, .int .i64 0, .int .i64 0, .int .i64 0, .int .i64 0, .int .i64 0]) X1.out 0 #[.int .i64 0, .int .i64 0, .int .i64 0, .int .i64 0, .int .i64 0, .int .i64 0, .int .i64 0, .int .i64 0, .int .i64 0, .int .i64 0, .int .i64 0, .int .i64 0, .int .i64 0] rfl rfl direct_Parse.sz38 rfl
                refine ss F43 (run_guard rfl) rfl (r_store rfl (F43.ev rfl) (F43.ev rfl) hs) ?_
                clear hs
                replace HB := Aside0.mk (HB.out.trans (hS.below _ GEX1.out))
                replace X1 := Aside0.mk hS.here
                clear hS
                refine sv (v := .int .i64 1) F43 (run_guard rfl) rfl rfl (r_assign rfl ev_c) (fun ac44 F44 => ?_)
                clear F43 ac43
                refine c_end F44 ?_
                refine hK17 _ _ ?_
                refine wp_ret ?_
                (try simp only [Exit.then, Exit.inBlock])
                refine retx (fn := Tryd.f28) F44 (results2 (fn := Tryd.f28) rfl (rv_c (t := 2) (T := 38) (v := .agg #[.int .i64 0, .int .i64 0, .int .i64 0, .int .i64 0, .int .i64 0, .int .i64 0, .int .i64 0, .int .i64 0, .int .i64 0, .int .i64 0, .int .i64 0, .int .i64 0, .int .i64 0]) F44 rfl (l_part X1.out 0 [.int .i64 0, .int .i64 0, .int .i64 0, .int .i64 0, .int .i64 0, .int .i64 0, .int .i64 0, .int .i64 0, .int .i64 0, .int .i64 0, .int .i64 0, .int .i64 0, .int .i64 0] rfl Tryd.underlying38 rfl direct_Parse.sz38)) (rv_t (t := 3) (v := .int .i64 1) F44 rfl)) ?_
                cases h
                exact ⟨rfl, HB.out⟩
              | false =>
                replace h := cond_f hT8 h
                refine wp_cond_false (F42.ev (lk rfl hT8)) ?_
                refine wp_skip ?_
                refine hK15 _ _ ?_
                refine wp_seq_k (fun K18 hK18 => ?_)
                refine wp_region_lit ?_
                refine sv (v := .agg #[.int .i64 xX2_0, .int .i64 xX2_1, .int .i64 xX2_2, .int .i64 xX2_3, .int .i64 xX2_4, .int .i64 xX2_5, .int .i64 xX2_6, .int .i64 xX2_7, .int .i64 xX2_8, .int .i64 xX2_9, .int .i64 xX2_10, .int .i64 xX2_11, .int .i64 xX2_12]) F42 (run_guard rfl) rfl rfl (r_load rfl (F42.ev rfl) (l_part X2.out 0 [.int .i64 xX2_0, .int .i64 xX2_1, .int .i64 xX2_2, .int .i64 xX2_3, .int .i64 xX2_4, .int .i64 xX2_5, .int .i64 xX2_6, .int .i64 xX2_7, .int .i64 xX2_8, .int .i64 xX2_9, .int .i64 xX2_10, .int .i64 xX2_11, .int .i64 xX2_12] rfl Tryd.underlying38 rfl direct_Parse.sz38)) (fun ac45 F45 => ?_)
                clear F42 ac42
                obtain ⟨w14, hs, hS⟩ := s_part (P := Tryd.prog) (t := 38) (l' := [.int .i64 xX2_0, .int .i64 xX2_1, .int .i64 xX2_2, .int .i64 xX2_3, .int .i64 xX2_4, .int .i64 xX2_5, .int .i64 xX2_6, .int .i64 xX2_7, .int .i64 xX2_8, .int .i64 xX2_9, .int .i64 xX2_10, .int .i64 xX2_11, .int .i64 xX2_12]) X1.out 0 #[.int .i64 xX2_0, .int .i64 xX2_1, .int .i64 xX2_2, .int .i64 xX2_3, .int .i64 xX2_4, .int .i64 xX2_5, .int .i64 xX2_6, .int .i64 xX2_7, .int .i64 xX2_8, .int .i64 xX2_9, .int .i64 xX2_10, .int .i64 xX2_11, .int .i64 xX2_12] rfl rfl direct_Parse.sz38 rfl
                refine ss F45 (run_guard rfl) rfl (r_store rfl (F45.ev rfl) (F45.ev rfl) hs) ?_
                clear hs
                replace X2 := Aside0.mk (hS.blk X2.out (Nat.ne_of_gt LTX1_X2.out))
                replace HB := Aside0.mk (HB.out.trans (hS.below _ GEX1.out))
                replace X1 := Aside0.mk hS.here
                clear hS
                refine sv (v := .int .i64 0) F45 (run_guard rfl) rfl rfl (r_assign rfl ev_c) (fun ac46 F46 => ?_)
                clear F45 ac45
                refine c_end F46 ?_
                refine hK18 _ _ ?_
                refine wp_ret ?_
                (try simp only [Exit.then, Exit.inBlock])
                refine retx (fn := Tryd.f28) F46 (results2 (fn := Tryd.f28) rfl (rv_c (t := 2) (T := 38) (v := .agg #[.int .i64 xX2_0, .int .i64 xX2_1, .int .i64 xX2_2, .int .i64 xX2_3, .int .i64 xX2_4, .int .i64 xX2_5, .int .i64 xX2_6, .int .i64 xX2_7, .int .i64 xX2_8, .int .i64 xX2_9, .int .i64 xX2_10, .int .i64 xX2_11, .int .i64 xX2_12]) F46 rfl (l_part X1.out 0 [.int .i64 xX2_0, .int .i64 xX2_1, .int .i64 xX2_2, .int .i64 xX2_3, .int .i64 xX2_4, .int .i64 xX2_5, .int .i64 xX2_6, .int .i64 xX2_7, .int .i64 xX2_8, .int .i64 xX2_9, .int .i64 xX2_10, .int .i64 xX2_11, .int .i64 xX2_12] rfl Tryd.underlying38 rfl direct_Parse.sz38)) (rv_t (t := 3) (v := .int .i64 0) F46 rfl)) ?_
                cases h
                exact ⟨rfl, HB.out⟩
    | false =>
      replace h := cond_f hT2 h
      cases h
end Go.Proofs.YtndijkndllpkgaaDoor.Pr
/- The walk of felucca/direct.Words by explicit steps (wip/xdir.py). -/
namespace Go.Proofs.YtndijkndllpkgaaDoor.Pr
open Go.RowKit Go.Proofs.YtndijkndllpkgaaDoor.Frm Go.Proofs.YtndijkndllpkgaaDoorW.PrintWords Go.Proofs.YtndijkndllpkgaaDoorW.PrintLast Go.Proofs.YtndijkndllpkgaaDoorW.PrintMore Go.Proofs.YtndijkndllpkgaaDoor.X
set_option linter.unusedVariables false
set_option linter.unusedSimpArgs false
theorem direct_Words.sz38 : (Tryd.prog.info? 38).map (·.size) = some 13 := by
  kernel_rfl
theorem direct_Words.fa38_0 (b o : Nat) (w : World) : (Instr.fieldAt 38 (.pointer (some ⟨b, o, none⟩)) 0).run Tryd.prog w = .ok (.pointer (some ⟨b, o, none⟩)) w := by
  first | (go_simp; done) | (simp [Instr.fieldAt, Instr.sureAddr, Sem.run_bind, run_underlying Tryd.underlying38, fieldPlace, sizeOf, typeInfo, Addr.add]; done) | (go_simp; simp [Addr.add])
theorem direct_Words.fa38_1 (b o : Nat) (w : World) : (Instr.fieldAt 38 (.pointer (some ⟨b, o, none⟩)) 1).run Tryd.prog w = .ok (.pointer (some ⟨b, o + 1, none⟩)) w := by
  first | (go_simp; done) | (simp [Instr.fieldAt, Instr.sureAddr, Sem.run_bind, run_underlying Tryd.underlying38, fieldPlace, sizeOf, typeInfo, Addr.add]; done) | (go_simp; simp [Addr.add])
theorem direct_Words.bld60_0_1 (p0_0 : Int) (p1_0 : Int) (w : World) : (Instr.build 60 #[(0, .int .i64 p0_0), (1, .int .i64 p1_0)]).run Tryd.prog w = .ok (.agg #[.int .i64 p0_0, .int .i64 p1_0]) w := by
  first | (go_simp; done) | (go_simp; rfl) | rfl
def direct_Words.T3 : Bool × List (List Nat × List Nat) := (true, [([], []), ([], []), ([1], [1]), ([], []), ([3], [3]), ([2, 4], [2, 4]), ([0, 5], [0, 5]), ([], []), ([7, 6, 0, 0, 1, 2, 3, 4, 5, 6, 7], [6, 7])])
def direct_Words.B3 : List Nat := [0, 0, 2, 0, 8, 30, 63, 0, 255]
theorem direct_Words.tab3 : rtab .any (opsOf Tryd.f26 3) = direct_Words.T3 := by kernel_rfl
theorem direct_Words.bits3 : waitsOk direct_Words.T3.2 direct_Words.B3 = true := by kernel_rfl
theorem direct_Words.zv56 (w : World) : (zeroValue 56).run Tryd.prog w = .ok (.agg #[.string (⟨#[]⟩ : ByteArray), .string (⟨#[]⟩ : ByteArray), .nilFunc]) w := by
  first | (go_simp; done) | (go_simp; rfl) | rfl
theorem direct_Words.sz56 : (Tryd.prog.info? 56).map (·.size) = some 3 := by
  kernel_rfl
theorem direct_Words.fa56_0 (b o : Nat) (w : World) : (Instr.fieldAt 56 (.pointer (some ⟨b, o, none⟩)) 0).run Tryd.prog w = .ok (.pointer (some ⟨b, o, none⟩)) w := by
  first | (go_simp; done) | (simp [Instr.fieldAt, Instr.sureAddr, Sem.run_bind, run_underlying Tryd.underlying56, fieldPlace, sizeOf, typeInfo, Addr.add]; done) | (go_simp; simp [Addr.add])
theorem direct_Words.fa56_1 (b o : Nat) (w : World) : (Instr.fieldAt 56 (.pointer (some ⟨b, o, none⟩)) 1).run Tryd.prog w = .ok (.pointer (some ⟨b, o + 1, none⟩)) w := by
  first | (go_simp; done) | (simp [Instr.fieldAt, Instr.sureAddr, Sem.run_bind, run_underlying Tryd.underlying56, fieldPlace, sizeOf, typeInfo, Addr.add]; done) | (go_simp; simp [Addr.add])
theorem direct_Words.bsl39_2 (p0_0 : ByteArray) (p1_0 : ByteArray) (w : World) : (Instr.buildSlice 39 2 #[(0, .string p0_0), (1, .string p1_0)]).run Tryd.prog w = .ok (.slice (some ⟨w.heap.size, 0, none⟩) 2 2) (w.alloc (.cells #[.string p0_0, .string p1_0] 9)) := by
  first | (go_simp; done) | (go_simp; rfl) | rfl
theorem direct_Words.fa56_2 (b o : Nat) (w : World) : (Instr.fieldAt 56 (.pointer (some ⟨b, o, none⟩)) 2).run Tryd.prog w = .ok (.pointer (some ⟨b, o + 2, none⟩)) w := by
  first | (go_simp; done) | (simp [Instr.fieldAt, Instr.sureAddr, Sem.run_bind, run_underlying Tryd.underlying56, fieldPlace, sizeOf, typeInfo, Addr.add]; done) | (go_simp; simp [Addr.add])
theorem direct_Words.sz63 : (Tryd.prog.info? 63).map (·.size) = some 1 := by
  kernel_rfl
theorem direct_Words.info9 : (Tryd.prog.info? 9).map (fun i => (i.zero, i.size, i.bytes)) = some (some (.string (⟨#[]⟩ : ByteArray)), 1, 16) := by
  kernel_rfl
theorem direct_Words.bsl39_1 (p0_0 : ByteArray) (w : World) : (Instr.buildSlice 39 1 #[(0, .string p0_0)]).run Tryd.prog w = .ok (.slice (some ⟨w.heap.size, 0, none⟩) 1 1) (w.alloc (.cells #[.string p0_0] 9)) := by
  first | (go_simp; done) | (go_simp; rfl) | rfl
def direct_Words.l0 : Nat → Int → Int → Int → Int → Int → Int → Int → Int → Int → Int → Int → Int → Int → (List ByteArray) → Int → Option ((List ByteArray) × Bool)
  | 0, _, _, _, _, _, _, _, _, _, _, _, _, _, _, _ => none
  | k + 1, a0_0, a0_1, a0_2, a0_3, a0_4, a0_5, a0_6, a0_7, a0_8, a0_9, a0_10, a0_11, a0_12, x5, x27 => bif decide (x27 < ((offs a0_0 a0_1).length : Int)) then (bif decide (0 ≤ x27) then ((num_Text.f (([a0_0, a0_1, a0_2, a0_3, a0_4, a0_5, a0_6, a0_7, a0_8, a0_9, a0_10, a0_11, a0_12] : List Int).getD ((offs a0_0 a0_1).getD (x27 : Int).toNat (0 : Nat)) 0)).bind fun y2 => (bif decide (x5.length < 8796093022208) then ((direct_Words.l0 k a0_0 a0_1 a0_2 a0_3 a0_4 a0_5 a0_6 a0_7 a0_8 a0_9 a0_10 a0_11 a0_12 (x5 ++ [y2]) (wrap64 (x27 + 1)))) else (none))) else (none)) else (some (x5, true))
def direct_Words.f (k : Nat) (a0_0 : Int) (a0_1 : Int) (a0_2 : Int) (a0_3 : Int) (a0_4 : Int) (a0_5 : Int) (a0_6 : Int) (a0_7 : Int) (a0_8 : Int) (a0_9 : Int) (a0_10 : Int) (a0_11 : Int) (a0_12 : Int) : Option ((List ByteArray) × Bool) := (direct_Right.f a0_0 a0_1 a0_2 a0_3 a0_4 a0_5 a0_6 a0_7 a0_8 a0_9 a0_10 a0_11 a0_12).bind fun y1 => (bif (!y1) then (some ([], false)) else (bif decide ((a0_0, a0_1) ∈ pairs) then ((direct_Words.l0 k a0_0 a0_1 a0_2 a0_3 a0_4 a0_5 a0_6 a0_7 a0_8 a0_9 a0_10 a0_11 a0_12 ([(opS a0_0), (kdS a0_1)] : List ByteArray) 0)) else (none)))
set_option maxHeartbeats 4000000 in
set_option maxRecDepth 100000 in
theorem direct_Words.calls (k : Nat) (a0_0 : Int) (a0_1 : Int) (a0_2 : Int) (a0_3 : Int) (a0_4 : Int) (a0_5 : Int) (a0_6 : Int) (a0_7 : Int) (a0_8 : Int) (a0_9 : Int) (a0_10 : Int) (a0_11 : Int) (a0_12 : Int) (r1 : List ByteArray) (r2 : Bool) (w : World) (hTabP : TabP w) (h : direct_Words.f k a0_0 a0_1 a0_2 a0_3 a0_4 a0_5 a0_6 a0_7 a0_8 a0_9 a0_10 a0_11 a0_12 = some (r1, r2)) :
    Calls Tryd.prog 26 #[.agg #[.int .i64 a0_0, .int .i64 a0_1, .int .i64 a0_2, .int .i64 a0_3, .int .i64 a0_4, .int .i64 a0_5, .int .i64 a0_6, .int .i64 a0_7, .int .i64 a0_8, .int .i64 a0_9, .int .i64 a0_10, .int .i64 a0_11, .int .i64 a0_12]] w fun e w' => ∃ v0_ : Value, e = .returned (.tuple #[v0_, .bool r2]) ∧ Kd.R Kd.string 9 w' w.heap.size (fun _ => True) v0_ r1 ∧ Below w.heap.size w w' := by
  unfold direct_Words.f at h
  have XTabP := Aside0.mk hTabP
  clear hTabP
  have HB := Aside0.mk (Below.refl w.heap.size w)
  refine calls_x (args := [.agg #[.int .i64 a0_0, .int .i64 a0_1, .int .i64 a0_2, .int .i64 a0_3, .int .i64 a0_4, .int .i64 a0_5, .int .i64 a0_6, .int .i64 a0_7, .int .i64 a0_8, .int .i64 a0_9, .int .i64 a0_10, .int .i64 a0_11, .int .i64 a0_12]]) Tryd.func26 rfl 40 40 rfl rfl (fun ac0 F0 => ?_)
  refine wp_seq_k (fun K1 hK1 => ?_)
  refine wp_region_lit ?_
  refine s_new (cs := #[.int .i64 a0_0, .int .i64 a0_1, .int .i64 a0_2, .int .i64 a0_3, .int .i64 a0_4, .int .i64 a0_5, .int .i64 a0_6, .int .i64 a0_7, .int .i64 a0_8, .int .i64 a0_9, .int .i64 a0_10, .int .i64 a0_11, .int .i64 a0_12]) F0 (run_guard rfl) rfl rfl (r_box rfl (F0.ev rfl) rfl) (fun ac1 w1 b1 hb hge hlt hE F1 => ?_)
  clear F0 ac0
  have GEX1 := Aside0.mk (Nat.le_trans HB.out.size hge)
  replace HB := Aside0.mk (below_step HB.out hE)
  have X1 := Aside0.mk hb
  clear hb hge hlt hE
  refine sv (v := .slice none 0 0) F1 (run_guard rfl) rfl rfl (r_assign rfl ev_c) (fun ac2 F2 => ?_)
  clear F1 ac1
  refine sv (v := .bool false) F2 (run_guard rfl) rfl rfl (r_assign rfl ev_c) (fun ac3 F3 => ?_)
  clear F2 ac2
  refine c_end F3 ?_
  refine hK1 _ _ ?_
  refine wp_seq_k (fun K2 hK2 => ?_)
  refine wp_seq_k (fun K3 hK3 => ?_)
  refine wp_region_lit ?_
  refine sv (v := .agg #[.int .i64 a0_0, .int .i64 a0_1, .int .i64 a0_2, .int .i64 a0_3, .int .i64 a0_4, .int .i64 a0_5, .int .i64 a0_6, .int .i64 a0_7, .int .i64 a0_8, .int .i64 a0_9, .int .i64 a0_10, .int .i64 a0_11, .int .i64 a0_12]) F3 (run_guard rfl) rfl rfl (r_load rfl (F3.ev rfl) (l_part X1.out 0 [.int .i64 a0_0, .int .i64 a0_1, .int .i64 a0_2, .int .i64 a0_3, .int .i64 a0_4, .int .i64 a0_5, .int .i64 a0_6, .int .i64 a0_7, .int .i64 a0_8, .int .i64 a0_9, .int .i64 a0_10, .int .i64 a0_11, .int .i64 a0_12] rfl Tryd.underlying38 rfl direct_Words.sz38)) (fun ac4 F4 => ?_)
  clear F3 ac3
  replace h := Option.bind_eq_some_iff.1 h
  obtain ⟨y1, hy, h⟩ := h
  refine sc F4 (run_guard rfl) rfl rfl (r_call rfl Tryd.func30 (by kernel_rfl) rfl rfl (m1 (F4.ev rfl))) ?_
  refine (direct_Right.calls a0_0 a0_1 a0_2 a0_3 a0_4 a0_5 a0_6 a0_7 a0_8 a0_9 a0_10 a0_11 a0_12 _ _ hy).mono ?_
  rintro e w2 ⟨rfl, hE⟩
  clear hy
  replace X1 := Aside0.mk (blk_below X1.out hE)
  replace HB := Aside0.mk (below_step HB.out hE)
  refine ⟨_, rfl, fun ac5 F5 => ?_⟩
  clear hE F4 ac4
  refine sv (v := .bool (!y1)) F5 (run_guard rfl) rfl rfl (r_not (b := y1) rfl (F5.ev rfl)) (fun ac6 F6 => ?_)
  clear F5 ac5
  refine c_end F6 ?_
  refine hK3 _ _ ?_
  cases hT1 : (!y1) with
  | true =>
    replace h := cond_t hT1 h
    refine wp_cond_true (F6.ev (lk rfl hT1)) ?_
    refine wp_seq_k (fun K4 hK4 => ?_)
    clear X1
    refine wp_region_lit ?_
    refine sv (v := .slice none 0 0) F6 (run_guard rfl) rfl rfl (r_assign rfl ev_c) (fun ac7 F7 => ?_)
    clear F6 ac6
    refine sv (v := .bool false) F7 (run_guard rfl) rfl rfl (r_assign rfl ev_c) (fun ac8 F8 => ?_)
    clear F7 ac7
    refine c_end F8 ?_
    refine hK4 _ _ ?_
    refine wp_ret ?_
    (try simp only [Exit.then, Exit.inBlock])
    refine retx (fn := Tryd.f26) F8 (results2 (fn := Tryd.f26) rfl (rv_t (t := 2) (v := .slice none 0 0) F8 rfl) (rv_t (t := 3) (v := .bool false) F8 rfl)) ?_
    cases h
    exact ⟨_, rfl, Kd.R_nil _ _ _ _ _, HB.out⟩
  | false =>
    replace h := cond_f hT1 h
    refine wp_cond_false (F6.ev (lk rfl hT1)) ?_
    refine wp_skip ?_
    refine hK2 _ _ ?_
    refine wp_seq_k (fun K5 hK5 => ?_)
    cases hT2 : decide ((a0_0, a0_1) ∈ pairs) with
    | true =>
      replace h := cond_t hT2 h
      refine start_ (n := 9) (S := fun _ => True) (ds := []) #[false, false, false, false, false, false, false, false, false] (by kernel_rfl) rfl rfl trivial (fun _ => ?_)
      refine with_tabW direct_Words.tab3 direct_Words.bits3 (fun HT_ HW_ => ?_)
      have hE := below_drew (Below.refl w2.heap.size w2)
      generalize w2.drew = w3 at hE ⊢
      replace X1 := Aside0.mk (blk_below X1.out hE)
      replace HB := Aside0.mk (below_step HB.out hE)
      clear hE
      refine inv_at [0, 1, 2, 3, 4, 5, 6, 7, 8] (fun (a0_ : Act) (b : Nat → Bool) (a : Act) (w' : World) => ∃ bm1 : Nat, ∃ B1 : Nat, ∃ b2 : Nat, FrB a 40 b [(1, .pointer (some ⟨b1, 0, none⟩))] [(0, 11, .map (some bm1)), (1, 12, .pointer (some ⟨b1, 0, none⟩)), (2, 13, .int .i64 a0_0), (3, 14, .pointer (some ⟨b1, 1, none⟩)), (4, 15, .int .i64 a0_1), (5, 16, .agg #[.int .i64 a0_0, .int .i64 a0_1]), (6, 17, .agg #[.string (opS a0_0), .string (kdS a0_1), (fnV B1 a0_0 a0_1)]), (7, 4, .pointer (some ⟨b2, 0, none⟩))] [] ∧ (Aside0 (Below w.heap.size w w')) ∧ (Aside0 (w'.heap[b1]? = some (.cells #[.int .i64 a0_0, .int .i64 a0_1, .int .i64 a0_2, .int .i64 a0_3, .int .i64 a0_4, .int .i64 a0_5, .int .i64 a0_6, .int .i64 a0_7, .int .i64 a0_8, .int .i64 a0_9, .int .i64 a0_10, .int .i64 a0_11, .int .i64 a0_12] 38 (0, 0)))) ∧ (b 7 = true → b 8 = false → Aside0 (w'.heap[b2]? = some (.cells #[.string (⟨#[]⟩ : ByteArray), .string (⟨#[]⟩ : ByteArray), .nilFunc] 56 (0, 0)))) ∧ (b 8 = true → Aside0 (w'.heap[b2]? = some (.cells #[.string (opS a0_0), .string (kdS a0_1), (fnV B1 a0_0 a0_1)] 56 (0, 0)))) ∧ (b 0 = true → Aside0 (FormsAt w' bm1 B1)) ∧ (b 7 = true → Aside0 (w.heap.size ≤ b2))) HT_.out HW_.out (by kernel_rfl) (by kernel_rfl) ?_ ?_ ?_
      · exact ⟨0, 0, 0, FrB.start F6 ⟨rfl, trivial⟩ trivial, HB, X1, (fun h_ => by cases h_), (fun h_ => by cases h_), (fun h_ => by cases h_), (fun h_ => by cases h_)⟩
      · clear F6 HB X1 HT_ HW_
        refine steps_cons ?_ ?_
        · rintro b a w' ⟨bm1, B1, b2, hX, HB, X1, X2_v0, X2, FF1, GEX2⟩ hb_ hon hoff
          refine ⟨_, rfl, fun K hK => ?_⟩
          refine call_ (N := some 11) _ _ (run_guard rfl) rfl (r_call rfl Tryd.func36 (by kernel_rfl) rfl rfl m0) ?_
          refine (forms_calls _).mono ?_
          rintro e w1 ⟨bm1', B1', rfl, hb1_, hB1_, hF_, hE⟩
          clear hb1_ hB1_
          refine ⟨_, rfl, ?_⟩
          refine hK.out _ _ ⟨bm1', B1', b2, ((FrB.turn (C' := [(0, 11, .map (some bm1)), (1, 12, .pointer (some ⟨b1, 0, none⟩)), (2, 13, .int .i64 a0_0), (3, 14, .pointer (some ⟨b1, 1, none⟩)), (4, 15, .int .i64 a0_1), (5, 16, .agg #[.int .i64 a0_0, .int .i64 a0_1]), (6, 17, .agg #[.string (opS a0_0), .string (kdS a0_1), (fnV B1' a0_0 a0_1)]), (7, 4, .pointer (some ⟨b2, 0, none⟩))]) hX ⟨.inl rfl, .inl rfl, .inl rfl, .inl rfl, .inl rfl, .inl rfl, .inr (hoff 6 (by kernel_rfl)), .inl rfl, trivial⟩).put 0 hb_ rfl rfl rfl rfl rfl rfl), ⟨below_step HB.out hE⟩, ⟨blk_below X1.out hE⟩, (fun h0_ h1_ => ⟨blk_below (X2_v0 (by rwa [up_ne (by decide)] at h0_) (by rwa [up_ne (by decide)] at h1_)).out hE⟩), (fun h0_ => by rw [up_ne (by decide), hoff 8 (by kernel_rfl)] at h0_; cases h0_), (fun h0_ => ⟨hF_⟩), (fun h0_ => (GEX2 (by rwa [up_ne (by decide)] at h0_)))⟩
        refine steps_cons ?_ ?_
        · rintro b a w' ⟨bm1, B1, b2, hX, HB, X1, X2_v0, X2, FF1, GEX2⟩ hb_ hon hoff
          refine ⟨_, rfl, fun K hK => ?_⟩
          have t1 : a.tmps[1]? = some (.pointer (some ⟨b1, 0, none⟩)) := hX.t_in rfl
          have e1 := eval_of t1
          refine value_ (N := some 12) (v := .pointer (some ⟨b1, 0, none⟩)) (run_guard rfl) rfl (r_fieldAddr rfl e1 (direct_Words.fa38_0 _ _ _)) ?_
          refine hK.out _ _ ⟨bm1, B1, b2, (hX.put 1 hb_ rfl rfl rfl rfl rfl rfl), HB, X1, (fun h0_ h1_ => (X2_v0 (by rwa [up_ne (by decide)] at h0_) (by rwa [up_ne (by decide)] at h1_))), (fun h0_ => by rw [up_ne (by decide), hoff 8 (by kernel_rfl)] at h0_; cases h0_), (fun h0_ => (FF1 (by rwa [up_ne (by decide)] at h0_))), (fun h0_ => (GEX2 (by rwa [up_ne (by decide)] at h0_)))⟩
        refine steps_cons ?_ ?_
        · rintro b a w' ⟨bm1, B1, b2, hX, HB, X1, X2_v0, X2, FF1, GEX2⟩ hb_ hon hoff
          refine ⟨_, rfl, fun K hK => ?_⟩
          have t12 := hX.t_on 1 rfl (hon 1 (by kernel_rfl))
          have e12 := eval_of t12
          refine value_ (N := some 13) (v := .int .i64 a0_0) (run_guard rfl) rfl (r_load rfl e12 (l_one X1.out 0 rfl (agg_no Tryd.underlying3 rfl))) ?_
          refine hK.out _ _ ⟨bm1, B1, b2, (hX.put 2 hb_ rfl rfl rfl rfl rfl rfl), HB, X1, (fun h0_ h1_ => (X2_v0 (by rwa [up_ne (by decide)] at h0_) (by rwa [up_ne (by decide)] at h1_))), (fun h0_ => by rw [up_ne (by decide), hoff 8 (by kernel_rfl)] at h0_; cases h0_), (fun h0_ => (FF1 (by rwa [up_ne (by decide)] at h0_))), (fun h0_ => (GEX2 (by rwa [up_ne (by decide)] at h0_)))⟩
        refine steps_cons ?_ ?_
        · rintro b a w' ⟨bm1, B1, b2, hX, HB, X1, X2_v0, X2, FF1, GEX2⟩ hb_ hon hoff
          refine ⟨_, rfl, fun K hK => ?_⟩
          have t1 : a.tmps[1]? = some (.pointer (some ⟨b1, 0, none⟩)) := hX.t_in rfl
          have e1 := eval_of t1
          refine value_ (N := some 14) (v := .pointer (some ⟨b1, 1, none⟩)) (run_guard rfl) rfl (r_fieldAddr rfl e1 (direct_Words.fa38_1 _ _ _)) ?_
          refine hK.out _ _ ⟨bm1, B1, b2, (hX.put 3 hb_ rfl rfl rfl rfl rfl rfl), HB, X1, (fun h0_ h1_ => (X2_v0 (by rwa [up_ne (by decide)] at h0_) (by rwa [up_ne (by decide)] at h1_))), (fun h0_ => by rw [up_ne (by decide), hoff 8 (by kernel_rfl)] at h0_; cases h0_), (fun h0_ => (FF1 (by rwa [up_ne (by decide)] at h0_))), (fun h0_ => (GEX2 (by rwa [up_ne (by decide)] at h0_)))⟩
        refine steps_cons ?_ ?_
        · rintro b a w' ⟨bm1, B1, b2, hX, HB, X1, X2_v0, X2, FF1, GEX2⟩ hb_ hon hoff
          refine ⟨_, rfl, fun K hK => ?_⟩
          have t14 := hX.t_on 3 rfl (hon 3 (by kernel_rfl))
          have e14 := eval_of t14
          refine value_ (N := some 15) (v := .int .i64 a0_1) (run_guard rfl) rfl (r_load rfl e14 (l_one X1.out 1 rfl (agg_no Tryd.underlying3 rfl))) ?_
          refine hK.out _ _ ⟨bm1, B1, b2, (hX.put 4 hb_ rfl rfl rfl rfl rfl rfl), HB, X1, (fun h0_ h1_ => (X2_v0 (by rwa [up_ne (by decide)] at h0_) (by rwa [up_ne (by decide)] at h1_))), (fun h0_ => by rw [up_ne (by decide), hoff 8 (by kernel_rfl)] at h0_; cases h0_), (fun h0_ => (FF1 (by rwa [up_ne (by decide)] at h0_))), (fun h0_ => (GEX2 (by rwa [up_ne (by decide)] at h0_)))⟩
        refine steps_cons ?_ ?_
        · rintro b a w' ⟨bm1, B1, b2, hX, HB, X1, X2_v0, X2, FF1, GEX2⟩ hb_ hon hoff
          refine ⟨_, rfl, fun K hK => ?_⟩
          have t13 := hX.t_on 2 rfl (hon 2 (by kernel_rfl))
          have e13 := eval_of t13
          have t15 := hX.t_on 4 rfl (hon 4 (by kernel_rfl))
          have e15 := eval_of t15
          refine value_ (N := some 16) (v := .agg #[.int .i64 a0_0, .int .i64 a0_1]) (run_guard rfl) rfl (r_build rfl (p2 e13 e15) (direct_Words.bld60_0_1 _ _ _)) ?_
          refine hK.out _ _ ⟨bm1, B1, b2, (hX.put 5 hb_ rfl rfl rfl rfl rfl rfl), HB, X1, (fun h0_ h1_ => (X2_v0 (by rwa [up_ne (by decide)] at h0_) (by rwa [up_ne (by decide)] at h1_))), (fun h0_ => by rw [up_ne (by decide), hoff 8 (by kernel_rfl)] at h0_; cases h0_), (fun h0_ => (FF1 (by rwa [up_ne (by decide)] at h0_))), (fun h0_ => (GEX2 (by rwa [up_ne (by decide)] at h0_)))⟩
        refine steps_cons ?_ ?_
        · rintro b a w' ⟨bm1, B1, b2, hX, HB, X1, X2_v0, X2, FF1, GEX2⟩ hb_ hon hoff
          refine ⟨_, rfl, fun K hK => ?_⟩
          have t11 := hX.t_on 0 rfl (hon 0 (by kernel_rfl))
          have e11 := eval_of t11
          have t16 := hX.t_on 5 rfl (hon 5 (by kernel_rfl))
          have e16 := eval_of t16
          have FF1' := FF1 (hon 0 (by kernel_rfl))
          refine value_ (N := some 17) (v := .agg #[.string (opS a0_0), .string (kdS a0_1), (fnV B1 a0_0 a0_1)]) (run_guard rfl) rfl (r_lookup rfl e11 e16 (lookup_in FF1'.out (of_decide_eq_true hT2))) ?_
          refine hK.out _ _ ⟨bm1, B1, b2, (hX.put 6 hb_ rfl rfl rfl rfl rfl rfl), HB, X1, (fun h0_ h1_ => (X2_v0 (by rwa [up_ne (by decide)] at h0_) (by rwa [up_ne (by decide)] at h1_))), (fun h0_ => by rw [up_ne (by decide), hoff 8 (by kernel_rfl)] at h0_; cases h0_), (fun h0_ => (FF1 (by rwa [up_ne (by decide)] at h0_))), (fun h0_ => (GEX2 (by rwa [up_ne (by decide)] at h0_)))⟩
        refine steps_cons ?_ ?_
        · rintro b a w' ⟨bm1, B1, b2, hX, HB, X1, X2_v0, X2, FF1, GEX2⟩ hb_ hon hoff
          refine ⟨_, rfl, fun K hK => ?_⟩
          refine value_ (N := some 4) (v := .pointer (some ⟨w'.heap.size, 0, none⟩)) (run_guard rfl) rfl (r_alloc (cs := #[.string (⟨#[]⟩ : ByteArray), .string (⟨#[]⟩ : ByteArray), .nilFunc]) rfl (direct_Words.zv56 _) rfl) ?_
          have hE := (Below.refl w'.heap.size w').alloc (Nat.le_refl _) (.cells #[.string (⟨#[]⟩ : ByteArray), .string (⟨#[]⟩ : ByteArray), .nilFunc] 56)
          have hN := blk_new w' (.cells #[.string (⟨#[]⟩ : ByteArray), .string (⟨#[]⟩ : ByteArray), .nilFunc] 56)
          generalize w'.alloc (.cells #[.string (⟨#[]⟩ : ByteArray), .string (⟨#[]⟩ : ByteArray), .nilFunc] 56) = w1 at hE hN ⊢
          refine hK.out _ _ ⟨bm1, B1, w'.heap.size, (hX.put 7 hb_ rfl rfl rfl rfl rfl rfl), ⟨below_step HB.out hE⟩, ⟨blk_below X1.out hE⟩, (fun h0_ h1_ => ⟨hN⟩), (fun h0_ => by rw [up_ne (by decide), hoff 8 (by kernel_rfl)] at h0_; cases h0_), (fun h0_ => ⟨forms_ext (FF1 (by rwa [up_ne (by decide)] at h0_)).out hE⟩), (fun h0_ => ⟨HB.out.size⟩)⟩
        refine steps_cons ?_ ?_
        · rintro b a w' ⟨bm1, B1, b2, hX, HB, X1, X2_v0, X2, FF1, GEX2⟩ hb_ hon hoff
          refine ⟨_, rfl, fun K hK => ?_⟩
          have t4 := hX.t_on 7 rfl (hon 7 (by kernel_rfl))
          have e4 := eval_of t4
          have t17 := hX.t_on 6 rfl (hon 6 (by kernel_rfl))
          have e17 := eval_of t17
          have X2_v0' := X2_v0 (hon 7 (by kernel_rfl)) hb_
          have FF1' := FF1 (hon 0 (by kernel_rfl))
          have GEX2' := GEX2 (hon 7 (by kernel_rfl))
          obtain ⟨w1, hs, hS⟩ := s_part (P := Tryd.prog) (t := 56) (l' := [.string (opS a0_0), .string (kdS a0_1), (fnV B1 a0_0 a0_1)]) X2_v0'.out 0 #[.string (opS a0_0), .string (kdS a0_1), (fnV B1 a0_0 a0_1)] rfl rfl direct_Words.sz56 rfl
          refine skip_ (run_guard rfl) rfl (r_store rfl e4 e17 hs) ?_
          refine hK.out _ _ ⟨bm1, B1, b2, (hX.none rfl undef), ⟨HB.out.trans (hS.below _ (GEX2 (hon 7 (by kernel_rfl))).out)⟩, ⟨hS.blk X1.out (blk_ne X1.out X2_v0'.out (by decide))⟩, (fun h0_ h1_ => by rw [up_self] at h1_; cases h1_), (fun h0_ => ⟨hS.here⟩), (fun h0_ => ⟨forms_set (FF1 (by rwa [up_ne (by decide)] at h0_)).out X2_v0'.out (by decide) hS⟩), (fun h0_ => (GEX2 (by rwa [up_ne (by decide)] at h0_)))⟩
        exact steps_nil
      · rintro b ac9 w4 hall ⟨bm1, B1, b2, hX, HB, X1, X2_v0, X2, FF1, GEX2⟩
        have F9 := hX.done (all_of hall rfl) (L' := [(11, .map (some bm1)), (12, .pointer (some ⟨b1, 0, none⟩)), (13, .int .i64 a0_0), (14, .pointer (some ⟨b1, 1, none⟩)), (15, .int .i64 a0_1), (16, .agg #[.int .i64 a0_0, .int .i64 a0_1]), (17, .agg #[.string (opS a0_0), .string (kdS a0_1), (fnV B1 a0_0 a0_1)]), (4, .pointer (some ⟨b2, 0, none⟩)), (1, .pointer (some ⟨b1, 0, none⟩))]) rfl
        clear hX
        clear X2_v0
        replace X2 := X2 (hall 8 rfl)
        replace FF1 := FF1 (hall 0 rfl)
        replace GEX2 := GEX2 (hall 7 rfl)
        clear hall
        refine hK5 _ _ ?_
        refine wp_seq_k (fun K6 hK6 => ?_)
        refine wp_region_lit ?_
        refine sv (v := .pointer (some ⟨b2, 0, none⟩)) F9 (run_guard rfl) rfl rfl (r_fieldAddr rfl (F9.ev rfl) (direct_Words.fa56_0 _ _ _)) (fun ac10 F10 => ?_)
        clear F9 ac9
        refine sv (v := .string (opS a0_0)) F10 (run_guard rfl) rfl rfl (r_load rfl (F10.ev rfl) (l_one X2.out 0 rfl (agg_no Tryd.underlying9 rfl))) (fun ac11 F11 => ?_)
        clear F10 ac10
        refine sv (v := .pointer (some ⟨b2, 1, none⟩)) F11 (run_guard rfl) rfl rfl (r_fieldAddr rfl (F11.ev rfl) (direct_Words.fa56_1 _ _ _)) (fun ac12 F12 => ?_)
        clear F11 ac11
        refine sv (v := .string (kdS a0_1)) F12 (run_guard rfl) rfl rfl (r_load rfl (F12.ev rfl) (l_one X2.out 1 rfl (agg_no Tryd.underlying9 rfl))) (fun ac13 F13 => ?_)
        clear F12 ac12
        refine sv (v := .slice (some ⟨w4.heap.size, 0, none⟩) 2 2) F13 (run_guard rfl) rfl rfl (r_buildSlice rfl (p2 (F13.ev rfl) (F13.ev rfl)) (direct_Words.bsl39_2 _ _ _)) (fun ac14 F14 => ?_)
        clear F13 ac13
        have hR := R_litM (w := w4) (d := Kd.string) (n := 2) ([(opS a0_0), (kdS a0_1)] : List ByteArray) [.string (opS a0_0), .string (kdS a0_1)] 9 rfl (by decide) (fun _ _ => (Reps.front (c := [.string (opS a0_0)]) rfl rfl (Reps.front (c := [.string (kdS a0_1)]) rfl rfl reps_nil rfl) rfl))
        replace hR := Kd.R_lower hR HB.out.size
        have hE := (Below.refl w4.heap.size w4).alloc (Nat.le_refl _) (.cells #[.string (opS a0_0), .string (kdS a0_1)] 9)
        generalize w4.alloc (.cells #[.string (opS a0_0), .string (kdS a0_1)] 9) = w5 at hR hE ⊢
        replace X1 := Aside0.mk (blk_below X1.out hE)
        replace FF1 := Aside0.mk (forms_ext FF1.out hE)
        replace X2 := Aside0.mk (blk_below X2.out hE)
        replace HB := Aside0.mk (below_step HB.out hE)
        generalize w4.heap.size = b3 at hR F14
        have R1 := Aside0.mk hR
        clear hR hE
        refine sv (v := .slice (some ⟨b3, 0, none⟩) 2 2) F14 (run_guard rfl) rfl rfl (r_assign rfl (F14.ev rfl)) (fun ac15 F15 => ?_)
        clear F14 ac14
        refine c_end F15 ?_
        refine hK6 _ _ ?_
        refine wp_seq_k (fun K7 hK7 => ?_)
        refine wp_seq_k (fun K8 hK8 => ?_)
        refine wp_region_lit ?_
        refine sv (v := .pointer (some ⟨b2, 2, none⟩)) F15 (run_guard rfl) rfl rfl (r_fieldAddr rfl (F15.ev rfl) (direct_Words.fa56_2 _ _ _)) (fun ac16 F16 => ?_)
        clear F15 ac15
        refine sv (v := (fnV B1 a0_0 a0_1)) F16 (run_guard rfl) rfl rfl (r_load rfl (F16.ev rfl) (l_one X2.out 2 rfl (agg_no Tryd.underlying54 rfl))) (fun ac17 F17 => ?_)
        clear F16 ac16
        refine sc F17 (run_guard rfl) rfl rfl (r_callv rfl (F17.ev rfl) (num_fn a0_0 a0_1 (of_decide_eq_true hT2)).choose_spec.1 (num_fn a0_0 a0_1 (of_decide_eq_true hT2)).choose_spec.2.1 (num_fn a0_0 a0_1 (of_decide_eq_true hT2)).choose_spec.2.2 (m1 (F17.ev rfl))) ?_
        refine (num_x FF1.out (of_decide_eq_true hT2) b1).mono ?_
        rintro e w6 ⟨v_, rfl, hR_, hE⟩
        replace hR_ := Kd.R_lower hR_ HB.out.size
        obtain ⟨Aq1, cq1, rfl⟩ := Kd.R_slice hR_
        replace X1 := Aside0.mk (blk_below X1.out hE)
        replace FF1 := Aside0.mk (forms_ext FF1.out hE)
        replace X2 := Aside0.mk (blk_below X2.out hE)
        replace R1 := Aside0.mk (Kd.R_below R1.out hE)
        replace HB := Aside0.mk (below_step HB.out hE)
        have R2 := Aside0.mk hR_
        clear hR_
        refine ⟨_, rfl, fun ac18 F18 => ?_⟩
        clear hE F17 ac17
        refine sv (v := .int .i64 ((offs a0_0 a0_1).length : Int)) F18 (run_guard rfl) rfl rfl (r_len rfl rfl Tryd.underlying61 (F18.ev rfl)) (fun ac19 F19 => ?_)
        clear F18 ac18
        refine sv (v := .int .i64 0) F19 (run_guard rfl) rfl rfl (r_move rfl ev_c) (fun ac20 F20 => ?_)
        clear F19 ac19
        refine c_end F20 ?_
        refine hK8 _ _ ?_
        refine wp_block ?_
        clear FF1 X2
        have H0 := Aside0.mk h
        clear h
        refine c_loop (n := k) (fun (m : Nat) (a : Act) (w' : World) => ∃ Ax5 : Option Addr, ∃ cx5 : Nat, ∃ x5 : List ByteArray, ∃ x27 : Int, Fr a 40 [(5, .slice Ax5 x5.length cx5), (25, .slice Aq1 ((offs a0_0 a0_1).length) cq1), (26, .int .i64 ((offs a0_0 a0_1).length : Int)), (27, .int .i64 x27)] ∧ Aside0 (w'.heap[b1]? = some (.cells #[.int .i64 a0_0, .int .i64 a0_1, .int .i64 a0_2, .int .i64 a0_3, .int .i64 a0_4, .int .i64 a0_5, .int .i64 a0_6, .int .i64 a0_7, .int .i64 a0_8, .int .i64 a0_9, .int .i64 a0_10, .int .i64 a0_11, .int .i64 a0_12] 38 (0, 0))) ∧ Aside0 (Kd.R (kP b1) 63 w' w.heap.size (fun _ => True) (.slice Aq1 ((offs a0_0 a0_1).length) cq1) (offs a0_0 a0_1)) ∧ Aside0 (Kd.R Kd.string 9 w' w.heap.size (fun _ => True) (.slice Ax5 x5.length cx5) x5) ∧ Aside0 (Below w.heap.size w w') ∧ Aside0 (m ≤ k) ∧ Aside0 ((direct_Words.l0 m a0_0 a0_1 a0_2 a0_3 a0_4 a0_5 a0_6 a0_7 a0_8 a0_9 a0_10 a0_11 a0_12 x5 x27) = some (r1, r2))) ?_ ?_
        · exact ⟨(some ⟨b3, 0, none⟩), 2, ([(opS a0_0), (kdS a0_1)] : List ByteArray), 0, F20.pick ⟨rfl, rfl, rfl, rfl, trivial⟩, X1, R2, R1, HB, ⟨Nat.le_refl _⟩, H0⟩
        · clear F20 X1 R1 R2 HB H0
          rintro m ac21 w7 ⟨Ax5, cx5, x5, x27, F, X1, R2, Rx5, HB, HKk1, H⟩
          cases m with
          | zero => exact absurd H.out (by simp [direct_Words.l0])
          | succ k1 =>
            have h := H.out
            clear H
            simp only [direct_Words.l0] at h
            have F21 := F
            clear F
            refine wp_seq_k (fun K9 hK9 => ?_)
            refine wp_region_lit ?_
            refine sv (v := .bool (decide (x27 < ((offs a0_0 a0_1).length : Int)))) F21 (run_guard rfl) rfl rfl (r_lss rfl (F21.ev rfl) (F21.ev rfl)) (fun ac22 F22 => ?_)
            clear F21 ac21
            refine c_end F22 ?_
            refine hK9 _ _ ?_
            refine wp_seq_k (fun K10 hK10 => ?_)
            cases hT3 : decide (x27 < ((offs a0_0 a0_1).length : Int)) with
            | true =>
              replace h := cond_t hT3 h
              refine wp_cond_true (F22.ev (lk rfl hT3)) ?_
              refine wp_skip ?_
              refine hK10 _ _ ?_
              refine wp_seq_k (fun K11 hK11 => ?_)
              refine wp_block ?_
              refine wp_seq_k (fun K12 hK12 => ?_)
              refine wp_region_lit ?_
              cases hT4 : decide (0 ≤ x27) with
              | true =>
                replace h := cond_t hT4 h
                obtain ⟨eb1, eo1, cs_, hi_, hk_, E1⟩ := e_at (P := Tryd.prog) (c := cq1) (i := x27) (Kd.R_reads' R2.out).2.2 (0 : Nat) (of_decide_eq_true hT4) (of_decide_eq_true hT3) Tryd.underlying61 direct_Words.sz63 Nat.zero_lt_one
                obtain rfl := K_scalar hk_
                refine sv (v := .pointer (some ⟨eb1, eo1, none⟩)) F22 (run_guard rfl) rfl rfl (r_indexAddr rfl (F22.ev rfl) (F22.ev rfl) (hi_ _)) (fun ac23 F23 => ?_)
                clear hi_ F22 ac22
                refine sv (v := .pointer (some ⟨b1, ((offs a0_0 a0_1).getD (x27 : Int).toNat (0 : Nat)), none⟩)) F23 (run_guard rfl) rfl rfl (r_load rfl (F23.ev rfl) (l_cell E1.out 0 rfl (agg_no Tryd.underlying63 rfl))) (fun ac24 F24 => ?_)
                clear F23 ac23
                refine sv (v := .pointer (some ⟨b1, ((offs a0_0 a0_1).getD (x27 : Int).toNat (0 : Nat)), none⟩)) F24 (run_guard rfl) rfl rfl (r_assign rfl (F24.ev rfl)) (fun ac25 F25 => ?_)
                clear F24 ac24
                refine c_end F25 ?_
                clear E1
                refine hK12 _ _ ?_
                refine wp_region_lit ?_
                refine sv (v := .slice Ax5 x5.length cx5) F25 (run_guard rfl) rfl rfl (r_move rfl (F25.ev rfl)) (fun ac26 F26 => ?_)
                clear F25 ac25
                refine sv (v := .pointer (some ⟨b1, ((offs a0_0 a0_1).getD (x27 : Int).toNat (0 : Nat)), none⟩)) F26 (run_guard rfl) rfl rfl (r_move rfl (F26.ev rfl)) (fun ac27 F27 => ?_)
                clear F26 ac26
                refine sv (v := .pointer (some ⟨b1, ((offs a0_0 a0_1).getD (x27 : Int).toNat (0 : Nat)), none⟩)) F27 (run_guard rfl) rfl rfl (r_nil rfl (F27.ev rfl)) (fun ac28 F28 => ?_)
                clear F27 ac27
                refine sv (v := .int .i64 (([a0_0, a0_1, a0_2, a0_3, a0_4, a0_5, a0_6, a0_7, a0_8, a0_9, a0_10, a0_11, a0_12] : List Int).getD ((offs a0_0 a0_1).getD (x27 : Int).toNat (0 : Nat)) 0)) F28 (run_guard rfl) rfl rfl (r_load rfl (F28.ev rfl) (l_dyn (xs := [a0_0, a0_1, a0_2, a0_3, a0_4, a0_5, a0_6, a0_7, a0_8, a0_9, a0_10, a0_11, a0_12]) X1.out rfl ((offs a0_0 a0_1).getD (x27 : Int).toNat (0 : Nat)) (offs_getD (offs_lt _ _) (by have h1_ := of_decide_eq_true hT4; have h2_ := of_decide_eq_true hT3; omega)) rfl (agg_no Tryd.underlying3 rfl))) (fun ac29 F29 => ?_)
                clear F28 ac28
                replace h := Option.bind_eq_some_iff.1 h
                obtain ⟨y2, hy, h⟩ := h
                refine sc F29 (run_guard rfl) rfl rfl (r_call rfl Tryd.func23 (by kernel_rfl) rfl rfl (m1 (F29.ev rfl))) ?_
                refine (num_Text.calls (([a0_0, a0_1, a0_2, a0_3, a0_4, a0_5, a0_6, a0_7, a0_8, a0_9, a0_10, a0_11, a0_12] : List Int).getD ((offs a0_0 a0_1).getD (x27 : Int).toNat (0 : Nat)) 0) _ _ (TabP.below XTabP.out HB.out) hy).mono ?_
                rintro e w8 ⟨rfl, hE⟩
                clear hy
                replace X1 := Aside0.mk (blk_below X1.out hE)
                replace R2 := Aside0.mk (Kd.R_below R2.out hE)
                replace Rx5 := Aside0.mk (Kd.R_below Rx5.out hE)
                replace HB := Aside0.mk (below_step HB.out hE)
                refine ⟨_, rfl, fun ac30 F30 => ?_⟩
                clear hE F29 ac29
                cases hT5 : decide (x5.length < 8796093022208) with
                | true =>
                  replace h := cond_t hT5 h
                  refine sv (v := .slice (some ⟨w8.heap.size, 0, none⟩) 1 1) F30 (run_guard rfl) rfl rfl (r_buildSlice rfl (p1 (F30.ev rfl)) (direct_Words.bsl39_1 _ _)) (fun ac31 F31 => ?_)
                  clear F30 ac30
                  refine s_append Kd.string (w0 := w) (W := w8) F31 rfl rfl rfl _ _ 39 9 (.string (⟨#[]⟩ : ByteArray)) 16 rfl Tryd.underlying39 direct_Words.info9 rfl (by decide) (by decide) x5 y2 [.string y2] (F31.ev rfl) (F31.ev rfl) rfl Rx5.out HB.out (lim_of (of_decide_eq_true hT5) (by decide)) ?_
                  intro ac32 v1 w9 hR hB2 hG hO F32
                  clear F31 ac31
                  replace X1 := Aside0.mk (blk_grown X1.out hG (Kd.R_ne Rx5.out X1.out (by decide)))
                  replace R2 := Aside0.mk (R_grown1 R2.out Rx5.out (by intro q_ hq_; rcases List.mem_cons.1 hq_ with rfl | hq_; decide; cases hq_) hG)
                  clear Rx5
                  replace HB := Aside0.mk hB2
                  obtain ⟨Aq2, cq2, rfl⟩ := Kd.R_slice hR
                  have R3 := Aside0.mk hR
                  clear hR hB2 hG hO
                  refine sv (v := .slice Aq2 ((x5 ++ [y2]).length) cq2) F32 (run_guard rfl) rfl rfl (r_assign rfl (F32.ev rfl)) (fun ac33 F33 => ?_)
                  clear F32 ac32
                  refine c_end F33 ?_
                  refine hK11 _ _ ?_
                  refine wp_region_lit ?_
                  refine sv (v := .int .i64 (wrap64 (x27 + 1))) F33 (run_guard rfl) rfl rfl (r_add rfl (F33.ev rfl) ev_c) (fun ac34 F34 => ?_)
                  clear F33 ac33
                  refine sv (v := .int .i64 (wrap64 (x27 + 1))) F34 (run_guard rfl) rfl rfl (r_move rfl (F34.ev rfl)) (fun ac35 F35 => ?_)
                  clear F34 ac34
                  refine c_end F35 ?_
                  refine ⟨k1, Nat.lt_succ_self _, (Aq2), (cq2), ((x5 ++ [y2])), (wrap64 (x27 + 1)), F35.pick ⟨rfl, rfl, rfl, rfl, trivial⟩, X1, R2, R3, HB, ⟨(by have := HKk1.out; omega)⟩, ⟨h⟩⟩
                | false =>
                  replace h := cond_f hT5 h
                  cases h
              | false =>
                replace h := cond_f hT4 h
                cases h
            | false =>
              replace h := cond_f hT3 h
              refine wp_cond_false (F22.ev (lk rfl hT3)) ?_
              refine wp_exit ?_
              refine hK7 _ _ ?_
              refine wp_seq_k (fun K13 hK13 => ?_)
              clear X1 R2
              refine wp_region_lit ?_
              refine sv (v := .slice Ax5 x5.length cx5) F22 (run_guard rfl) rfl rfl (r_move rfl (F22.ev rfl)) (fun ac36 F36 => ?_)
              clear F22 ac22
              refine sv (v := .slice Ax5 x5.length cx5) F36 (run_guard rfl) rfl rfl (r_assign rfl (F36.ev rfl)) (fun ac37 F37 => ?_)
              clear F36 ac36
              refine sv (v := .bool true) F37 (run_guard rfl) rfl rfl (r_assign rfl ev_c) (fun ac38 F38 => ?_)
              clear F37 ac37
              refine c_end F38 ?_
              refine hK13 _ _ ?_
              refine wp_ret ?_
              (try simp only [Exit.then, Exit.inBlock])
              refine retx (fn := Tryd.f26) F38 (results2 (fn := Tryd.f26) rfl (rv_t (t := 2) (v := .slice Ax5 x5.length cx5) F38 rfl) (rv_t (t := 3) (v := .bool true) F38 rfl)) ?_
              cases h
              exact ⟨_, rfl, Rx5.out, HB.out⟩
    | false =>
      replace h := cond_f hT2 h
      cases h
end Go.Proofs.YtndijkndllpkgaaDoor.Pr
