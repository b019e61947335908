/- Part 5 of what the statements' rows lean on: the executor, the functions' trees, and what they come to in plain words. -/
import Derived.Test.YthlhbnaloefncaaGreatDoorS4
import Derived.Test.YthlhbnaloefncaaGreatDoorProg
import Derived.Below
import Derived.Deep.Draws
import Derived.OwnWalk
import Derived.WalkKit
import Derived.KernelRfl
import Derived.RowKit3
import Derived.Deep.LoopGhost
import Derived.Deep.CutBlock
import Derived.Deep.QuietTactic
import Derived.BigQuiet
import Derived.WideLaws
import Derived.Lib.OthersKept
import Derived.Lib.Hide
import Derived.Deep.DeepMust
import Derived.Laws.OwnMore
import Derived.WalkSmall
import Derived.Deep.AppendLies
import Derived.Maps.AppendAt
import Derived.Laws.BytesArg
import Derived.Laws.MakeOwn
import Derived.Deep.OwnRows
import Derived.Tactics
import Derived.Lib.ConvBytes
import Derived.Laws.Slices
import Derived.Deep.DeepCutAuto
import Derived.Deep.RegionHeld3
import Derived.Laws.Rows
import Derived.Lib.AppendStr
import Derived.ArgAppend
import Derived.Laws.IdiomCopy
import Derived.OrdersHeld
import Derived.Laws.BitsLemmas
import Derived.RowKit
import Derived.Laws.Strings2
import Derived.Laws.Strings3
import Derived.Lib.ItoaNum
import Derived.Laws.RangeAny
namespace Go.Proofs.YthlhbnaloefncaaGreatDoor.WordsA
open Go.RowKit Go.Proofs.YthlhbnaloefncaaGreatDoor.Wrd Go.Proofs.YthlhbnaloefncaaGreatDoor.Pr
theorem info9 : (Tryz.prog.info? 9).map (fun i => (i.zero, i.size, i.bytes)) = some (some (.string ⟨#[]⟩), 1, 16) := by kernel_rfl
theorem blank_calls (r : Nat) (b : Bool) (hr : r ≤ 2147483647) (h : (decide (r = 32) || (decide (r = 9) || decide (r = 13))) = b) (w : World) :
    Calls Tryz.prog 162 #[.int .i32 (r : Int)] w fun e w' => e = .returned (.bool b) ∧ w = w' := by
  go_enter Tryz.func162, Tryz.ntmps162
  by_cases h1 : r = 32
  · subst h1
    go_wp2
    go_ret
    exact ⟨by rw [← h]; rfl, rfl⟩
  · have b1 : ((r : Int) == 32) = false := beq_eq_false_iff_ne.2 (by omega)
    by_cases h2 : r = 9
    · subst h2
      go_wp2
      go_ret
      exact ⟨by rw [← h]; rfl, rfl⟩
    · have b2 : ((r : Int) == 9) = false := beq_eq_false_iff_ne.2 (by omega)
      have e : b = decide (r = 13) := by rw [← h]; simp [h1, h2]
      subst e
      have b3 : ((r : Int) == 13) = decide (r = 13) := by
        by_cases h3 : r = 13
        · subst h3; rfl
        · rw [decide_eq_false h3]; exact beq_eq_false_iff_ne.2 (by omega)
      clear h h1 h2
      go_wp2
      go_ret
      exact ⟨rfl, rfl⟩
theorem own_iterAt {w : World} {B e size n : Nat} {v : Value} {xs : List Value} {k : Nat} {s : ByteArray} {pos : Nat} (h : w.ownsRow B e size v n xs) (hk : w.heap[k]? = some (.stringIter s pos)) (pos' : Nat) : (w.iterAt k s pos').ownsRow B e size v n xs := by
  refine ⟨h.1, ?_⟩
  rcases h.2 with h0 | ⟨g, cap, cur, hv, hb, hg, rest⟩
  · exact .inl h0
  · refine .inr ⟨g, cap, cur, hv, hb, ?_, rest⟩
    rw [Lib.iterAt_other _ _ _ _ _ (fun e => by subst e; rw [hk] at hg; cases hg)]
    exact hg
theorem own_ne_iter {w : World} {B e size n : Nat} {v : Value} {xs : List Value} {k : Nat} {s : ByteArray} {pos : Nat} (h : w.ownsRow B e size v n xs) (hk : w.heap[k]? = some (.stringIter s pos)) : some k ≠ v.ownBlock := by
  rcases h.2 with ⟨rfl, _⟩ | ⟨g, cap, cur, rfl, hb, hg, rest⟩
  · simp [Value.ownBlock]
  · intro e
    simp only [Value.ownBlock, Option.some.injEq] at e
    subst e
    rw [hk] at hg
    cases hg
theorem byte_bare : ∀ (l : List UInt8), (Lib.indexByte l 35 = -1 ∧ bare l = l) ∨ ∃ n : Nat, Lib.indexByte l 35 = n ∧ bare l = l.take n
  | [] => .inl ⟨rfl, rfl⟩
  | c :: l => by
    by_cases hc : c = 35
    · subst hc
      exact .inr ⟨0, by simp [Lib.indexByte], by simp [bare]⟩
    · have e : bare (c :: l) = c :: bare l := by simp [bare, hc]
      rcases byte_bare l with ⟨h1, h2⟩ | ⟨n, h1, h2⟩
      · exact .inl ⟨by simp [Lib.indexByte, hc, h1], by rw [e, h2]⟩
      · refine .inr ⟨n + 1, ?_, by rw [e, h2]; rfl⟩
        have h3 : ¬ ((n : Int) = -1) := by omega
        simp [Lib.indexByte, hc, h1, h3]
theorem cut_bare (l : List UInt8) : (Lib.cut l [35]).1 = bare l := by
  unfold Lib.cut
  rw [Lib.index_one]
  rcases byte_bare l with ⟨h1, h2⟩ | ⟨n, h1, h2⟩
  · rw [h1, if_neg (by omega), h2]
  · rw [h1, if_pos (by omega), h2]; rfl
theorem cell_one_new (w : World) (x : Value) (t : TypeId) : ∀ j u, [x][j]? = some u → (w.alloc (.cells #[x] t)).cell? ((⟨w.heap.size, 0, none⟩ : Addr).add j) = some u := by
  intro j u hj
  match j, hj with
  | 0, hj => simp at hj; subst hj; simp [Addr.add]
  | (j + 1), hj => simp at hj
def WordsPost (s : ByteArray) (w : World) (e : Ending) (w' : World) : Prop := ∃ (v : Value) (outs : List ByteArray), e = .returned v ∧ (outs.map fun x => x.data.toList) = wordsL s.data.toList ∧
      w'.ownsRow w.heap.size 9 1 v outs.length (outs.map Value.string) ∧ Below w.heap.size w w'
theorem below_drewN' {B : Nat} {a w : World} (h : Below B a w) (q : Nat) : Below B a (w.drewN q) := ⟨h.os, h.tape, h.output, h.size, h.block⟩
theorem Cut_calls (s : ByteArray) (w : World) (hs : s.size < 4294967281) (hm : MaxP w) :
    Calls Tryz.prog 161 #[.string s, .string (⟨#[35]⟩ : ByteArray)] w fun e w' => ∃ (t x : ByteArray) (b : Bool) (q : Nat), e = .returned (.tuple #[.string t, .string x, .bool b]) ∧ t.data.toList = bare s.data.toList ∧ w' = w.drewN q := by
  obtain ⟨m, hm⟩ := hm
  refine (Tryz.strings_Cut s ⟨#[35]⟩ m w hs hm).mono ?_
  rintro e w' ⟨rfl, q, rfl⟩
  exact ⟨_, _, _, q, rfl, by rw [← cut_bare], rfl⟩
set_option maxHeartbeats 4000000 in
set_option maxRecDepth 100000 in
theorem Words_calls (s : ByteArray) (w : World) (hs : s.size < 4294967281) (hm : MaxP w) :
    Calls Tryz.prog 105 #[.string s] w (WordsPost s w) := by
  obtain ⟨i0, hi, hz0, hz1, hz2⟩ := info_parts info9
  go_enter Tryz.func105, Tryz.ntmps105
  go_wp2_with (go_at_call 161; refine (Cut_calls _ _ hs hm).mono ?_; rintro e w' ⟨t, x, b, q0, rfl, ht, rfl⟩)
  have HT : Hid (wgo t.data.toList [] = wordsL s.data.toList) := Lib.hid (by rw [ht]; rfl)
  have hts : t.size ≤ s.size := by
    have h1 := congrArg List.length ht
    have h2 : (bare s.data.toList).length ≤ s.data.toList.length := (List.takeWhile_sublist _).length_le
    simp at h1 h2
    omega
  clear ht
  go_loopg [2, 3] t.size (fun gf v2 v3 wx => ∃ (pos : Nat) (st : Option Nat) (outs : List ByteArray) (z : Int), v3 = .int .i64 z ∧ (st = none → z < 0) ∧ (∀ a, st = some a → z = (a : Int)) ∧ -9223372036854775808 ≤ z ∧
      wx.ownsRow w.heap.size 9 1 v2 outs.length (outs.map Value.string) ∧ wx.heap[w.heap.size]? = some (.stringIter t pos) ∧ Below w.heap.size w wx ∧ Fnd t outs st pos ∧ pos ≤ t.size ∧ t.size = pos + gf ∧ outs.length ≤ pos ∧ (∀ a, st = some a → a < pos))
  case atStart => exact ⟨0, none, [], -1, rfl, fun _ => by omega, (fun a h => by cases h), by omega, ⟨rfl, .inl ⟨rfl, rfl⟩⟩, World.iter_heap (w.drewN q0) t 0, (below_drewN' (Below.refl _ w) q0).alloc (Nat.le_refl _) _, fnd_start t, Nat.zero_le _, by omega, Nat.le_refl _, (fun a h => by cases h)⟩
  case round =>
    obtain ⟨pos, st, outs, z, rfl, hzn, hzs, hzl, hown, hit, hbw, hF, hps, hfu, hal, hst⟩ := hrel
    by_cases hlt : pos < t.size
    · obtain ⟨R, hR⟩ : ∃ R, (Utf8.decode t pos).1 = R := ⟨_, rfl⟩
      obtain ⟨K, hK⟩ : ∃ K, (Utf8.decode t pos).2 = K := ⟨_, rfl⟩
      have hRle : R ≤ 2147483647 := hR ▸ decode_le t pos
      have hnx : ∀ ty, (Instr.next (.pointer (some ⟨w.heap.size, 0, none⟩)) true ty).run Tryz.prog wr = _ := fun ty => Lib.run_next_any_at wr w.heap.size t pos ty hit hlt
      rw [hR, hK] at hnx
      have hK1 : 1 ≤ K := hK ▸ Lib.width_pos t pos
      have hit2 := Lib.iterAt_heap wr w.heap.size t pos (pos + K) hit
      have hbw2 := Lib.below_iterAt hbw (k := w.heap.size) (Nat.le_refl _) t (pos + K)
      have hown2 := own_iterAt hown hit (pos + K)
      have hkind : (pos + K ≤ t.size ∧ (decide (R = 32) || (decide (R = 9) || decide (R = 13))) = false ∧ ∀ c ∈ sub t pos (pos + K), blk c = false) ∨ (K = 1 ∧ (decide (R = 32) || (decide (R = 9) || decide (R = 13))) = true ∧ blk (t[pos]'hlt) = true) := by
        by_cases ha : (t[pos]'hlt).toNat < 128
        · have hd := decode_ascii t pos hlt ha
          rw [hd] at hR hK
          have hR' : R = (t[pos]'hlt).toNat := hR.symm
          have hK' : K = 1 := hK.symm
          subst hK'
          cases hb : blk (t[pos]'hlt) with
          | true =>
            refine .inr ⟨rfl, ?_, rfl⟩
            rw [hR']
            unfold blk at hb
            simp only [Bool.or_eq_true, beq_iff_eq] at hb
            rcases hb with (hb | hb) | hb <;> rw [hb] <;> rfl
          | false =>
            refine .inl ⟨by omega, ?_, fun c hc => ?_⟩
            · unfold blk at hb
              simp only [Bool.or_eq_false_iff, beq_eq_false_iff_ne] at hb
              have n1 : R ≠ 32 := fun e => hb.1.1 (UInt8.toNat_inj.1 (by rw [← hR', e]; rfl))
              have n2 : R ≠ 9 := fun e => hb.1.2 (UInt8.toNat_inj.1 (by rw [← hR', e]; rfl))
              have n3 : R ≠ 13 := fun e => hb.2 (UInt8.toNat_inj.1 (by rw [← hR', e]; rfl))
              simp [n1, n2, n3]
            · obtain ⟨k, hk, h1, h2, rfl⟩ := sub_mem t pos (pos + 1) (by omega) c hc
              obtain rfl : k = pos := by omega
              exact hb
        · have hw := wide t pos hlt (by omega)
          have h128 := (decode_high t pos hlt (by omega)).1
          rw [hK] at hw
          rw [hR] at h128
          refine .inl ⟨hw.1, by simp; omega, fun c hc => ?_⟩
          obtain ⟨k, hk, h1, h2, rfl⟩ := sub_mem t pos (pos + K) hw.1 c hc
          exact blk_high (hw.2 k hk h1 h2)
      obtain ⟨W, hWd⟩ : ∃ W, wr.iterAt w.heap.size t (pos + K) = W := ⟨_, rfl⟩
      rw [hWd] at hnx hit2 hbw2 hown2
      clear hown hit hbw hWd hR hK
      rcases hkind with ⟨hKs, hbl, hnb⟩ | ⟨rfl, hbl, hbk⟩
      · have cS := blank_calls R false hRle hbl
        clear hbl
        have hF2 := Lib.hid (fnd_word hF hnb (fun a h => by have := hst a h; omega))
        obtain ⟨g', rfl⟩ : ∃ g', gk = g' + K := ⟨gk - K, by omega⟩
        cases st with
        | none =>
          have hz0' : z < 0 := hzn rfl
          have hzd : decide (z < 0) = true := decide_eq_true hz0'
          clear hF hnb
          go_wp2_with (go_at_call 162; refine (cS _).mono ?_; rintro e w' ⟨rfl, rfl⟩)
          go_roundg g'
          case measure => omega
          case rel => exact ⟨pos + K, some pos, outs, pos, rfl, (fun h => by cases h), fun a h => by cases h; rfl, by omega, hown2, hit2, hbw2, hF2.out, hKs, by omega, by omega, fun a h => by cases h; omega⟩
        | some a =>
          have hza : z = (a : Int) := hzs a rfl
          subst hza
          clear hF hnb
          go_wp2_with (go_at_call 162; refine (cS _).mono ?_; rintro e w' ⟨rfl, rfl⟩)
          go_roundg g'
          case measure => omega
          case rel => exact ⟨pos + K, some a, outs, a, rfl, (fun h => by cases h), fun b h => by cases h; rfl, by omega, hown2, hit2, hbw2, hF2.out, hKs, by omega, by omega, fun b h => by cases h; have := hst a rfl; omega⟩
      · have cS := blank_calls R true hRle hbl
        clear hbl
        obtain ⟨g', rfl⟩ : ∃ g', gk = g' + 1 := ⟨gk - 1, by omega⟩
        cases st with
        | none =>
          have hz0' : z < 0 := hzn rfl
          have hF2 := Lib.hid (fnd_skip hF hlt hbk)
          clear hF hbk
          go_wp2_with (go_at_call 162; refine (cS _).mono ?_; rintro e w' ⟨rfl, rfl⟩)
          go_roundg g'
          case measure => omega
          case rel => exact ⟨pos + 1, none, outs, z, rfl, fun _ => hz0', (fun a h => by cases h), hzl, hown2, hit2, hbw2, hF2.out, by omega, by omega, by omega, (fun a h => by cases h)⟩
        | some a =>
          have hza : z = (a : Int) := hzs a rfl
          subst hza
          have hap := hst a rfl
          have hF2 := Lib.hid (fnd_cut hF hlt hap hbk)
          clear hF hbk
          have hsl : ∀ W : World, (Instr.slice 9 (.string t) (some (.int .i64 (a : Int))) (some (.int .i64 (pos : Int))) none).run Tryz.prog W = .ok (.string (t.extract a pos)) W := fun W => by
            have := run_slice_string (P := Tryz.prog) W 9 t .i64 .i64 a pos Tryz.underlying9 (by omega) (by omega) (by omega)
            simpa using this
          go_wp2_with (first
            | (go_at_call 162; refine (cS _).mono ?_; rintro e w' ⟨rfl, rfl⟩)
            | (at_builtin; go_must (refine wpList_append_own _ rfl (.tmp 34) (.tmp 39) 98 rfl w.heap.size 9 i0 (.string ⟨#[]⟩) 1 16 Tryz.underlying98 hi hz0 hz1 hz2 rfl (by decide) _ _ _ rfl (hown2.alloc _) ⟨W.heap.size, 0, none⟩ 1 1 [.string (t.extract a pos)] rfl rfl (cell_one_new _ _ _) (by intro u hu; simp at hu; subst hu; rfl) (by unfold maxLen; omega) (by omega) (by have := hbw2.size; simp; omega) ?_; intro v3 w3 hown3 hgrow3 hnil3)))
          go_roundg g'
          case measure => omega
          case rel =>
            have hIT : w.heap.size < W.heap.size := (Array.getElem?_eq_some_iff.1 hit2).1
            have hX := hown2.alloc (.cells #[.string (t.extract a pos)] 9)
            refine ⟨pos + 1, none, outs ++ [t.extract a pos], -1, rfl, fun _ => by omega, (fun b h => by cases h), by omega, by rw [List.length_append, List.map_append]; exact hown3, ?_, ?_, hF2.out, by omega, by omega, by simp; omega, (fun b h => by cases h)⟩
            · exact (hgrow3.block w.heap.size (by simp; omega) (own_ne_iter hown2 hit2)).trans ((Below.heap_alloc _ _ _ hIT).trans hit2)
            · exact (hbw2.alloc (by have := hbw2.size; exact this) _).grown hgrow3 (by have := hbw2.size; simp; omega) (fun j hj => (hX.lt j hj).1)
    · obtain rfl : pos = t.size := by omega
      have hnx : ∀ ty, (Instr.next (.pointer (some ⟨w.heap.size, 0, none⟩)) true ty).run Tryz.prog wr = _ := fun ty => Lib.run_next_end_at wr w.heap.size t t.size ty hit hlt
      have hend := fnd_end hF
      rw [HT.out] at hend
      clear hfu hps
      cases st with
      | none =>
        have hz0' : z < 0 := hzn rfl
        have HE := Lib.hid hend
        clear hend hF
        go_wp2
        go_ret
        exact ⟨_, outs, rfl, by rw [← HE.out]; simp [curOf], hown, hbw⟩
      | some a =>
        have hza : z = (a : Int) := hzs a rfl
        subst hza
        have hap := hst a rfl
        have HE := Lib.hid hend
        clear hend hF
        have hsl : ∀ W : World, (Instr.slice 9 (.string t) (some (.int .i64 (a : Int))) none none).run Tryz.prog W = .ok (.string (t.extract a t.size)) W := fun W => by
          have := run_slice_string_from_if (P := Tryz.prog) W 9 t .i64 a Tryz.underlying9
          rw [this, if_pos ⟨by omega, by omega⟩]
          simp
        go_wp2_with (at_builtin; go_must (refine wpList_append_own _ rfl (.tmp 43) (.tmp 47) 98 rfl w.heap.size 9 i0 (.string ⟨#[]⟩) 1 16 Tryz.underlying98 hi hz0 hz1 hz2 rfl (by decide) _ _ _ rfl (hown.alloc _) ⟨wr.heap.size, 0, none⟩ 1 1 [.string (t.extract a t.size)] rfl rfl (cell_one_new _ _ _) (by intro u hu; simp at hu; subst hu; rfl) (by unfold maxLen; omega) (by omega) (by have := hbw.size; simp; omega) ?_; intro v3 w3 hown3 hgrow3 hnil3))
        go_ret
        have hX := hown.alloc (.cells #[.string (t.extract a t.size)] 9)
        refine ⟨_, outs ++ [t.extract a t.size], rfl, ?_, by rw [List.length_append, List.map_append]; exact hown3, ?_⟩
        · rw [← HE.out, List.map_append, List.map_cons, List.map_nil, sub_extract]
          rw [if_neg (show ¬ curOf t (some a) t.size = [] from sub_ne t a t.size hap (Nat.le_refl _))]
          rfl
        · exact (hbw.alloc (by have := hbw.size; exact this) _).grown hgrow3 (by have := hbw.size; simp; omega) (fun j hj => (hX.lt j hj).1)
end Go.Proofs.YthlhbnaloefncaaGreatDoor.WordsA
namespace Go.Proofs.YthlhbnaloefncaaGreatDoor.Dig
open Go.Lib
def pgo : List UInt8 → Bool → Int → Option Int
  | [], _, n => some n
  | c :: l, first, n => if (c.toNat : Int) < 48 then none else if 57 < (c.toNat : Int) then none else if first = false ∧ n = 0 then none else
      if (9223372036854775807 - ((c.toNat : Int) - 48)) / 10 < n then none else pgo l false (n * 10 + ((c.toNat : Int) - 48))
def parseI (l : List UInt8) (high : Int) : Int × Bool :=
  match pgo l true 0 with
  | none => (0, false)
  | some n => if l = [] then (0, false) else if high < n then (0, false) else (n, true)
def stepI (c : UInt8) (first : Bool) (n : Int) : Option Int :=
  if (c.toNat : Int) < 48 then none else if 57 < (c.toNat : Int) then none else if first = false ∧ n = 0 then none else
      if (9223372036854775807 - ((c.toNat : Int) - 48)) / 10 < n then none else some (n * 10 + ((c.toNat : Int) - 48))
theorem pgo_cons (c : UInt8) (l : List UInt8) (b : Bool) (n : Int) : pgo (c :: l) b n = (stepI c b n).bind (pgo l false) := by
  simp only [pgo, stepI]
  repeat' split
  all_goals rfl
theorem pgo_snoc (c : UInt8) : ∀ (l : List UInt8) (b : Bool) (n : Int), pgo (l ++ [c]) b n = (pgo l b n).bind (stepI c (b && l.isEmpty))
  | [], b, n => by
    rw [List.nil_append, pgo_cons, pgo]
    simp only [List.isEmpty_nil, Bool.and_true, Option.bind_some]
    cases stepI c b n <;> simp [pgo]
  | x :: l, b, n => by
    rw [List.cons_append, pgo_cons, pgo_cons]
    cases h : stepI x b n with
    | none => rfl
    | some m => simp only [Option.bind_some]; rw [pgo_snoc c l false m]; simp
theorem dec_small {u : Nat} (h : u < 10) : decDigits u = [UInt8.ofNat (48 + u)] := by rw [decDigits, dif_pos h]
theorem dec_big {u : Nat} (h : ¬ u < 10) : decDigits u = decDigits (u / 10) ++ [UInt8.ofNat (48 + u % 10)] := by rw [decDigits, dif_neg h]
theorem byte_of {c : UInt8} (h1 : 48 ≤ c.toNat) (h2 : c.toNat ≤ 57) : c = UInt8.ofNat (48 + (c.toNat - 48)) := by
  rw [show 48 + (c.toNat - 48) = c.toNat by omega, UInt8.ofNat_toNat]
theorem stepI_some {c : UInt8} {b : Bool} {n m : Int} (h : stepI c b n = some m) :
    48 ≤ c.toNat ∧ c.toNat ≤ 57 ∧ (b = false → n ≠ 0) ∧ n ≤ (9223372036854775807 - ((c.toNat : Int) - 48)) / 10 ∧ m = n * 10 + ((c.toNat : Int) - 48) := by
  unfold stepI at h
  split at h <;> try contradiction
  split at h <;> try contradiction
  split at h <;> try contradiction
  split at h <;> try contradiction
  rename_i h1 h2 h3 h4
  have h := Option.some.inj h
  exact ⟨by omega, by omega, fun hb hn => h3 ⟨hb, hn⟩, by omega, h.symm⟩
theorem list_snoc {α : Type} (l : List α) (h : l ≠ []) : ∃ l' c, l = l' ++ [c] := ⟨l.dropLast, l.getLast h, (List.dropLast_concat_getLast h).symm⟩
theorem dec_of_pgo : ∀ (k : Nat) (l : List UInt8) (m : Int), l.length = k → l ≠ [] → pgo l true 0 = some m → 0 ≤ m ∧ m ≤ 9223372036854775807 ∧ decDigits m.toNat = l := by
  intro k
  induction k with
  | zero => intro l m hl hn _; exact absurd (List.length_eq_zero_iff.1 hl) hn
  | succ k ih =>
    intro l m hl hn hp
    obtain ⟨l', c, rfl⟩ := list_snoc l hn
    rw [pgo_snoc] at hp
    by_cases he : l' = []
    · subst he
      simp only [pgo, Option.bind_some, List.isEmpty_nil, Bool.and_true] at hp
      obtain ⟨h1, h2, _, _, rfl⟩ := stepI_some hp
      refine ⟨by omega, by omega, ?_⟩
      rw [show (0 * 10 + ((c.toNat : Int) - 48)).toNat = c.toNat - 48 by omega, dec_small (by omega), ← byte_of h1 h2]
      rfl
    · cases hq : pgo l' true 0 with
      | none => rw [hq] at hp; simp at hp
      | some q =>
        rw [hq] at hp
        have hne : l'.isEmpty = false := by simpa using he
        simp only [Option.bind_some, hne, Bool.and_false] at hp
        obtain ⟨h1, h2, h3, h4, rfl⟩ := stepI_some hp
        have hl' : l'.length = k := by simpa using hl
        obtain ⟨q0, q1, qe⟩ := ih l' q hl' he hq
        have hq0 : q ≠ 0 := h3 rfl
        refine ⟨by omega, by omega, ?_⟩
        have hbig : ¬ (q * 10 + ((c.toNat : Int) - 48)).toNat < 10 := by omega
        rw [dec_big hbig, show (q * 10 + ((c.toNat : Int) - 48)).toNat / 10 = q.toNat by omega, qe,
          show 48 + (q * 10 + ((c.toNat : Int) - 48)).toNat % 10 = 48 + (c.toNat - 48) by omega, ← byte_of h1 h2]
theorem parse_true {l : List UInt8} {high n : Int} (h : parseI l high = (n, true)) : 0 ≤ n ∧ n ≤ high ∧ n ≤ 9223372036854775807 ∧ itoa n = l := by
  unfold parseI at h
  cases hp : pgo l true 0 with
  | none => rw [hp] at h; simp at h
  | some m =>
    rw [hp] at h
    simp only at h
    split at h
    · simp at h
    · rename_i hl
      split at h
      · simp at h
      · rename_i hh
        have hm : m = n := (Prod.mk.inj h).1
        subst hm
        obtain ⟨h0, h1, h2⟩ := dec_of_pgo _ l m rfl hl hp
        exact ⟨h0, by omega, h1, by unfold itoa; rw [if_neg (by omega)]; exact h2⟩
end Go.Proofs.YthlhbnaloefncaaGreatDoor.Dig
namespace Go.Proofs.YthlhbnaloefncaaGreatDoor.Num
open Go.RowKit Go.Proofs.YthlhbnaloefncaaGreatDoor.Dig
theorem drop_cons (s : ByteArray) (pos : Nat) (h : pos < s.size) : s.data.toList.drop pos = (s[pos]'h) :: s.data.toList.drop (pos + 1) := by
  rw [List.drop_eq_getElem_cons (by simpa using h)]; rfl
theorem ret2 {k : IntKind} {a b : Int} {p q : Bool} (h : a = b) (g : p = q) : Ending.returned (.tuple #[.int k a, .bool p]) = .returned (.tuple #[.int k b, .bool q]) := by rw [h, g]
set_option maxHeartbeats 2000000 in
set_option maxRecDepth 100000 in
theorem Parse_calls (s : ByteArray) (high : Int) (w : World) (hs : s.size ≤ 9223372036854775807) :
    Calls Tryz.prog 108 #[.string s, .int .i64 high] w fun e w' => e = .returned (.tuple #[.int .i64 (parseI s.data.toList high).1, .bool (parseI s.data.toList high).2]) ∧ Below w.heap.size w w' := by
  go_enter Tryz.func108, Tryz.ntmps108
  go_wp2
  go_loopg [4] s.size (fun gf v4 wx => ∃ (pos : Nat) (n : Int), v4 = .int .i64 n ∧ wx.heap[w.heap.size]? = some (.stringIter s pos) ∧ Below w.heap.size w wx ∧ 0 ≤ n ∧ n ≤ 9223372036854775807 ∧ pgo (s.data.toList.drop pos) (decide (pos = 0)) n = pgo s.data.toList true 0 ∧ pos ≤ s.size ∧ s.size = pos + gf)
  case atStart => exact ⟨0, 0, rfl, World.iter_heap w s 0, (Below.refl _ w).alloc (Nat.le_refl _) _, by omega, by omega, rfl, by omega, by omega⟩
  case round =>
    obtain ⟨pos, n, rfl, hit, hbw, hn0, hn1, hleft, hle, hfu⟩ := hrel
    by_cases hps : pos < s.size
    · obtain ⟨g', rfl⟩ : ∃ g', gk = g' + 1 := ⟨gk - 1, by omega⟩
      have hnx : ∀ ty, (Instr.next (.pointer (some ⟨w.heap.size, 0, none⟩)) true ty).run Tryz.prog wr = _ := fun ty => Lib.run_next_any_at wr w.heap.size s pos ty hit hps
      obtain ⟨R, hR⟩ : ∃ R, (Utf8.decode s pos).1 = R := ⟨_, rfl⟩
      obtain ⟨K, hK⟩ : ∃ K, (Utf8.decode s pos).2 = K := ⟨_, rfl⟩
      have hRle : R ≤ 2147483647 := hR ▸ decode_le s pos
      rw [drop_cons s pos hps] at hleft
      simp only [pgo] at hleft
      have hit2 := Lib.iterAt_heap wr w.heap.size s pos (pos + K) hit
      have hbw2 := Lib.below_iterAt hbw (k := w.heap.size) (Nat.le_refl _) s (pos + K)
      rw [hR, hK] at hnx
      obtain ⟨W, hWd⟩ : ∃ W, wr.iterAt w.heap.size s (pos + K) = W := ⟨_, rfl⟩
      rw [hWd] at hnx hit2 hbw2
      have hcR : ((s[pos]'hps).toNat : Int) = R ∧ K = 1 ∨ 128 ≤ ((s[pos]'hps).toNat : Int) ∧ 128 ≤ R := by
        by_cases ha : (s[pos]'hps).toNat < 128
        · rw [decode_ascii s pos hps ha] at hR hK; exact .inl ⟨by rw [← hR], hK.symm⟩
        · exact .inr ⟨by omega, by rw [← hR]; exact (decode_high s pos hps (by omega)).1⟩
      obtain ⟨C, hC⟩ : ∃ C : Int, ((s[pos]'hps).toNat : Int) = C := ⟨_, rfl⟩
      rw [hC] at hcR hleft
      clear hC hR hK hWd hit
      by_cases c1 : (R : Int) < 48
      · have HP : Hid (parseI s.data.toList high = (0, false)) := Lib.hid (by unfold parseI; rw [← hleft, if_pos (by omega)])
        have b1 : decide ((R : Int) < 48) = true := decide_eq_true c1
        clear hleft hcR
        go_wp2
        go_ret2
        exact ⟨ret2 (by rw [HP.out]) (by rw [HP.out]), hbw2⟩
      · have b1 : decide ((R : Int) < 48) = false := decide_eq_false c1
        by_cases c2 : 57 < (R : Int)
        · have HP : Hid (parseI s.data.toList high = (0, false)) := Lib.hid (by unfold parseI; rw [← hleft, if_neg (by omega), if_pos (by omega)])
          have b2 : decide (57 < (R : Int)) = true := decide_eq_true c2
          clear hleft hcR
          go_wp2
          go_ret2
          exact ⟨ret2 (by rw [HP.out]) (by rw [HP.out]), hbw2⟩
        · have b2 : decide (57 < (R : Int)) = false := decide_eq_false c2
          obtain ⟨rfl, rfl⟩ : (C = R ∧ K = 1) := by omega
          rw [if_neg c1, if_neg c2] at hleft
          by_cases c3 : pos = 0
          · simp only [c3, decide_true, Bool.true_eq_false, false_and, if_false] at hleft
            rw [show s.data.toList.drop (0 + 1) = s.data.toList.drop (pos + 1) by rw [c3]] at hleft
            have c3' : decide (0 < pos) = false := by simp [c3]
            have c3i : decide ((0 : Int) < (pos : Int)) = false := by simp [c3]
            have H3 := Lib.hid c3
            clear c3
            by_cases c4 : (9223372036854775807 - ((R : Int) - 48)) / 10 < n
            · have HP : Hid (parseI s.data.toList high = (0, false)) := Lib.hid (by unfold parseI; rw [← hleft, if_pos c4])
              have b4 : decide ((9223372036854775807 - ((R : Int) - 48)) / 10 < n) = true := decide_eq_true c4
              clear hleft
              go_wp2
              go_ret2
              exact ⟨ret2 (by rw [HP.out]) (by rw [HP.out]), hbw2⟩
            · have b4 : decide ((9223372036854775807 - ((R : Int) - 48)) / 10 < n) = false := decide_eq_false c4
              rw [if_neg c4] at hleft
              have HL := Lib.hid hleft
              clear hleft
              go_wp2
              go_roundg g'
              case measure => omega
              case rel => exact ⟨pos + 1, _, rfl, hit2, hbw2, by omega, by omega, by rw [← HL.out]; simp, by omega, by omega⟩
          · have c3' : decide (0 < pos) = true := by simp; omega
            have c3i : decide ((0 : Int) < (pos : Int)) = true := by simp; omega
            have e3 : decide (pos = 0) = false := by simp [c3]
            rw [e3] at hleft
            clear e3
            by_cases c5 : n = 0
            · have HP : Hid (parseI s.data.toList high = (0, false)) := Lib.hid (by unfold parseI; rw [← hleft, if_pos ⟨rfl, c5⟩])
              have b5 : (n == 0) = true := beq_iff_eq.2 c5
              clear hleft c5 
              go_wp2
              go_ret2
              exact ⟨ret2 (by rw [HP.out]) (by rw [HP.out]), hbw2⟩
            · rw [if_neg (by rintro ⟨_, h⟩; exact c5 h)] at hleft
              have b5 : (n == 0) = false := beq_eq_false_iff_ne.2 c5
              by_cases c4 : (9223372036854775807 - ((R : Int) - 48)) / 10 < n
              · have HP : Hid (parseI s.data.toList high = (0, false)) := Lib.hid (by unfold parseI; rw [← hleft, if_pos c4])
                have b4 : decide ((9223372036854775807 - ((R : Int) - 48)) / 10 < n) = true := decide_eq_true c4
                clear hleft
                go_wp2
                go_ret2
                exact ⟨ret2 (by rw [HP.out]) (by rw [HP.out]), hbw2⟩
              · have b4 : decide ((9223372036854775807 - ((R : Int) - 48)) / 10 < n) = false := decide_eq_false c4
                rw [if_neg c4] at hleft
                have HL := Lib.hid hleft
                clear hleft
                go_wp2
                go_roundg g'
                case measure => omega
                case rel => exact ⟨pos + 1, _, rfl, hit2, hbw2, by omega, by omega, by rw [← HL.out]; simp, by omega, by omega⟩
    · have hnx : ∀ ty, (Instr.next (.pointer (some ⟨w.heap.size, 0, none⟩)) true ty).run Tryz.prog wr = _ := fun ty => Lib.run_next_end_at wr w.heap.size s pos ty hit hps
      obtain rfl : pos = s.size := by omega
      rw [List.drop_of_length_le (by simp)] at hleft
      simp only [pgo] at hleft
      by_cases ce : s.size = 0
      · have ce1 : s.data.toList = [] := by rw [← List.length_eq_zero_iff]; simpa using ce
        have HP : Hid (parseI s.data.toList high = (0, false)) := Lib.hid (by unfold parseI; rw [← hleft]; simp [ce1])
        have he : s.toList = [] := (ByteArray.toList_eq s).trans ce1
        clear hleft ce ce1
        go_wp2
        go_ret2
        exact ⟨ret2 (by rw [HP.out]) (by rw [HP.out]), hbw⟩
      · have ce1 : s.data.toList ≠ [] := by rw [ne_eq, ← List.length_eq_zero_iff]; simpa using ce
        have he : s.toList.isEmpty = false := by rw [ByteArray.toList_eq]; simpa using ce1
        have he' : ¬ s.toList = [] := by rw [ByteArray.toList_eq]; exact ce1
        by_cases ch : high < n
        · have HP : Hid (parseI s.data.toList high = (0, false)) := Lib.hid (by unfold parseI; rw [← hleft]; simp [ce1, ch])
          have b6 : decide (high < n) = true := decide_eq_true ch
          clear hleft ce ce1
          go_wp2
          go_ret2
          exact ⟨ret2 (by rw [HP.out]) (by rw [HP.out]), hbw⟩
        · have HP : Hid (parseI s.data.toList high = (n, true)) := Lib.hid (by unfold parseI; rw [← hleft]; simp [ce1, ch])
          have b6 : decide (high < n) = false := decide_eq_false ch
          clear hleft ce ce1
          go_wp2
          go_ret2
          exact ⟨ret2 (by rw [HP.out]) (by rw [HP.out]), hbw⟩
end Go.Proofs.YthlhbnaloefncaaGreatDoor.Num
namespace Go.Proofs.YthlhbnaloefncaaGreatDoor.Ex
open Go Go.RowKit Go.Proofs.YthlhbnaloefncaaGreatDoor.Wrd Go.Proofs.YthlhbnaloefncaaGreatDoor.Dig Go.Lib
set_option linter.unusedVariables false
theorem cond_none {α : Type} {b : Bool} {x : Option α} {r : α} (h : (bif b then x else none) = some r) : b = true ∧ x = some r := by cases b <;> simp_all
def ofL (l : List UInt8) : ByteArray := ⟨l.toArray⟩
theorem ofL_data (x : ByteArray) : ofL x.data.toList = x := by cases x; simp [ofL]
theorem data_ofL (l : List UInt8) : (ofL l).data.toList = l := by simp [ofL]
def decK : Nat → Nat → List UInt8
  | 0, _ => []
  | k + 1, u => bif Nat.blt u 10 then [UInt8.ofNat (48 + u)] else decK k (u / 10) ++ [UInt8.ofNat (48 + u % 10)]
theorem decK_eq : ∀ (k u : Nat), u < 10 ^ (k + 1) → decK (k + 1) u = decDigits u
  | k, u, h => by
    rw [decDigits]
    unfold decK
    by_cases hu : u < 10
    · rw [dif_pos hu, show Nat.blt u 10 = true from Nat.ble_eq_true_of_le hu]; rfl
    · have hb : Nat.blt u 10 = false := by
        cases hq : Nat.blt u 10 with
        | false => rfl
        | true => exact absurd (Nat.le_of_ble_eq_true hq) hu
      rw [dif_neg hu, hb]
      simp only [cond_false]
      cases k with
      | zero => exact absurd h (by simpa using hu)
      | succ k =>
        rw [decK_eq k (u / 10) (by rw [Nat.pow_succ] at h; omega)]
def itoaK (n : Int) : List UInt8 := bif decide (n < 0) then 45 :: decK 20 n.natAbs else decK 20 n.toNat
theorem itoaK_eq {n : Int} (h0 : -9223372036854775808 ≤ n) (h1 : n ≤ 9223372036854775807) : itoaK n = itoa n := by
  unfold itoaK itoa
  by_cases h : n < 0
  · rw [decide_eq_true h, if_pos h, ← decK_eq 19 _ (by omega)]; rfl
  · rw [decide_eq_false h, if_neg h, ← decK_eq 19 _ (by omega)]; rfl
def words_Words (_k : Nat) (s : ByteArray) : Option (List ByteArray) := bif decide (s.size < 4294967281) then some ((wordsL s.data.toList).map ofL) else none
def words_Lines (_k : Nat) (s : ByteArray) : Option (List ByteArray) := bif decide (s.size < 4294967281) then some ((linesL s.data.toList).map ofL) else none
def num_Parse (_k : Nat) (x : ByteArray × Int) : Option (Int × Bool) := bif decide (x.1.size ≤ 9223372036854775807) then some (parseI x.1.data.toList x.2) else none
theorem words_Words_ok (k : Nat) : CallsOk Tryz.prog 105 [.one (.sc .str)] [.one (.row 9 [.str])] (words_Words k) := ok_str_strs fun a r w hg h => by
  unfold words_Words at h
  rcases cond_some h with ⟨h1, h2⟩ | ⟨_, h2⟩
  · obtain rfl := Option.some.inj h2
    refine (WordsA.Words_calls a w (of_decide_eq_true h1) hg).mono ?_
    rintro e w' ⟨v, outs, rfl, ho, hown, hb⟩
    have e : (wordsL a.data.toList).map ofL = outs := by
      rw [← ho, List.map_map]
      have : (ofL ∘ fun x : ByteArray => x.data.toList) = id := funext fun x => ofL_data x
      rw [this, List.map_id]
    rw [e]
    exact ⟨v, rfl, hown, hb⟩
  · cases h2
theorem split_ofL (T : ByteArray) : Lib.splitB ⟨#[10]⟩ 0 (Lib.countB T ⟨#[10]⟩) T = (splitF T.data.toList).map ofL := by
  rw [← splitB_F, List.map_map]
  have : (ofL ∘ fun x : ByteArray => x.data.toList) = id := funext fun x => ofL_data x
  rw [this, List.map_id]
theorem own_made {w : World} {L : List Value} {n : Nat} (h : L.length = n) (hn : n ≤ maxLen) (T : TypeId) : (w.alloc (.cells L.toArray T)).ownsRow w.heap.size T 1 (.slice (some ⟨w.heap.size, 0, none⟩) n n) n L := by
  refine ⟨by omega, .inr ⟨w.heap.size, n, L.toArray, rfl, Nat.le_refl _, ?_, Nat.le_refl _, hn, by simp [h], by simp [← h]⟩⟩
  show (w.heap.push _)[w.heap.size]? = _
  exact Array.getElem?_push_size
theorem trim_le (l m : List UInt8) : (Lib.trimSuffix l m).length ≤ l.length := by
  unfold Lib.trimSuffix
  split
  · rw [List.length_take]; omega
  · exact Nat.le_refl _
set_option maxHeartbeats 2000000 in
theorem words_Lines_ok (k : Nat) : CallsOk Tryz.prog 104 [.one (.sc .str)] [.one (.row 9 [.str])] (words_Lines k) := ok_str_strs fun a0 r w hg h => by
  unfold words_Lines at h
  obtain ⟨hs', h2⟩ := cond_none h
  have hs := of_decide_eq_true hs'
  obtain rfl := Option.some.inj h2
  obtain ⟨m, hm⟩ := hg
  clear h h2 hs'
  by_cases he : a0.data.toList = []
  · have HP : Hid ((linesL a0.data.toList).map ofL = []) := Lib.hid (by unfold linesL; rw [if_pos he]; rfl)
    have h1 : a0.toList = [] := (ByteArray.toList_eq a0).trans he
    clear he
    go_enter Tryz.func104, Tryz.ntmps104
    go_wp2
    go_ret
    exact ⟨_, rfl, by rw [HP.out]; exact World.ownsRow_nil _ _ _ _, Below.refl _ _⟩
  · have h1 : a0.toList.isEmpty = false := by rw [ByteArray.toList_eq]; simpa using he
    have h2 : ¬ a0.toList = [] := by rw [ByteArray.toList_eq]; exact he
    have ht : (ofL (Lib.trimSuffix a0.data.toList [10])).size < 4294967281 := by
      have := trim_le a0.data.toList [10]
      have e : (ofL (Lib.trimSuffix a0.data.toList [10])).size = (Lib.trimSuffix a0.data.toList [10]).length := by simp [ofL, ByteArray.size]
      have e2 : a0.data.toList.length = a0.size := by simp
      omega
    have HP : Hid ((linesL a0.data.toList).map ofL = Lib.splitB ⟨#[10]⟩ 0 (Lib.countB (ofL (Lib.trimSuffix a0.data.toList [10])) ⟨#[10]⟩) (ofL (Lib.trimSuffix a0.data.toList [10]))) := Lib.hid (by
      unfold linesL; rw [if_neg he, split_ofL, data_ofL, trimF_eq])
    clear he
    have cT := Tryz.strings_TrimSuffix a0 ⟨#[10]⟩ w (by omega)
    obtain ⟨T, hT⟩ : ∃ T : ByteArray, ofL (Lib.trimSuffix a0.data.toList [10]) = T := ⟨_, rfl⟩
    have cT' : Calls Tryz.prog 160 #[.string a0, .string ⟨#[10]⟩] w fun e w' => e = .returned (.string T) ∧ w' = w := by rw [← hT]; exact cT
    clear cT
    rw [hT] at ht HP
    clear hT
    obtain ⟨n, hn⟩ : ∃ n, Lib.countB T ⟨#[10]⟩ + 1 = n := ⟨_, rfl⟩
    obtain ⟨L, hL⟩ : ∃ L, Lib.splitB ⟨#[10]⟩ 0 (Lib.countB T ⟨#[10]⟩) T = L := ⟨_, rfl⟩
    rw [hL] at HP
    have cS := Tryz.strings_Split T ⟨#[10]⟩ m w ht hm (by decide)
    rw [hn, hL] at cS
    have hlen : L.length = n := by rw [← hL, ← hn]; exact Lib.splitB_all ⟨#[10]⟩ (by decide) 0 _ T rfl
    have hnb : n ≤ 4294967282 := by have := Lib.countB_le ⟨#[10]⟩ (by decide) _ T (Nat.le_refl _); omega
    have Hlen := Lib.hid hlen
    clear hlen hL hn hm
    go_enter Tryz.func104, Tryz.ntmps104
    go_wp2_with (first
      | (go_at_call 160; refine cT'.mono ?_; rintro e w' ⟨rfl, hw⟩; subst hw)
      | (go_at_call 159; refine cS.mono ?_; rintro e w' ⟨rfl, rfl⟩))
    go_ret
    refine ⟨_, rfl, ?_, (Below.refl _ _).alloc (Nat.le_refl _) _⟩
    rw [HP.out]
    have hl := Hlen.out
    rw [hl]
    exact own_made (by simp [hl]) (by unfold maxLen; omega) 9
theorem num_Parse_ok (k : Nat) : CallsOk Tryz.prog 108 [.one (.sc .str), .one (.sc (.int .i64))] [.one (.sc (.int .i64)), .one (.sc .bool)] (num_Parse k) := ok_str_int fun a n q b w hg h => by
  unfold num_Parse at h
  rcases cond_some h with ⟨h1, h2⟩ | ⟨_, h2⟩
  · have hc := Num.Parse_calls a n w (of_decide_eq_true h1)
    rw [Option.some.inj h2] at hc
    exact hc
  · cases h2
noncomputable def words_Words_e (k : Nat) : Ent Tryz.prog := ⟨105, [.one (.sc .str)], [.one (.row 9 [.str])], words_Words k, words_Words_ok k, fun _ _ => by kernel_rfl⟩
noncomputable def words_Lines_e (k : Nat) : Ent Tryz.prog := ⟨104, [.one (.sc .str)], [.one (.row 9 [.str])], words_Lines k, words_Lines_ok k, fun _ _ => by kernel_rfl⟩
noncomputable def num_Parse_e (k : Nat) : Ent Tryz.prog := ⟨108, [.one (.sc .str), .one (.sc (.int .i64))], [.one (.sc (.int .i64)), .one (.sc .bool)], num_Parse k, num_Parse_ok k, fun _ _ => by kernel_rfl⟩
end Go.Proofs.YthlhbnaloefncaaGreatDoor.Ex
namespace Go.Proofs.YthlhbnaloefncaaGreatDoor.Ex
open Go Go.RowKit
set_option linter.unusedVariables false
set_option linter.unusedSimpArgs false
structure Turned (fp : Nat → Prop) (w w' : World) : Prop where
  os : w'.os = w.os
  tape : w'.tape = w.tape
  output : w'.output = w.output
  size : w.heap.size ≤ w'.heap.size
  block : ∀ k, k < w.heap.size → ¬ fp k → w'.heap[k]? = w.heap[k]?
def tupV (gs : List Nat) : Value := .tuple (gs.map fun k : Nat => Value.int .i64 (k : Int)).toArray
theorem fpV_tupV (gs : List Nat) : fpV (tupV gs) = fun k => k ∈ gs := by
  funext k
  apply propext
  simp only [fpV, tupV, List.mem_map]
  constructor
  · rintro ⟨q, hq, he⟩
    cases he
    exact hq
  · intro h
    exact ⟨k, h, rfl⟩
section
variable {P : Program} {w0 : Org} {w w' : World} {N : Nat} {S : AS} {o : Oper} {ρ : Type} {r : ρ} {id0 : Nat} {m : Nm}
theorem Heap.objStep (h : Heap w0 m S.σ w) (hf : Fresh id0 S) {i j n : Nat} {x x' : OT n} (hσ : S.σ i = .obj n x j) (hT : Turned (fpV (m.v j)) w w') (gs : List Nat) (hg : ∀ k ∈ gs, fpV (m.v j) k ∨ w.heap.size ≤ k ∧ k < w'.heap.size) (hO : OIs n x' w0.heap.size (m.b i) (fun k => k ∈ gs) m.F w') :
    ∃ m', Grows (old id0) m m' w w' ∧ Heap w0 m' (updσ S.σ [(i, .obj n x' id0)]) w' := by
  have hb := h.blk i
  rw [hσ] at hb
  obtain ⟨b1, b2⟩ := hb
  let m' : Nm := ⟨setAt m.v id0 (tupV gs), m.b, m.F⟩
  have hG : Grows (old id0) m m' w w' := ⟨fun q hq => setAt_ne (old_ne (k := 0) (by decide) hq), fun _ _ => rfl, fun k hk => ⟨hk, hT.block k (h.flt k hk) (fun hf => (b1 k hf).2.2 hk)⟩⟩
  have hs := hT.size
  have hbs : w0.heap.size ≤ w.heap.size := h.below.size
  have hown : ∀ k, fpV (m.v j) k → blkOf m i (S.σ i) k := fun k hk => by rw [hσ]; exact hk
  refine ⟨m', hG, Heap.step (fun q => q = i) h hG hf.σ (fun q hq => ⟨by rw [updσ_one, if_neg hq], hf.p q⟩) (fun q k hq hk => ⟨hT.block k (blk_lt h hk).1 (fun hf => h.apart q i k hq hk (hown k hf)), (blk_lt h hk).2.1⟩) (fun q hq => ?_) (fun q l k hql hq h1 h2 => ?_) (fun k hk => Nat.lt_of_lt_of_le (h.flt k hk) hs) ⟨hT.os.trans h.below.os, hT.tape.trans h.below.tape, hT.output.trans h.below.output, Nat.le_trans h.below.size hs, fun k hk => (hT.block k (by omega) (fun hf => by have := (b1 k hf).1; omega)).trans (h.below.block k hk)⟩⟩
  · subst hq
    rw [updσ_one, if_pos rfl]
    have e : fpV (m'.v id0) = fun k => k ∈ gs := by
      show fpV (setAt m.v id0 (tupV gs) id0) = _
      rw [setAt_self, fpV_tupV]
    refine ⟨fun k hk => ?_, by rw [e]; exact hO⟩
    rw [e] at hk
    rcases hg k hk with hk | ⟨h1, h2⟩
    · obtain ⟨c1, c2, c3⟩ := b1 k hk
      exact ⟨c1, by omega, c3⟩
    · exact ⟨by omega, h2, fun hF => by have := h.flt k hF; omega⟩
  · subst hq
    rw [updσ_one, if_pos rfl] at h1
    rw [updσ_one, if_neg (Ne.symm hql), blkOf.same hG (hf.σ l) (hf.p l)] at h2
    have h1' : fpV (m'.v id0) k := h1
    rw [show m'.v id0 = tupV gs from setAt_self _ _ _, fpV_tupV] at h1'
    rcases hg k h1' with hk | ⟨h3, _⟩
    · exact h.apart q l k hql (hown k hk) h2
    · have := (blk_lt h h2).1; omega
theorem run_call {x : Operand} {args : Array Operand} {ts : Array TypeId} {f : FuncId} {a : Act} (ho : o.op = .call ⟨.value x, args, ts⟩) (hx : a.eval x = .func (.func f) #[] #[]) (hen : ∀ (args : Array Value) (w : World), (callFunc f args).run P w = .ok (.enter f args) w) : (execOp a.eval o).run P w = .ok (.enter f (args.map a.eval)) w := by
  have he := hen (args.map a.eval) w
  unfold execOp
  simp [ho, resolve, Deferred.ofValue, invoke, hx]
  simpa using he
theorem ev_fn {m : Nm} {a : Act} {x : Operand} {f : Nat} (hr : Rep w0 N m S a w) (h : S.ev x = .fn f []) : a.eval x = .func (.func f) #[] #[] := by
  have h1 := hr.ev x
  rw [h] at h1
  generalize a.eval x = z at h1
  cases h1 with | fn h1 =>
  cases h1
  rfl
end
end Go.Proofs.YthlhbnaloefncaaGreatDoor.Ex
namespace Go.Proofs.YthlhbnaloefncaaGreatDoor.Ex
open Go Go.RowKit
open Go.ChangeMaps (setBlock)
set_option linter.unusedVariables false
set_option linter.unusedSimpArgs false
set_option maxRecDepth 100000
section
variable {P : Program} {w0 : Org} {w w' : World} {N : Nat} {S : AS} {o : Oper} {ρ : Type} {r : ρ} {id0 : Nat} {m : Nm}
theorem Heap.objMade (h : Heap w0 m S.σ w) (hf : Fresh id0 S) {n b : Nat} {x : OT n} (hb : Below w.heap.size w w') (gs : List Nat) (hgs : ∀ k ∈ gs, w.heap.size ≤ k ∧ k < w'.heap.size)
    (hO : OIs n x w0.heap.size b (fun k => k ∈ gs) (fun k => m.F k ∨ (w.heap.size ≤ k ∧ k < w'.heap.size ∧ k ∉ gs)) w') :
    ∃ m', Grows (old id0) m m' w w' ∧ Heap w0 m' (updσ S.σ [(id0, .obj n x (id0 + 1))]) w' ∧ m'.b id0 = b := by
  let m' : Nm := ⟨setAt m.v (id0 + 1) (tupV gs), setAt m.b id0 b, fun k => m.F k ∨ (w.heap.size ≤ k ∧ k < w'.heap.size ∧ k ∉ gs)⟩
  have hG : Grows (old id0) m m' w w' := ⟨fun q hq => setAt_ne (old_ne (k := 1) (by decide) hq), fun q hq => setAt_ne (old_ne (k := 0) (by decide) hq), fun k hk => ⟨.inl hk, hb.block k (h.flt k hk)⟩⟩
  have hbs : w0.heap.size ≤ w.heap.size := h.below.size
  have e : fpV (m'.v (id0 + 1)) = fun k => k ∈ gs := by
    show fpV (setAt m.v (id0 + 1) (tupV gs) (id0 + 1)) = _
    rw [setAt_self, fpV_tupV]
  refine ⟨m', hG, Heap.step (fun q => q = id0) h hG hf.σ (fun q hq => ⟨by rw [updσ_one, if_neg hq], hf.p q⟩) (fun q k hq hk => ⟨hb.block k (blk_lt h hk).1, fun hF => ?_⟩) (fun q hq => ?_) (fun q l k hql hq h1 h2 => ?_) (fun k hk => ?_) (h.below.trans (hb.mono hbs)), setAt_self _ _ _⟩
  · rcases hF with hF | ⟨h1, _⟩
    · exact (blk_lt h hk).2.1 hF
    · have := (blk_lt h hk).1; omega
  · subst hq
    rw [updσ_one, if_pos rfl]
    refine ⟨fun k hk => ?_, by rw [e, show m'.b q = b from setAt_self _ _ _]; exact hO⟩
    rw [e] at hk
    obtain ⟨h1, h2⟩ := hgs k hk
    exact ⟨by omega, h2, fun hF => hF.elim (fun h3 => by have := h.flt _ h3; omega) (fun h3 => h3.2.2 hk)⟩
  · subst hq
    rw [updσ_one, if_pos rfl] at h1
    rw [updσ_one, if_neg (Ne.symm hql), blkOf.same hG (hf.σ l) (hf.p l)] at h2
    have h1' : fpV (m'.v (q + 1)) k := h1
    rw [e] at h1'
    have := (hgs k h1').1
    have := (blk_lt h h2).1
    omega
  · rcases hk with hk | ⟨_, h2, _⟩
    · exact Nat.lt_of_lt_of_le (h.flt k hk) hb.size
    · exact h2
theorem ev_mp {m : Nm} {a : Act} {x : Operand} {i : Nat} (hr : Rep w0 N m S a w) (h : S.ev x = .mp i) : a.eval x = .map (some (m.b i)) := by
  have h1 := hr.ev x
  rw [h] at h1
  generalize a.eval x = z at h1
  cases h1
  rfl
theorem ev_ptr {m : Nm} {a : Act} {x : Operand} {i off : Nat} (hr : Rep w0 N m S a w) (h : S.ev x = .ptr i off) : a.eval x = .pointer (some ⟨m.b i, off, none⟩) := by
  have h1 := hr.ev x
  rw [h] at h1
  generalize a.eval x = z at h1
  cases h1
  rfl
theorem le_σ {S' : AS} (hl : Le S S') {i : Nat} {b : ABlk} (h : S.σ i = b) (hn : b ≠ .no) : S'.σ i = b := by
  rcases hl.σ i with h1 | h1
  · exact absurd (h.symm.trans h1) hn
  · rw [h1, h]
end
section
variable {w0 : Org} {w : World} {N : Nat} {S : AS} {o : Oper} {ρ : Type} {r : ρ} {id0 : Nat}
def lkP : Int × Int → PV
  | (1, 1) => .agg [.v (.string ⟨#[97]⟩), .v (.string ⟨#[99, 111, 110, 116, 97, 99, 116]⟩), .fn 165 []]
  | (2, 1) => .agg [.v (.string ⟨#[100]⟩), .v (.string ⟨#[99, 111, 110, 116, 97, 99, 116]⟩), .fn 163 []]
  | (3, 1) => .agg [.v (.string ⟨#[99]⟩), .v (.string ⟨#[99, 111, 110, 116, 97, 99, 116]⟩), .fn 164 []]
  | (1, 2) => .agg [.v (.string ⟨#[97]⟩), .v (.string ⟨#[114, 97, 110, 103, 101]⟩), .fn 168 [.rptr true [.fnc 166] () 0]]
  | (2, 2) => .agg [.v (.string ⟨#[100]⟩), .v (.string ⟨#[114, 97, 110, 103, 101]⟩), .fn 166 []]
  | (3, 2) => .agg [.v (.string ⟨#[99]⟩), .v (.string ⟨#[114, 97, 110, 103, 101]⟩), .fn 167 [.rptr true [.fnc 166] () 0]]
  | _ => .un
theorem lkP_ok {m : Nm} {B0 H : Nat} {p : Int × Int} (hp : p ∈ fKsG) (hF : m.F H) (hB : B0 ≤ H) (hb : w.heap[H]? = some (.cells #[fnG 166] 127 (0, 0))) : RepV m B0 w (lkP p) (lkG H p) := by
  have hbox : RepV m B0 w (.rptr true [.fnc 166] () 0) (.pointer (some ⟨H, 0, none⟩)) := by
    refine .rptr (b := H) (o := 0) ?_
    simp only [SKIs]
    exact ⟨H, 0, [fnG 166], rfl, ⟨hF, fun _ => hB⟩, rfl, CellsAt.of_block hb, by simp only [TupIs, SKIs]; exact ⟨_, rfl, rfl⟩⟩
  have look : ∀ (s1 s2 : ByteArray) (f : FuncId) (caps : List PV) (cv : List Value), RepVs m B0 w caps cv → RepV m B0 w (.agg [.v (.string s1), .v (.string s2), .fn f caps]) (.agg #[.string s1, .string s2, .func (.func f) #[] cv.toArray]) := fun s1 s2 f caps cv h => .agg (.cons .v (.cons .v (.cons (.fn h) .nil)))
  simp only [fKsG, List.mem_cons, List.not_mem_nil, or_false] at hp
  rcases hp with rfl | rfl | rfl | rfl | rfl | rfl
  · exact look _ _ _ _ _ .nil
  · exact look _ _ _ _ _ .nil
  · exact look _ _ _ _ _ .nil
  · exact look _ _ _ _ _ (.cons hbox .nil)
  · exact look _ _ _ _ _ .nil
  · exact look _ _ _ _ _ (.cons hbox .nil)
def fmOn (S : AS) (o : Oper) : Bool := match o.op with
  | .call ⟨.value x, _, _⟩ => match S.ev x with
    | .fn f _ => Nat.beq f 107
    | _ => false
  | .range _ _ => true
  | .entry _ => true
  | _ => false
def fmRun (S : AS) (id0 : Nat) (o : Oper) (κ : Eff → Option ρ) : Option ρ := match o.op with
  | .call ⟨.value x, args, _⟩ => match S.ev x, args.toList with
    | .fn f [], [] => bif Nat.beq f 107 then κ ⟨.mp id0, [(id0, .obj 2 () (id0 + 1))]⟩ else none
    | _, _ => none
  | .range t x => bif Nat.beq t 130 then match S.ev x with
    | .mp i => match S.σ i with
      | .obj n _ _ => bif Nat.beq n 2 then κ ⟨.ptr id0 0, [(id0, .obj 1 ((6, []) : Nat × List (Int × Int)) (id0 + 1))]⟩ else none
      | _ => none
    | _ => none
    else none
  | .entry x => match S.ev x with
    | .ptr i off => match S.σ i with
      | .obj n y _ => bif Nat.beq off 0 then match asObj n 1 y with
          | some (_, p :: _) => κ ⟨.tup [.agg [.v (.int .i64 p.1), .v (.int .i64 p.2)], lkP p], []⟩
          | _ => none
        else none
      | _ => none
    | _ => none
  | _ => none
theorem FMap.key {w : World} {b H : Nat} {es : Array MapEntry} {l : List (Int × Int)} (h : FMap w b H es l) {e : MapEntry} (he : e ∈ es.toList) : ∃ p ∈ fKsG, e.key = kyG p ∧ e.val = lkG H p := by
  have : (e.key, e.val) ∈ es.toList.map fun e => (e.key, e.val) := List.mem_map.2 ⟨e, he, rfl⟩
  rw [h.kv] at this
  obtain ⟨p, hp, e2⟩ := List.mem_map.1 this
  exact ⟨p, (h.mem p).1 hp, (congrArg Prod.fst e2).symm, (congrArg Prod.snd e2).symm⟩
theorem FMap.len {w : World} {b H : Nat} {es : Array MapEntry} {l : List (Int × Int)} (h : FMap w b H es l) : es.size = 6 := by
  have h1 : l.length = fKsG.length := ((List.perm_ext_iff_of_nodup h.nd (by decide)).2 h.mem).length_eq
  have h2 := congrArg List.length h.born
  simp at h2
  rw [h2, h1]; rfl
theorem FMap.lt {w : World} {b H : Nat} {es : Array MapEntry} {l : List (Int × Int)} (h : FMap w b H es l) : ∀ x ∈ es.toList, x.born < l.length := fun x hx => by
  have : x.born ∈ es.toList.map (·.born) := List.mem_map.2 ⟨x, hx, rfl⟩
  rw [h.born] at this
  exact List.mem_range.1 this
theorem left0 (es : Array MapEntry) : leftOf es #[] = es := by
  unfold leftOf
  exact Array.filter_eq_self.2 fun a _ => by simp
theorem kyG_inj {p q : Int × Int} (h : kyG p = kyG q) : p = q := by
  unfold kyG at h
  simp at h
  exact Prod.ext h.1 h.2
theorem fm_ok {κ : Eff → Option ρ} (h : fmRun S id0 o κ = some r) : Sound Tryz.prog w0 N S id0 o κ r := by
  unfold fmRun at h
  split at h
  · rename_i x args ts ho
    split at h
    · rename_i f hx hargs
      have hl : args = #[] := by apply Array.ext'; simpa using hargs
      subst hl
      rcases cond_some h with ⟨hf, hh⟩ | ⟨_, h2⟩
      · have := Nat.eq_of_beq_eq_true hf
        subst this
        refine ⟨_, hh, ?_⟩
        intro S' m a w hl hf hr K Q hK
        have hr0 := hr.le hl
        have hrun := run_call (P := Tryz.prog) (w := w) ho (ev_fn hr0 hx) (fun _ _ => by kernel_rfl)
        unfold Oper.wp
        rw [hrun, Oper.upon_enter]
        have hav : (#[] : Array Operand).map a.eval = #[] := by simp
        rw [hav]
        refine (forms_calls w hr.gk).mono fun e w' hh => ?_
        obtain ⟨H, b, es, c, l, ⟨hbn, rfl⟩, rfl, h1, h2, h3, h4, h5, h6, h7, h8⟩ := hh
        have hbl : b < w'.heap.size := (Array.getElem?_eq_some_iff.1 h4).1
        obtain ⟨m', hG, hH, hb⟩ := Heap.objMade (n := 2) (x := ()) (b := b) hr.heap hf h8 [] (fun k hk => by cases hk) ⟨H, es, l, .inr ⟨by omega, hbl, by simp⟩, .inr ⟨h1, by omega, by simp⟩, Nat.le_trans hr.heap.below.size h1, h3, h4, hbn, h5, h6, fun p => (h7 p).trans (fIns_mem p)⟩
        exact hK m' w' _ hG hH (hb ▸ .mp)
      · cases h2
    · cases h
  · rename_i t x ho
    rcases cond_some h with ⟨ht, g⟩ | ⟨_, h2⟩
    · have := Nat.eq_of_beq_eq_true ht
      subst this
      clear h
      split at g
      · rename_i i hx
        split at g
        · rename_i n y j hσ
          rcases cond_some g with ⟨hn, hh⟩ | ⟨_, h2⟩
          · have := Nat.eq_of_beq_eq_true hn
            subst this
            refine ⟨_, hh, ?_⟩
            intro S' m a w hl hf hr K Q hK
            have hr0 := hr.le hl
            have hσ' := le_σ hl hσ (by simp)
            have hb := hr.heap.blk i
            rw [hσ'] at hb
            obtain ⟨b1, H, es, l, hFb, hFH, hB, hm⟩ := hb
            have hrun : (execOp a.eval o).run Tryz.prog w = .ok (.value (.pointer (some ⟨w.heap.size, 0, none⟩))) (w.alloc (.mapIter (some (m.b i)) l.length #[] l.length)) := by
              refine run_of_w (s := Instr.range 130 (a.eval x)) (by unfold execOp; simp only [ho]) ?_
              rw [ev_mp hr0 hx]
              exact run_range_map w _ _ _ (m.b i) es l.length Tryz.underlying130 hm.mp
            unfold Oper.wp
            rw [hrun, Oper.upon_value]
            have hold : ∀ k, k < w.heap.size → (w.alloc (.mapIter (some (m.b i)) l.length #[] l.length)).heap[k]? = w.heap[k]? := fun k hk => Below.heap_alloc w _ k hk
            have hsz : (w.alloc (.mapIter (some (m.b i)) l.length #[] l.length)).heap.size = w.heap.size + 1 := by show (w.heap.push _).size = _; rw [Array.size_push]
            obtain ⟨m', hG, hH, hb⟩ := Heap.objMade (n := 1) (x := ((6, []) : Nat × List (Int × Int))) (b := w.heap.size) hr.heap hf ((Below.refl _ _).alloc (Nat.le_refl _) _) [w.heap.size] (fun k hk => by
              obtain rfl : k = w.heap.size := by simpa using hk
              exact ⟨Nat.le_refl _, by omega⟩) ⟨by simp, m.b i, H, es, l, .inl hFb, .inl hFH, hB, hm.move (hold _ (hr.heap.flt _ hFb)) (hold _ (hr.heap.flt _ hFH)), #[], by show (w.heap.push _)[w.heap.size]? = _; exact Array.getElem?_push_size, by rw [left0, hm.len], fun e he hs => by simp at hs, fun p r hp => by cases hp⟩
            exact hK m' _ _ hG hH (hb ▸ .ptr)
          · cases h2
        · cases g
      · cases g
    · cases h2
  · rename_i x ho
    split at h
    · rename_i i off hx
      split at h
      · rename_i n y j hσ
        rcases cond_some h with ⟨h0, g⟩ | ⟨_, h2⟩
        · have := Nat.eq_of_beq_eq_true h0
          subst this
          clear h
          split at g
          · rename_i q p vis hy
            obtain ⟨rfl, rfl⟩ := asObj_some hy
            refine SoundV.sound (κ := κ) ⟨_, g, fun m a w hr => ?_⟩
            have hb := hr.heap.blk i
            rw [hσ] at hb
            obtain ⟨b1, hfb, bm, H, es, l, hFb, hFH, hB, hm, seen, g1, g2, g3, g4⟩ := hb
            obtain ⟨seen', e, rfl, he, hk, hv⟩ := g4 p vis rfl
            refine ⟨.tuple #[e.key, e.val], run_of (s := Instr.entry (a.eval x)) (by unfold execOp; simp only [ho]) ?_, ?_⟩
            · rw [ev_ptr hr hx]
              exact run_entry_at w (m.b i) bm l.length seen' es l.length e g1 hm.mp he (by rw [hm.born]; exact List.nodup_range)
            · have hp : p ∈ fKsG := by
                obtain ⟨p', hp', hk', _⟩ := hm.key he
                rwa [kyG_inj (hk.symm.trans hk')]
              rw [hk, hv]
              exact .tup (.cons (.agg (.cons .v (.cons .v .nil))) (.cons (lkP_ok hp hFH hB hm.box) .nil))
          · cases g
        · cases h2
      · cases h
    · cases h
  · cases h
def hkFm : Hook Tryz.prog := ⟨fmOn, fun S id0 o κ => fmRun S id0 o κ, fun _ h => fm_ok h⟩
theorem next_wp {m : Nm} {a : Act} {i j n t : Nat} {vis : List (Int × Int)} {K : Act → World → Prop} {Q : Exit → Act → World → Prop} (hr : Rep w0 N m S a w) (hf : Fresh id0 S) (ho : o.op = .next (.tmp t) false) (ht : S.fr t = .ptr i 0) (hσ : S.σ i = .obj 1 ((n, vis) : Nat × List (Int × Int)) j)
    (hend : (∀ p ∈ fKsG, p ∈ vis) → K (a.put o.dst (.tuple #[.bool false])) w)
    (hnext : ∀ (p : Int × Int) (n' : Nat) m' w' x y, p ∈ fKsG → n' < n → Grows (old id0) m m' w w' → Heap w0 m' (updσ S.σ [(i, .obj 1 ((n', p :: vis) : Nat × List (Int × Int)) id0)]) w' → K (a.put o.dst (.tuple #[.bool true, x, y])) w') : o.wp Tryz.prog a w K Q := by
  have hb := hr.heap.blk i
  rw [hσ] at hb
  obtain ⟨b1, hfb, bm, H, es, l, hFb, hFH, hB, hm, seen, g1, g2, g3, g4⟩ := hb
  have hev : a.eval (.tmp t) = .pointer (some ⟨m.b i, 0, none⟩) := ev_ptr hr ht
  rcases run_next_at (P := Tryz.prog) w o.type (m.b i) bm l.length l.length seen es l.length g1 hm.mp hm.lt (Nat.le_refl _) with ⟨hz, hrun⟩ | ⟨e, he, w1, hw1, hrun⟩
  · have hex : (execOp a.eval o).run Tryz.prog w = .ok (.value (.tuple #[.bool false])) w := run_of (s := Instr.next (a.eval (.tmp t)) false o.type) (by unfold execOp; simp only [ho]) (by rw [hev]; exact hrun)
    unfold Oper.wp
    rw [hex, Oper.upon_value]
    refine hend fun p hp => ?_
    have hl := (hm.mem p).2 hp
    have h1 : (kyG p, lkG H p) ∈ es.toList.map fun e => (e.key, e.val) := by rw [hm.kv]; exact List.mem_map.2 ⟨p, hl, rfl⟩
    obtain ⟨e, he, hek⟩ := List.mem_map.1 h1
    obtain ⟨q, hq, hkq⟩ := g3 e he (all_seen _ _ hz e he)
    have := kyG_inj (hkq.symm.trans (congrArg Prod.fst hek))
    rwa [← this]
  · obtain ⟨he1, he2⟩ := mem_left he
    obtain ⟨p, hp, hk, hv⟩ := hm.key he1
    have hex : (execOp a.eval o).run Tryz.prog w = .ok (.value (.tuple #[.bool true, e.key, e.val])) (setBlock w1 (m.b i) (.mapIter (some bm) l.length (seen.push e.born) l.length)) := run_of_w (s := Instr.next (a.eval (.tmp t)) false o.type) (by unfold execOp; simp only [ho]) (by rw [hev]; exact hrun)
    unfold Oper.wp
    rw [hex, Oper.upon_value]
    have hh : w1.heap = w.heap := by rcases hw1 with rfl | rfl <;> rfl
    have hlt : m.b i < w.heap.size := (Array.getElem?_eq_some_iff.1 g1).1
    have hset : ∀ k, k ≠ m.b i → (setBlock w1 (m.b i) (.mapIter (some bm) l.length (seen.push e.born) l.length)).heap[k]? = w.heap[k]? := fun k hk => by
      show (w1.heap.setIfInBounds (m.b i) _)[k]? = _
      rw [Array.getElem?_setIfInBounds_ne (Ne.symm hk), hh]
    have hT : Turned (fpV (m.v j)) w (setBlock w1 (m.b i) (.mapIter (some bm) l.length (seen.push e.born) l.length)) := by
      refine ⟨by rcases hw1 with rfl | rfl <;> rfl, by rcases hw1 with rfl | rfl <;> rfl, by rcases hw1 with rfl | rfl <;> rfl, ?_, fun k hk hf => hset k (fun e => hf (e ▸ hfb))⟩
      show _ ≤ (w1.heap.setIfInBounds _ _).size
      rw [Array.size_setIfInBounds, hh]
      exact Nat.le_refl _
    have hnb : ∀ k, m.F k → k ≠ m.b i := fun k hk e => (b1 (m.b i) hfb).2.2 (e ▸ hk)
    obtain ⟨m', hG, hH⟩ := Heap.objStep (n := 1) (x := ((n, vis) : Nat × List (Int × Int))) (x' := (((leftOf es (seen.push e.born)).size, p :: vis) : Nat × List (Int × Int))) hr.heap hf hσ hT [m.b i] (fun k hk => by
      obtain rfl : k = m.b i := by simpa using hk
      exact .inl hfb) ⟨by simp, bm, H, es, l, hFb, hFH, hB, hm.move (hset _ (hnb _ hFb)) (hset _ (hnb _ hFH)), seen.push e.born, by
        show (w1.heap.setIfInBounds (m.b i) _)[m.b i]? = _
        rw [hh, Array.getElem?_setIfInBounds_self_of_lt hlt], rfl, fun x hx hs => by
          rw [contains_push, Bool.or_eq_true] at hs
          rcases hs with hs | hs
          · obtain ⟨q, hq, h2⟩ := g3 x hx hs
            exact ⟨q, List.mem_cons_of_mem _ hq, h2⟩
          · have : x = e := born_inj (by rw [hm.born]; exact List.nodup_range) hx he1 (by simpa using hs)
            subst this
            exact ⟨p, List.mem_cons_self, hk⟩, fun q r hq => by
          cases hq
          exact ⟨seen, e, rfl, he1, hk, hv⟩⟩
    exact hnext p _ m' _ _ _ hp (by have := left_shrinks _ _ _ he; rw [g2] at this; exact this) hG hH
end
abbrev Dir := Int × Int × Int × Int × Int × Int × Int × Int × Int × Int × Int × Int × Int
abbrev toDir : List TL := [.sc (.int .i64), .sc (.int .i64), .sc (.int .i64), .sc (.int .i64), .sc (.int .i64), .sc (.int .i64), .sc (.int .i64), .sc (.int .i64), .sc (.int .i64), .sc (.int .i64), .sc (.int .i64), .sc (.int .i64), .sc (.int .i64)]
abbrev lDir : List LK := [.sc (.int .i64), .sc (.int .i64), .sc (.int .i64), .sc (.int .i64), .sc (.int .i64), .sc (.int .i64), .sc (.int .i64), .sc (.int .i64), .sc (.int .i64), .sc (.int .i64), .sc (.int .i64), .sc (.int .i64), .sc (.int .i64)]
abbrev fTI : List (Nat × TK) := [(0, .one (.ro [.str])), (2, .box 38 toDir), (7, .obj 1)]
abbrev fTO : List (Nat × TK) := [(2, .box 38 toDir)]
abbrev fR : List PK := [.agg lDir, .one (.sc .bool)]
def opB : Int → List UInt8
  | 1 => [97]
  | 2 => [100]
  | _ => [99]
def kdB : Int → List UInt8
  | 1 => [99, 111, 110, 116, 97, 99, 116]
  | _ => [114, 97, 110, 103, 101]
def nOf : Int × Int → Int
  | (1, 1) => 6
  | (2, 1) => 1
  | (3, 1) => 2
  | (1, 2) => 5
  | (2, 2) => 3
  | _ => 4
def hit (l : List ByteArray) (p : Int × Int) : Bool := decide (2 < (l.length : Int)) && (((l.getD 0 ⟨#[]⟩).data.toList == opB p.1) && ((l.getD 1 ⟨#[]⟩).data.toList == kdB p.2))
def findL (_k : Nat) : (List ByteArray) × Dir × (Nat × List (Int × Int)) → Option (Dir ⊕ (Dir × Bool)) := fun (l, d, v) => match v.2 with
  | [] => match fKsG.find? (hit l) with
    | some p => some (.inr ((p.1, p.2, d.2.2), decide ((l.length : Int) = 2 + nOf p)))
    | none => some (.inl d)
  | _ => none
def direct_find (_k : Nat) : List ByteArray → Option (Dir × Bool) := fun l => match fKsG.find? (hit l) with
  | some p => some ((p.1, p.2, 0, 0, 0, 0, 0, 0, 0, 0, 0, 0, 0), decide ((l.length : Int) = 2 + nOf p))
  | none => some ((0, 0, 0, 0, 0, 0, 0, 0, 0, 0, 0, 0, 0), false)
noncomputable def find_c : Code := Tryz.f106.body.getD .skip
noncomputable def find_X : Cx Tryz.prog fR := ⟨fun _ => ⟨[], [], [hkFm, hkClo [fClo1, fClo2, fClo3, fClo4, fClo5, fClo6], hkRow Tryz.prog, hkStr Tryz.prog]⟩, Tryz.f106.ntmps, Tryz.f106.results, [some ⟨0, fTI, fTO, findL⟩]⟩
def sqA : Code → Code
  | .seq a _ => a
  | _ => .skip
def sqB : Code → Code
  | .seq _ b => b
  | _ => .skip
def opsOf : Code → Array Oper
  | .region _ ops _ => ops
  | _ => #[]
noncomputable def find_l : Code := lp find_c 0
noncomputable def find_ops : Array Oper := opsOf (sqA find_l)
noncomputable def fRound (S : AS) (n : Nat) : Option (TT fTI ⊕ TT fTO ⊕ PT fR) := regP (find_X.Φ 0) find_X.N find_ops (find_ops.toList.drop 1) S n (fun s n => exec find_X 0 (sqB find_l) 1 s n (fun e s _ => match e with
  | .nrm => match deZ s fTI with
    | some x => some (.inl x)
    | none => none
  | .ex id => bif Nat.beq id 0 then match deZ s fTO with
      | some y => some (.inr (.inl y))
      | none => none
    else none) (fun r => some (.inr (.inr r))))
def sNext (l : List ByteArray) (d : Dir) (n : Nat) (vis : List (Int × Int)) (n' : Nat) (p : Int × Int) : AS := (mkS fTI (l, d, (n, vis))).app (some 8) ⟨.tup [.v (.bool true), .un, .un], [(1, .obj 1 ((n', p :: vis) : Nat × List (Int × Int)) 3)]⟩
def cntP : Int × Int → List Nat
  | (1, 1) => [2, 3, 4, 5, 6, 7]
  | (2, 1) => [2]
  | (3, 1) => [2, 7]
  | (1, 2) => [8, 9, 10, 11, 12]
  | (2, 2) => [8, 9, 10]
  | _ => [8, 9, 10, 12]
def fTree (l : List ByteArray) (d : Dir) (n' : Nat) (vis : List (Int × Int)) (p : Int × Int) : Option (TT fTI ⊕ TT fTO ⊕ PT fR) :=
  bif decide (2 < (l.length : Int)) then bif decide (0 < (l.length : Int)) then bif (l.getD (0 : Int).toNat (⟨#[]⟩ : ByteArray)).data.toList == opB p.1 then bif decide (1 < (l.length : Int)) then bif (l.getD (1 : Int).toNat (⟨#[]⟩ : ByteArray)).data.toList == kdB p.2 then
    bif decide ((l.length : Int) = IntKind.i64.wrap (2 + ((cntP p).length : Int))) then some (.inr (.inr ((p.1, p.2, d.2.2), true))) else some (.inr (.inr ((p.1, p.2, d.2.2), false)))
    else some (.inl (l, d, n', p :: vis)) else none else some (.inl (l, d, n', p :: vis)) else none else some (.inl (l, d, n', p :: vis))
theorem round_eq (l : List ByteArray) (d : Dir) (n : Nat) (vis : List (Int × Int)) (n' : Nat) {p : Int × Int} (hp : p ∈ fKsG) : fRound (sNext l d n vis n' p) 11 = fTree l d n' vis p := by
  simp only [fKsG, List.mem_cons, List.not_mem_nil, or_false] at hp
  rcases hp with rfl | rfl | rfl | rfl | rfl | rfl <;> kernel_rfl
theorem end_eq (l : List ByteArray) (d : Dir) (n : Nat) (vis : List (Int × Int)) : fRound ((mkS fTI (l, d, (n, vis))).app (some 8) ⟨.tup [.v (.bool false)], []⟩) 11 = some (.inr (.inl d)) := by kernel_rfl
theorem tree_hit {l : List ByteArray} {d : Dir} {n' : Nat} {vis : List (Int × Int)} {p : Int × Int} (hp : p ∈ fKsG) (h : hit l p = true) : fTree l d n' vis p = some (.inr (.inr ((p.1, p.2, d.2.2), decide ((l.length : Int) = 2 + nOf p)))) := by
  simp only [hit, Bool.and_eq_true] at h
  obtain ⟨h1, h2, h3⟩ := h
  have h1' := of_decide_eq_true h1
  unfold fTree
  rw [h1, show decide (0 < (l.length : Int)) = true from decide_eq_true (by omega), show decide (1 < (l.length : Int)) = true from decide_eq_true (by omega), show (0 : Int).toNat = 0 from rfl, show (1 : Int).toNat = 1 from rfl, h2, h3]
  simp only [cond_true]
  have hw : IntKind.i64.wrap (2 + ((cntP p).length : Int)) = 2 + nOf p := by
    simp only [fKsG, List.mem_cons, List.not_mem_nil, or_false] at hp
    rcases hp with rfl | rfl | rfl | rfl | rfl | rfl <;> decide
  rw [hw]
  cases decide ((l.length : Int) = 2 + nOf p) <;> rfl
theorem tree_miss {l : List ByteArray} {d : Dir} {n' : Nat} {vis : List (Int × Int)} {p : Int × Int} (h : hit l p = false) : fTree l d n' vis p = some (.inl (l, d, n', p :: vis)) := by
  unfold fTree
  rw [show (0 : Int).toNat = 0 from rfl, show (1 : Int).toNat = 1 from rfl]
  unfold hit at h
  cases h1 : decide (2 < (l.length : Int)) with
  | false => rfl
  | true =>
    have h1' := of_decide_eq_true h1
    rw [show decide (0 < (l.length : Int)) = true from decide_eq_true (by omega), show decide (1 < (l.length : Int)) = true from decide_eq_true (by omega)]
    rw [h1, Bool.true_and] at h
    simp only [cond_true]
    cases h2 : (l.getD 0 (⟨#[]⟩ : ByteArray)).data.toList == opB p.1 with
    | false => rfl
    | true =>
      rw [h2, Bool.true_and] at h
      rw [h]
      rfl
theorem hit_inj {l : List ByteArray} {p q : Int × Int} (hp : p ∈ fKsG) (hq : q ∈ fKsG) (h1 : hit l p = true) (h2 : hit l q = true) : p = q := by
  simp only [hit, Bool.and_eq_true, beq_iff_eq] at h1 h2
  have e1 := h1.2.1.symm.trans h2.2.1
  have e2 := h1.2.2.symm.trans h2.2.2
  clear h1 h2
  simp only [fKsG, List.mem_cons, List.not_mem_nil, or_false] at hp hq
  rcases hp with rfl | rfl | rfl | rfl | rfl | rfl <;> rcases hq with rfl | rfl | rfl | rfl | rfl | rfl <;> first | rfl | (revert e1 e2; decide)
theorem find_hit {l : List ByteArray} {p : Int × Int} (hp : p ∈ fKsG) (h : hit l p = true) : fKsG.find? (hit l) = some p := by
  cases hq : fKsG.find? (hit l) with
  | none => exact absurd h (List.find?_eq_none.1 hq _ hp)
  | some q => rw [hit_inj (List.mem_of_find?_eq_some hq) hp (List.find?_some hq) h]
theorem find_loop (fn : Func) (hfn : find_X.rs = fn.results) (w0 : Org) (i : Nat) (an : LAn fR) (c' : Code) (h1 : getL find_X.L i = some an) (h2 : (loopsOf find_c)[i]? = some c') : LoopOk Tryz.prog fn w0 find_X.N an c' 0 := by
  have hi : i = 0 := by
    cases i with
    | zero => rfl
    | succ i => cases h1
  subst hi
  cases h1
  have hc : c' = find_l := by
    have : (loopsOf find_c)[0]? = some find_l := by kernel_rfl
    rw [this] at h2
    exact (Option.some.inj h2).symm
  subst hc
  rintro ⟨l, d, n, vis⟩ o m a w hF hr Q g1 g2
  obtain rfl : vis = [] := by
    cases vis with
    | nil => rfl
    | cons _ _ => simp [findL] at hF
  simp only [findL] at hF
  refine c_loop (n := n) (fun q a w => ∃ m vis, Rep w0 find_X.N m (mkS fTI (l, d, (q, vis))) a w ∧ ∀ p ∈ vis, hit l p = false) ⟨m, [], hr, fun p hp => by cases hp⟩ (fun q a w ⟨m, vis, hr, hv⟩ => ?_)
  have hseq : find_l = .seq (.region 2 find_ops false) (sqB find_l) := by kernel_rfl
  have hops : find_ops = (⟨some 8, .next (.tmp 7) false, 0, "direct.go:84", #[], none⟩ :: find_ops.toList.drop 1).toArray := by kernel_rfl
  have hN : ∀ g t, guardT find_ops g = some t → t < find_X.N := fun g t hg => by
    unfold guardT at hg
    split at hg
    · rename_i og ho
      have hall : find_ops.toList.all (fun o => dOk o.dst find_X.N) = true := by kernel_rfl
      have := List.all_eq_true.1 hall og (by rw [← Array.mem_def]; exact Array.mem_of_getElem? ho)
      rw [hg] at this
      exact Nat.le_of_ble_eq_true this
    · cases hg
  have hids : Ids (mkS fTI (l, d, (q, vis))) (mkN fTI (l, d, (q, vis))) := mkS_ids
  have hn3 : mkN fTI (l, d, (q, vis)) = 3 := by kernel_rfl
  rw [hn3] at hids
  have hdst : dOk (some 8) find_X.N = true := by kernel_rfl
  -- what runs behind the first operation
  have rest : ∀ {v : TT fTI ⊕ TT fTO ⊕ PT fR} {S1 : AS} {m1 : Nm} {a1 : Act} {w1 : World}, fRound S1 11 = some v → Rep w0 find_X.N m1 S1 a1 w1 → Ids S1 11 →
      (∀ x m' a' w', v = .inl x → Rep w0 find_X.N m' (mkS fTI x) a' w' → Exit.then (fun a' w' => ∃ m', m' < q ∧ ∃ m vis, Rep w0 find_X.N m (mkS fTI (l, d, (m', vis))) a' w' ∧ ∀ p ∈ vis, hit l p = false) Q .normal a' w') → (∀ y m' a' w', v = .inr (.inl y) → Rep w0 find_X.N m' (mkS fTO y) a' w' → Q (.exit 0) a' w') → (∀ r a' w', v = .inr (.inr r) → Ret Tryz.prog fn fR w0 r a' w' → Q .ret a' w') →
      wpList Tryz.prog find_ops (fun e a' w' => match e with | .normal => (sqB find_l).wp Tryz.prog (Exit.then (fun a' w' => ∃ m', m' < q ∧ ∃ m vis, Rep w0 find_X.N m (mkS fTI (l, d, (m', vis))) a' w' ∧ ∀ p ∈ vis, hit l p = false) Q) a' w' | e => Exit.then (fun a' w' => ∃ m', m' < q ∧ ∃ m vis, Rep w0 find_X.N m (mkS fTI (l, d, (m', vis))) a' w' ∧ ∀ p ∈ vis, hit l p = false) Q e a' w') (find_ops.toList.drop 1) a1 w1 := by
    intro v S1 m1 a1 w1 hv hr1 hi1 k1 k2 k3
    refine regP_ok hN hv hr1 hi1 (fun S' n' m' a' w' hk hr' hi' => ?_)
    refine exec_ok (all := []) hfn (fun i an c _ h => by simp at h) hk hr' hi' (fun j c' hj => by
      have : loopsOf (sqB find_l) = [] := by kernel_rfl
      rw [this] at hj; simp at hj) (fun e s' n' m' a' w' h3 h4 h5 => ?_) (fun x a' w' h3 h4 => ?_)
    · cases e with
      | nrm =>
        simp only at h3
        split at h3
        · rename_i x hx
          obtain ⟨m2, hr2⟩ := deZ_ok h4 hx
          exact k1 x m2 a' w' (Option.some.inj h3).symm hr2
        · cases h3
      | ex id =>
        simp only at h3
        rcases cond_some h3 with ⟨he, hk⟩ | ⟨_, h6⟩
        · have := Nat.eq_of_beq_eq_true he
          subst this
          split at hk
          · rename_i y hy
            obtain ⟨m2, hr2⟩ := deZ_ok h4 hy
            exact k2 y m2 a' w' (Option.some.inj hk).symm hr2
          · cases hk
        · cases h6
    · exact k3 x a' w' (Option.some.inj h3).symm h4
  rw [hseq]
  refine wp_seq ?_
  rw [hops]
  refine wp_region_lit ?_
  rw [← hops]
  refine wpList_step fun K hK => ?_
  simp only [Region.wanted, if_true]
  refine next_wp (id0 := 3) hr hids.fresh rfl (t := 7) (i := 1) (j := 2) (n := q) (vis := vis) (by kernel_rfl) (by kernel_rfl) (fun hall => hK _ _ ?_) (fun p n' m' w' x y hp hn hG hH => hK _ _ ?_)
  · have hnone : fKsG.find? (hit l) = none := List.find?_eq_none.2 fun p hp => by rw [hv p (hall p hp)]; simp
    rw [hnone] at hF
    have hr1 := hr.put (d := some 8) (E := ⟨.tup [.v (.bool false)], []⟩) (v := .tuple #[.bool false]) (p := fun _ => true) hdst (Grows.refl _ m w) (fun t => ids_all) (.tup (.cons .v .nil)) hr.heap
    refine rest (end_eq l d q vis) hr1 ((hids.app (d := some 8) (E := ⟨.tup [.v (.bool false)], []⟩) (n' := 11) (by omega) (by kernel_rfl))) (fun x m' a' w' hx => by cases hx) (fun y m' a' w' hy hr' => ?_) (fun r a' w' hx => by cases hx)
    cases hy
    exact g1 d m' a' w' (Option.some.inj hF).symm hr'
  · have hr1 := hr.put (d := some 8) (E := ⟨.tup [.v (.bool true), .un, .un], [(1, .obj 1 ((n', p :: vis) : Nat × List (Int × Int)) 3)]⟩) (v := .tuple #[.bool true, x, y]) hdst hG (fun t => ids_mono (fun k hk => blt_old hk) (hids.fr t)) (.tup (.cons .v (.cons .un (.cons .un .nil)))) hH
    have hi1 : Ids (sNext l d q vis n' p) 11 := hids.app (d := some 8) (E := ⟨.tup [.v (.bool true), .un, .un], [(1, .obj 1 ((n', p :: vis) : Nat × List (Int × Int)) 3)]⟩) (n' := 11) (by omega) (by kernel_rfl)
    have heq := round_eq l d q vis n' hp
    cases hh : hit l p with
    | true =>
      rw [find_hit hp hh] at hF
      refine rest (heq.trans (tree_hit hp hh)) hr1 hi1 (fun x m' a' w' hx => by cases hx) (fun y m' a' w' hy => by cases hy) (fun r a' w' hx hret => ?_)
      cases hx
      exact g2 _ a' w' (Option.some.inj hF).symm hret
    | false =>
      refine rest (heq.trans (tree_miss hh)) hr1 hi1 (fun x m' a' w' hx hr' => ?_) (fun y m' a' w' hy => by cases hy) (fun r a' w' hx => by cases hx)
      cases hx
      exact ⟨n', hn, m', p :: vis, hr', fun z hz => by
        rcases List.mem_cons.1 hz with rfl | hz
        · exact hh
        · exact hv z hz⟩
theorem direct_find_eq (k : Nat) (l : List ByteArray) : direct_find k l = runF find_X 0 find_c [.one (.row 9 [.str])] l := by
  have h : runF find_X 0 find_c [.one (.row 9 [.str])] l = (findL 0 (l, (0, 0, 0, 0, 0, 0, 0, 0, 0, 0, 0, 0, 0), (6, []))).bind fun o => match o with
      | .inl d => some (d, false)
      | .inr r => some r := by kernel_rfl
  rw [h]
  unfold direct_find findL
  cases hf : fKsG.find? (hit l) <;> simp only [hf] <;> rfl
noncomputable def direct_find_e (k : Nat) : Ent Tryz.prog := ⟨106, [.one (.row 9 [.str])], fR, direct_find k, calls_ofL (X := find_X) (k := 0) (c := find_c) Tryz.func106 (by kernel_rfl) (by kernel_rfl) (by kernel_rfl) (fun w0 i an c' h h' => find_loop _ (by kernel_rfl) w0 i an c' h h') (fun l => direct_find_eq k l), fun _ _ => by kernel_rfl⟩
end Go.Proofs.YthlhbnaloefncaaGreatDoor.Ex
namespace Go.Proofs.YthlhbnaloefncaaGreatDoor.Ex
open Go
set_option linter.unusedVariables false
set_option maxHeartbeats 0
def direct_Parse (k : Nat) : (List ByteArray) → Option (GDirective × Int) := fun (l) =>
  (direct_find k l).bind fun o_1 =>
  bif o_1.2 then
   bif decide (o_1.1.1 = 1) && decide (o_1.1.2.1 = 1) then
    bif decide (w64 (2 + 0) < Int.ofNat (List.length l)) then
     (num_Parse k (List.getD l (Int.toNat (w64 (2 + 0))) (⟨#[]⟩ : ByteArray), 2147483647)).bind fun o_5 =>
      bif o_5.2 then
       bif decide (w64 (2 + w64 (0 + 1)) < Int.ofNat (List.length l)) then
        (num_Parse k (List.getD l (Int.toNat (w64 (2 + w64 (0 + 1)))) (⟨#[]⟩ : ByteArray), 2147483647)).bind fun o_8 =>
         bif o_8.2 then
          bif decide (w64 (2 + w64 (w64 (0 + 1) + 1)) < Int.ofNat (List.length l)) then
           (num_Parse k (List.getD l (Int.toNat (w64 (2 + w64 (w64 (0 + 1) + 1)))) (⟨#[]⟩ : ByteArray), 2147483647)).bind fun o_11 =>
            bif o_11.2 then
             bif decide (w64 (2 + w64 (w64 (w64 (0 + 1) + 1) + 1)) < Int.ofNat (List.length l)) then
              (num_Parse k (List.getD l (Int.toNat (w64 (2 + w64 (w64 (w64 (0 + 1) + 1) + 1)))) (⟨#[]⟩ : ByteArray), 2147483647)).bind fun o_14 =>
               bif o_14.2 then
                bif decide (w64 (2 + w64 (w64 (w64 (w64 (0 + 1) + 1) + 1) + 1)) < Int.ofNat (List.length l)) then
                 (num_Parse k (List.getD l (Int.toNat (w64 (2 + w64 (w64 (w64 (w64 (0 + 1) + 1) + 1) + 1)))) (⟨#[]⟩ : ByteArray), 2147483647)).bind fun o_17 =>
                  bif o_17.2 then
                   bif decide (w64 (2 + w64 (w64 (w64 (w64 (w64 (0 + 1) + 1) + 1) + 1) + 1)) < Int.ofNat (List.length l)) then
                    (num_Parse k (List.getD l (Int.toNat (w64 (2 + w64 (w64 (w64 (w64 (w64 (0 + 1) + 1) + 1) + 1) + 1)))) (⟨#[]⟩ : ByteArray), 2147483647)).bind fun o_20 =>
                     bif o_20.2 then
                      (direct_Right k (o_1.1.1, o_1.1.2.1, o_5.1, o_8.1, o_11.1, o_14.1, o_17.1, o_20.1, o_1.1.2.2.2.2.2.2.2.2)).bind fun o_22 =>
                       bif o_22 then
                        some (((o_1.1.1, o_1.1.2.1, o_5.1, o_8.1, o_11.1, o_14.1, o_17.1, o_20.1, o_1.1.2.2.2.2.2.2.2.2), 0))
                       else
                        some (((0, 0, 0, 0, 0, 0, 0, 0, 0, 0, 0, 0, 0), 1))
                     else
                      some (((0, 0, 0, 0, 0, 0, 0, 0, 0, 0, 0, 0, 0), 2))
                   else
                    none
                  else
                   some (((0, 0, 0, 0, 0, 0, 0, 0, 0, 0, 0, 0, 0), 2))
                else
                 none
               else
                some (((0, 0, 0, 0, 0, 0, 0, 0, 0, 0, 0, 0, 0), 2))
             else
              none
            else
             some (((0, 0, 0, 0, 0, 0, 0, 0, 0, 0, 0, 0, 0), 2))
          else
           none
         else
          some (((0, 0, 0, 0, 0, 0, 0, 0, 0, 0, 0, 0, 0), 2))
       else
        none
      else
       some (((0, 0, 0, 0, 0, 0, 0, 0, 0, 0, 0, 0, 0), 2))
    else
     none
   else
    bif decide (o_1.1.1 = 2) && decide (o_1.1.2.1 = 1) then
     bif decide (w64 (2 + 0) < Int.ofNat (List.length l)) then
      (num_Parse k (List.getD l (Int.toNat (w64 (2 + 0))) (⟨#[]⟩ : ByteArray), 2147483647)).bind fun o_6 =>
       bif o_6.2 then
        (direct_Right k (o_1.1.1, o_1.1.2.1, o_6.1, o_1.1.2.2.2)).bind fun o_8 =>
         bif o_8 then
          some (((o_1.1.1, o_1.1.2.1, o_6.1, o_1.1.2.2.2), 0))
         else
          some (((0, 0, 0, 0, 0, 0, 0, 0, 0, 0, 0, 0, 0), 1))
       else
        some (((0, 0, 0, 0, 0, 0, 0, 0, 0, 0, 0, 0, 0), 2))
     else
      none
    else
     bif decide (o_1.1.1 = 3) && decide (o_1.1.2.1 = 1) then
      bif decide (w64 (2 + 0) < Int.ofNat (List.length l)) then
       (num_Parse k (List.getD l (Int.toNat (w64 (2 + 0))) (⟨#[]⟩ : ByteArray), 2147483647)).bind fun o_7 =>
        bif o_7.2 then
         bif decide (w64 (2 + w64 (0 + 1)) < Int.ofNat (List.length l)) then
          (num_Parse k (List.getD l (Int.toNat (w64 (2 + w64 (0 + 1)))) (⟨#[]⟩ : ByteArray), 2147483647)).bind fun o_10 =>
           bif o_10.2 then
            (direct_Right k (o_1.1.1, o_1.1.2.1, o_7.1, o_1.1.2.2.2.1, o_1.1.2.2.2.2.1, o_1.1.2.2.2.2.2.1, o_1.1.2.2.2.2.2.2.1, o_10.1, o_1.1.2.2.2.2.2.2.2.2)).bind fun o_12 =>
             bif o_12 then
              some (((o_1.1.1, o_1.1.2.1, o_7.1, o_1.1.2.2.2.1, o_1.1.2.2.2.2.1, o_1.1.2.2.2.2.2.1, o_1.1.2.2.2.2.2.2.1, o_10.1, o_1.1.2.2.2.2.2.2.2.2), 0))
             else
              some (((0, 0, 0, 0, 0, 0, 0, 0, 0, 0, 0, 0, 0), 1))
           else
            some (((0, 0, 0, 0, 0, 0, 0, 0, 0, 0, 0, 0, 0), 2))
         else
          none
        else
         some (((0, 0, 0, 0, 0, 0, 0, 0, 0, 0, 0, 0, 0), 2))
      else
       none
     else
      bif decide (o_1.1.1 = 1) && decide (o_1.1.2.1 = 2) then
       bif decide (w64 (2 + 0) < Int.ofNat (List.length l)) then
        (num_Parse k (List.getD l (Int.toNat (w64 (2 + 0))) (⟨#[]⟩ : ByteArray), 2147483647)).bind fun o_8 =>
         bif o_8.2 then
          bif decide (w64 (2 + w64 (0 + 1)) < Int.ofNat (List.length l)) then
           (num_Parse k (List.getD l (Int.toNat (w64 (2 + w64 (0 + 1)))) (⟨#[]⟩ : ByteArray), 2147483647)).bind fun o_11 =>
            bif o_11.2 then
             bif decide (w64 (2 + w64 (w64 (0 + 1) + 1)) < Int.ofNat (List.length l)) then
              (num_Parse k (List.getD l (Int.toNat (w64 (2 + w64 (w64 (0 + 1) + 1)))) (⟨#[]⟩ : ByteArray), 2147483647)).bind fun o_14 =>
               bif o_14.2 then
                bif decide (w64 (2 + w64 (w64 (w64 (0 + 1) + 1) + 1)) < Int.ofNat (List.length l)) then
                 (num_Parse k (List.getD l (Int.toNat (w64 (2 + w64 (w64 (w64 (0 + 1) + 1) + 1)))) (⟨#[]⟩ : ByteArray), 2147483647)).bind fun o_17 =>
                  bif o_17.2 then
                   bif decide (w64 (2 + w64 (w64 (w64 (w64 (0 + 1) + 1) + 1) + 1)) < Int.ofNat (List.length l)) then
                    (num_Parse k (List.getD l (Int.toNat (w64 (2 + w64 (w64 (w64 (w64 (0 + 1) + 1) + 1) + 1)))) (⟨#[]⟩ : ByteArray), 2147483647)).bind fun o_20 =>
                     bif o_20.2 then
                      (direct_Right k (o_1.1.1, o_1.1.2.1, o_1.1.2.2.1, o_1.1.2.2.2.1, o_1.1.2.2.2.2.1, o_1.1.2.2.2.2.2.1, o_1.1.2.2.2.2.2.2.1, o_1.1.2.2.2.2.2.2.2.1, o_8.1, o_11.1, o_14.1, o_17.1, o_20.1)).bind fun o_22 =>
                       bif o_22 then
                        some (((o_1.1.1, o_1.1.2.1, o_1.1.2.2.1, o_1.1.2.2.2.1, o_1.1.2.2.2.2.1, o_1.1.2.2.2.2.2.1, o_1.1.2.2.2.2.2.2.1, o_1.1.2.2.2.2.2.2.2.1, o_8.1, o_11.1, o_14.1, o_17.1, o_20.1), 0))
                       else
                        some (((0, 0, 0, 0, 0, 0, 0, 0, 0, 0, 0, 0, 0), 1))
                     else
                      some (((0, 0, 0, 0, 0, 0, 0, 0, 0, 0, 0, 0, 0), 2))
                   else
                    none
                  else
                   some (((0, 0, 0, 0, 0, 0, 0, 0, 0, 0, 0, 0, 0), 2))
                else
                 none
               else
                some (((0, 0, 0, 0, 0, 0, 0, 0, 0, 0, 0, 0, 0), 2))
             else
              none
            else
             some (((0, 0, 0, 0, 0, 0, 0, 0, 0, 0, 0, 0, 0), 2))
          else
           none
         else
          some (((0, 0, 0, 0, 0, 0, 0, 0, 0, 0, 0, 0, 0), 2))
       else
        none
      else
       bif decide (o_1.1.1 = 2) && decide (o_1.1.2.1 = 2) then
        bif decide (w64 (2 + 0) < Int.ofNat (List.length l)) then
         (num_Parse k (List.getD l (Int.toNat (w64 (2 + 0))) (⟨#[]⟩ : ByteArray), 2147483647)).bind fun o_9 =>
          bif o_9.2 then
           bif decide (w64 (2 + w64 (0 + 1)) < Int.ofNat (List.length l)) then
            (num_Parse k (List.getD l (Int.toNat (w64 (2 + w64 (0 + 1)))) (⟨#[]⟩ : ByteArray), 2147483647)).bind fun o_12 =>
             bif o_12.2 then
              bif decide (w64 (2 + w64 (w64 (0 + 1) + 1)) < Int.ofNat (List.length l)) then
               (num_Parse k (List.getD l (Int.toNat (w64 (2 + w64 (w64 (0 + 1) + 1)))) (⟨#[]⟩ : ByteArray), 2147483647)).bind fun o_15 =>
                bif o_15.2 then
                 (direct_Right k (o_1.1.1, o_1.1.2.1, o_1.1.2.2.1, o_1.1.2.2.2.1, o_1.1.2.2.2.2.1, o_1.1.2.2.2.2.2.1, o_1.1.2.2.2.2.2.2.1, o_1.1.2.2.2.2.2.2.2.1, o_9.1, o_12.1, o_15.1, o_1.1.2.2.2.2.2.2.2.2.2.2.2)).bind fun o_17 =>
                  bif o_17 then
                   some (((o_1.1.1, o_1.1.2.1, o_1.1.2.2.1, o_1.1.2.2.2.1, o_1.1.2.2.2.2.1, o_1.1.2.2.2.2.2.1, o_1.1.2.2.2.2.2.2.1, o_1.1.2.2.2.2.2.2.2.1, o_9.1, o_12.1, o_15.1, o_1.1.2.2.2.2.2.2.2.2.2.2.2), 0))
                  else
                   some (((0, 0, 0, 0, 0, 0, 0, 0, 0, 0, 0, 0, 0), 1))
                else
                 some (((0, 0, 0, 0, 0, 0, 0, 0, 0, 0, 0, 0, 0), 2))
              else
               none
             else
              some (((0, 0, 0, 0, 0, 0, 0, 0, 0, 0, 0, 0, 0), 2))
           else
            none
          else
           some (((0, 0, 0, 0, 0, 0, 0, 0, 0, 0, 0, 0, 0), 2))
        else
         none
       else
        bif decide (o_1.1.1 = 3) && decide (o_1.1.2.1 = 2) then
         bif decide (w64 (2 + 0) < Int.ofNat (List.length l)) then
          (num_Parse k (List.getD l (Int.toNat (w64 (2 + 0))) (⟨#[]⟩ : ByteArray), 2147483647)).bind fun o_10 =>
           bif o_10.2 then
            bif decide (w64 (2 + w64 (0 + 1)) < Int.ofNat (List.length l)) then
             (num_Parse k (List.getD l (Int.toNat (w64 (2 + w64 (0 + 1)))) (⟨#[]⟩ : ByteArray), 2147483647)).bind fun o_13 =>
              bif o_13.2 then
               bif decide (w64 (2 + w64 (w64 (0 + 1) + 1)) < Int.ofNat (List.length l)) then
                (num_Parse k (List.getD l (Int.toNat (w64 (2 + w64 (w64 (0 + 1) + 1)))) (⟨#[]⟩ : ByteArray), 2147483647)).bind fun o_16 =>
                 bif o_16.2 then
                  bif decide (w64 (2 + w64 (w64 (w64 (0 + 1) + 1) + 1)) < Int.ofNat (List.length l)) then
                   (num_Parse k (List.getD l (Int.toNat (w64 (2 + w64 (w64 (w64 (0 + 1) + 1) + 1)))) (⟨#[]⟩ : ByteArray), 2147483647)).bind fun o_19 =>
                    bif o_19.2 then
                     (direct_Right k (o_1.1.1, o_1.1.2.1, o_1.1.2.2.1, o_1.1.2.2.2.1, o_1.1.2.2.2.2.1, o_1.1.2.2.2.2.2.1, o_1.1.2.2.2.2.2.2.1, o_1.1.2.2.2.2.2.2.2.1, o_10.1, o_13.1, o_16.1, o_1.1.2.2.2.2.2.2.2.2.2.2.2.1, o_19.1)).bind fun o_21 =>
                      bif o_21 then
                       some (((o_1.1.1, o_1.1.2.1, o_1.1.2.2.1, o_1.1.2.2.2.1, o_1.1.2.2.2.2.1, o_1.1.2.2.2.2.2.1, o_1.1.2.2.2.2.2.2.1, o_1.1.2.2.2.2.2.2.2.1, o_10.1, o_13.1, o_16.1, o_1.1.2.2.2.2.2.2.2.2.2.2.2.1, o_19.1), 0))
                      else
                       some (((0, 0, 0, 0, 0, 0, 0, 0, 0, 0, 0, 0, 0), 1))
                    else
                     some (((0, 0, 0, 0, 0, 0, 0, 0, 0, 0, 0, 0, 0), 2))
                  else
                   none
                 else
                  some (((0, 0, 0, 0, 0, 0, 0, 0, 0, 0, 0, 0, 0), 2))
               else
                none
              else
               some (((0, 0, 0, 0, 0, 0, 0, 0, 0, 0, 0, 0, 0), 2))
            else
             none
           else
            some (((0, 0, 0, 0, 0, 0, 0, 0, 0, 0, 0, 0, 0), 2))
         else
          none
        else
         none
  else
   some (((0, 0, 0, 0, 0, 0, 0, 0, 0, 0, 0, 0, 0), 2))
noncomputable def direct_Parse_e := entOf (P := Tryz.prog) (A := [.one (.row 9 [.str])]) (R := [.agg lGDirective, .one (.sc (.int .i64))]) Tryz.f66 direct_Parse (fun k => ⟨[direct_find_e k, num_Parse_e k, direct_Right_e k], [], [hkMapC fC, hkMap fT, hkClo [fClo1, fClo2, fClo3, fClo4, fClo5, fClo6], hkRow Tryz.prog, hkStr Tryz.prog]⟩) [none] Tryz.func66 (by kernel_rfl) (by kernel_rfl) trivial (fun k x => by kernel_rfl) fun _ _ => by kernel_rfl
def text_rows_L0 : Nat → ((List (Int × List ByteArray)) × (List ByteArray) × Int × Int) → Option ((List (Int × List ByteArray)) ⊕ (List (Int × List ByteArray)))
  | 0, _ => none
  | k + 1, (out2, t7, t8, t9) =>
  bif decide (t9 < t8) then
  bif decide (0 ≤ t9) then
   bif decide (t9 < Int.ofNat (List.length t7)) then
    (words_Words k (List.getD t7 (Int.toNat t9) (⟨#[]⟩ : ByteArray))).bind fun o_4 =>
     bif decide (0 < Int.ofNat (List.length o_4)) then
      bif decide ((List.length out2 + List.length [(w64 (t9 + 1), o_4)]) * 32 ≤ 140737488355328) then
       text_rows_L0 k (out2 ++ [(w64 (t9 + 1), o_4)], t7, t8, w64 (t9 + 1))
      else
       none
     else
      text_rows_L0 k (out2, t7, t8, w64 (t9 + 1))
   else
    none
  else
   none
 else
  some (Sum.inl out2)
def text_rows (k : Nat) : ByteArray → Option (List (Int × List ByteArray)) := fun (s) =>
  (words_Lines k s).bind fun o_1 =>
  (text_rows_L0 k ([], o_1, Int.ofNat (List.length o_1), 0)).bind fun o_2 =>
   match o_2 with
   | .inl o_3 =>
    some (o_3)
   | .inr o_3 =>
    some (o_3)
noncomputable def text_rows_e := entOf (P := Tryz.prog) (A := [.one (.sc (.str))]) (R := [.one (.row 100 [.int .i64, .row [.str]])]) Tryz.f65 text_rows (fun k => ⟨[words_Lines_e k, words_Words_e k], [], [hkStr Tryz.prog]⟩) [some ⟨0, [(2, .one (.own 100 [.int .i64, .row [.str]])), (7, .one (.own 9 [.str])), (8, .one (.sc (.int .i64))), (9, .one (.sc (.int .i64)))], [(2, .one (.own 100 [.int .i64, .row [.str]]))], text_rows_L0⟩] Tryz.func65 (by kernel_rfl) (by kernel_rfl) ⟨⟨fun _ => rfl, fun k x => by kernel_rfl⟩, trivial⟩ (fun k x => by kernel_rfl) fun _ _ => by kernel_rfl
def text_Parse_L0 : Nat → ((Int × Int) × (List GDirective) × (List (Int × List ByteArray)) × Int × Int) → Option (((Int × Int) × (List GDirective)) ⊕ ((List GDirective) × (Int × Int)))
  | 0, _ => none
  | k + 1, (t3, out4, t10, t11, t12) =>
  bif decide (t12 < t11) then
  bif decide (0 ≤ t12) then
   bif decide (t12 < Int.ofNat (List.length t10)) then
    (direct_Parse k (List.getD t10 (Int.toNat t12) (0, [])).2).bind fun o_4 =>
     bif !decide (o_4.2 = 0) then
      some (Sum.inr ([], (List.getD t10 (Int.toNat t12) (0, [])).1, o_4.2))
     else
      bif decide ((List.length out4 + List.length [o_4.1]) * 104 ≤ 140737488355328) then
       text_Parse_L0 k (t3, out4 ++ [o_4.1], t10, t11, w64 (t12 + 1))
      else
       none
   else
    none
  else
   none
 else
  some (Sum.inl (t3, out4))
def text_Parse (k : Nat) : ByteArray → Option ((List GDirective) × (Int × Int)) := fun (s) =>
  (text_rows k s).bind fun o_1 =>
  (text_Parse_L0 k ((0, 0), [], o_1, Int.ofNat (List.length o_1), 0)).bind fun o_2 =>
   match o_2 with
   | .inl o_3 =>
    some ((o_3.2, 0, 0))
   | .inr o_3 =>
    some (o_3)
noncomputable def text_Parse_e := entOf (P := Tryz.prog) (A := [.one (.sc (.str))]) (R := [.one (.row 38 kGDirective), .agg [.sc (.int .i64), .sc (.int .i64)]]) Tryz.f25 text_Parse (fun k => ⟨[text_rows_e k, direct_Parse_e k], [], [hkStr Tryz.prog]⟩) [some ⟨0, [(3, .box 45 [.sc (.int .i64), .sc (.int .i64)]), (4, .one (.own 38 kGDirective)), (10, .one (.own 100 [.int .i64, .row [.str]])), (11, .one (.sc (.int .i64))), (12, .one (.sc (.int .i64)))], [(3, .box 45 [.sc (.int .i64), .sc (.int .i64)]), (4, .one (.own 38 kGDirective))], text_Parse_L0⟩] Tryz.func25 (by kernel_rfl) (by kernel_rfl) ⟨⟨fun _ => rfl, fun k x => by kernel_rfl⟩, trivial⟩ (fun k x => by kernel_rfl) fun _ _ => by kernel_rfl
def text_Lines_L0 : Nat → ((List Int) × (List (Int × List ByteArray)) × Int × Int) → Option ((List Int) ⊕ (List Int))
  | 0, _ => none
  | k + 1, (out2, t6, t7, t8) =>
  bif decide (t8 < t7) then
  bif decide (0 ≤ t8) then
   bif decide (t8 < Int.ofNat (List.length t6)) then
    bif decide ((List.length out2 + List.length [(List.getD t6 (Int.toNat t8) (0, [])).1]) * 8 ≤ 140737488355328) then
     text_Lines_L0 k (out2 ++ [(List.getD t6 (Int.toNat t8) (0, [])).1], t6, t7, w64 (t8 + 1))
    else
     none
   else
    none
  else
   none
 else
  some (Sum.inl out2)
def text_Lines (k : Nat) : ByteArray → Option (List Int) := fun (s) =>
  (text_rows k s).bind fun o_1 =>
  (text_Lines_L0 k ([], o_1, Int.ofNat (List.length o_1), 0)).bind fun o_2 =>
   match o_2 with
   | .inl o_3 =>
    some (o_3)
   | .inr o_3 =>
    some (o_3)
noncomputable def text_Lines_e := entOf (P := Tryz.prog) (A := [.one (.sc (.str))]) (R := [.one (.row 3 [.int .i64])]) Tryz.f26 text_Lines (fun k => ⟨[text_rows_e k], [], [hkStr Tryz.prog]⟩) [some ⟨0, [(2, .one (.own 3 [.int .i64])), (6, .one (.own 100 [.int .i64, .row [.str]])), (7, .one (.sc (.int .i64))), (8, .one (.sc (.int .i64)))], [(2, .one (.own 3 [.int .i64]))], text_Lines_L0⟩] Tryz.func26 (by kernel_rfl) (by kernel_rfl) ⟨⟨fun _ => rfl, fun k x => by kernel_rfl⟩, trivial⟩ (fun k x => by kernel_rfl) fun _ _ => by kernel_rfl
end Go.Proofs.YthlhbnaloefncaaGreatDoor.Ex
namespace Go.Proofs.YthlhbnaloefncaaGreatDoor.Ex
open Go
set_option linter.unusedVariables false
set_option maxHeartbeats 0
abbrev GState := (List GContact) × (List GRange) × Int × Int × List GBooked
abbrev lGState : List LK := [.row 34 kGContact, .row 36 kGRange, .sc (.int .i64), .sc (.int .i64), .row 50 kGBooked]
abbrev toGState : List TL := [.own 34 kGContact, .own 36 kGRange, .sc (.int .i64), .sc (.int .i64), .own 50 kGBooked]
abbrev trGState : List TL := [.ro kGContact, .ro kGRange, .sc (.int .i64), .sc (.int .i64), .ro kGBooked]
abbrev kGState : List SK := [.row kGContact, .row kGRange, .int .i64, .int .i64, .row kGBooked]
def state_New (k : Nat) : Unit → Option (GState) := fun _ =>
  (plan_New k ()).bind fun o_1 =>
  some ((o_1.1, o_1.2.1, o_1.2.2.1, o_1.2.2.2, []))
noncomputable def state_New_e := entOf (P := Tryz.prog) (A := []) (R := [.agg lGState]) Tryz.f33 state_New (fun k => ⟨[plan_New_e k], [], [hkStr Tryz.prog]⟩) [] Tryz.func33 (by kernel_rfl) (by kernel_rfl) trivial (fun k x => by kernel_rfl) fun _ _ => by kernel_rfl
def state_copied (k : Nat) : GState → Option (GState) := fun (s) =>
  (plan_Copy k (s.1, s.2.1, s.2.2.1, s.2.2.2.1)).bind fun o_1 =>
  (ledger_Drop k (s.2.2.2.2, [])).bind fun o_2 =>
   some ((o_1.1, o_1.2.1, o_1.2.2.1, o_1.2.2.2, o_2))
noncomputable def state_copied_e := entOf (P := Tryz.prog) (A := [.agg lGState]) (R := [.agg lGState]) Tryz.f64 state_copied (fun k => ⟨[ledger_Drop_e k, plan_Copy_e k], [], [hkStr Tryz.prog]⟩) [] Tryz.func64 (by kernel_rfl) (by kernel_rfl) trivial (fun k x => by kernel_rfl) fun _ _ => by kernel_rfl
def slices_Max_int_int_L0 : Nat → ((List Int) × Int × Int) → Option ((Int) ⊕ (Int))
  | 0, _ => none
  | k + 1, (x0, m, i) =>
  bif decide (i < Int.ofNat (List.length x0)) then
  bif decide (0 ≤ i) then
   bif decide (i < Int.ofNat (List.length x0)) then
    slices_Max_int_int_L0 k (x0, mx m (List.getD x0 (Int.toNat i) 0), w64 (i + 1))
   else
    none
  else
   none
 else
  some (Sum.inl m)
def slices_Max_int_int (k : Nat) : (List Int) → Option (Int) := fun (x0) =>
  bif decide (Int.ofNat (List.length x0) < 1) then
  none
 else
  bif decide (0 < Int.ofNat (List.length x0)) then
   (slices_Max_int_int_L0 k (x0, List.getD x0 (Int.toNat 0) 0, 1)).bind fun o_3 =>
    match o_3 with
    | .inl o_4 =>
     some (o_4)
    | .inr o_4 =>
     some (o_4)
  else
   none
noncomputable def slices_Max_int_int_e := entOf (P := Tryz.prog) (A := [.one (.row 3 [.int .i64])]) (R := [.one (.sc (.int .i64))]) Tryz.f81 slices_Max_int_int (fun k => ⟨[], [], [hkStr Tryz.prog]⟩) [some ⟨0, [(0, .one (.ro [.int .i64])), (3, .one (.sc (.int .i64))), (4, .one (.sc (.int .i64)))], [(3, .one (.sc (.int .i64)))], slices_Max_int_int_L0⟩] Tryz.func81 (by kernel_rfl) (by kernel_rfl) ⟨⟨fun _ => rfl, fun k x => by kernel_rfl⟩, trivial⟩ (fun k x => by kernel_rfl) fun _ _ => by kernel_rfl
def state_over (k : Nat) : ((List GBooked) × GContact) → Option (Bool) := fun (l, c1) =>
  (ledger_Used k (l, c1.1)).bind fun o_1 =>
  (slices_Max_int_int k [o_1.1, o_1.2.1, o_1.2.2]).bind fun o_2 =>
   (check_Volume k c1).bind fun o_3 =>
    bif decide (o_3 < o_2) then
     some (true)
    else
     some (false)
noncomputable def state_over_e := entOf (P := Tryz.prog) (A := [.one (.row 50 kGBooked), .agg lGContact]) (R := [.one (.sc (.bool))]) Tryz.f39 state_over (fun k => ⟨[ledger_Used_e k, check_Volume_e k, slices_Max_int_int_e k], [], [hkAcut Tryz.prog, hkStr Tryz.prog]⟩) [] Tryz.func39 (by kernel_rfl) (by kernel_rfl) trivial (fun k x => by kernel_rfl) fun _ _ => by kernel_rfl
def state_Right_1 (k : Nat) : (GBooked × GState) → Option (Bool) := fun (b, t1) =>
  (contacts_Find k (t1.1, b.1)).bind fun o_1 =>
  bif o_1.2 then
   (state_over k (t1.2.2.2.2, o_1.1)).bind fun o_3 =>
    bif o_3 then
     some (true)
    else
     some (false)
  else
   some (true)
noncomputable def state_Right_1_e := entOf (P := Tryz.prog) (A := [.agg lGBooked, .one (.ptr [.row kGContact, .row kGRange, .int .i64, .int .i64, .row kGBooked])]) (R := [.one (.sc (.bool))]) Tryz.f38 state_Right_1 (fun k => ⟨[contacts_Find_e k, state_over_e k], [], [hkStr Tryz.prog]⟩) [] Tryz.func38 (by kernel_rfl) (by kernel_rfl) trivial (fun k x => by kernel_rfl) fun _ _ => by kernel_rfl
def IndexFuncB_sr_L0 : Nat → ((List GBooked) × GState × Int × Int) → Option ((Unit) ⊕ (Int))
  | 0, _ => none
  | k + 1, (s, f, t7, t8) =>
  bif decide (t8 < t7) then
  bif decide (0 ≤ t8) then
   bif decide (t8 < Int.ofNat (List.length s)) then
    (state_Right_1 k (List.getD s (Int.toNat t8) (0, 0, 0, 0), f)).bind fun o_4 =>
     bif o_4 then
      some (Sum.inr t8)
     else
      IndexFuncB_sr_L0 k (s, f, t7, w64 (t8 + 1))
   else
    none
  else
   none
 else
  some (Sum.inl ())
def IndexFuncB_sr (k : Nat) : ((List GBooked) × GState) → Option (Int) := fun (s, f) =>
  (IndexFuncB_sr_L0 k (s, f, Int.ofNat (List.length s), 0)).bind fun o_1 =>
  match o_1 with
  | .inl o_2 =>
   some (-1)
  | .inr o_2 =>
   some (o_2)
noncomputable def IndexFuncB_sr_e := entOf (P := Tryz.prog) (A := [.one (.row 50 kGBooked), .one (.fnc 38 [[.row kGContact, .row kGRange, .int .i64, .int .i64, .row kGBooked]])]) (R := [.one (.sc (.int .i64))]) Tryz.f82 IndexFuncB_sr (fun k => ⟨[state_Right_1_e k], [], [hkStr Tryz.prog]⟩) [some ⟨0, [(0, .one (.ro kGBooked)), (1, .fnp 38 [[.row kGContact, .row kGRange, .int .i64, .int .i64, .row kGBooked]]), (7, .one (.sc (.int .i64))), (8, .one (.sc (.int .i64)))], [], IndexFuncB_sr_L0⟩] Tryz.func82 (by kernel_rfl) (by kernel_rfl) ⟨⟨fun _ => rfl, fun k x => by kernel_rfl⟩, trivial⟩ (fun k x => by kernel_rfl) fun _ _ => by kernel_rfl
def ContainsFuncB_sr (k : Nat) : ((List GBooked) × GState) → Option (Bool) := fun (s, f) =>
  (IndexFuncB_sr k (s, f)).bind fun o_1 =>
  bif decide (0 ≤ o_1) then
   some (true)
  else
   some (false)
noncomputable def ContainsFuncB_sr_e := entOf (P := Tryz.prog) (A := [.one (.row 50 kGBooked), .one (.fnc 38 [[.row kGContact, .row kGRange, .int .i64, .int .i64, .row kGBooked]])]) (R := [.one (.sc (.bool))]) Tryz.f40 ContainsFuncB_sr (fun k => ⟨[state_Right_1_e k, IndexFuncB_dr_e k, IndexFuncB_sr_e k], [], [hkStr Tryz.prog]⟩) [] Tryz.func40 (by kernel_rfl) (by kernel_rfl) trivial (fun k x => by kernel_rfl) fun _ _ => by kernel_rfl
def state_Right (k : Nat) : GState → Option (Bool) := fun (s) =>
  (plan_Right k (s.1, s.2.1, s.2.2.1, s.2.2.2.1)).bind fun o_1 =>
  bif o_1 then
   (ledger_Right k s.2.2.2.2).bind fun o_3 =>
    bif o_3 then
     (ContainsFuncB_sr k (s.2.2.2.2, s)).bind fun o_5 =>
      bif o_5 then
       some (false)
      else
       some (true)
    else
     some (false)
  else
   some (false)
noncomputable def state_Right_e := entOf (P := Tryz.prog) (A := [.agg lGState]) (R := [.one (.sc (.bool))]) Tryz.f12 state_Right (fun k => ⟨[plan_Right_e k, ledger_Right_e k, ContainsFuncB_sr_e k], [], [hkStr Tryz.prog]⟩) [] Tryz.func12 (by kernel_rfl) (by kernel_rfl) trivial (fun k x => by kernel_rfl) fun _ _ => by kernel_rfl
def state_Edit (k : Nat) : (GState × GDirective) → Option (GState × Int) := fun (s, d) =>
  (plan_Apply k ((s.1, s.2.1, s.2.2.1, s.2.2.2.1), d)).bind fun o_1 =>
  bif !decide (o_1.2 = 0) then
   (state_copied k s).bind fun o_3 =>
    some ((o_3, o_1.2))
  else
   (ledger_Drop k (s.2.2.2.2, [])).bind fun o_3 =>
    bif d.1 == 2 && d.2.1 == 1 then
     (ledger_Drop k (s.2.2.2.2, [d.2.2.1])).bind fun o_5 =>
      some (((o_1.1.1, o_1.1.2.1, o_1.1.2.2.1, o_1.1.2.2.2, o_5), 0))
    else
     bif d.1 == 3 && d.2.1 == 1 then
      (contacts_Find k (o_1.1.1, d.2.2.1)).bind fun o_6 =>
       bif o_6.2 then
        (state_over k (s.2.2.2.2, o_6.1)).bind fun o_8 =>
         bif o_8 then
          (state_copied k s).bind fun o_10 =>
           some ((o_10, 8))
         else
          some (((o_1.1.1, o_1.1.2.1, o_1.1.2.2.1, o_1.1.2.2.2, o_3), 0))
       else
        (state_over k (s.2.2.2.2, o_6.1)).bind fun o_8 =>
         bif o_8 then
          (state_copied k s).bind fun o_10 =>
           some ((o_10, 8))
         else
          some (((o_1.1.1, o_1.1.2.1, o_1.1.2.2.1, o_1.1.2.2.2, o_3), 0))
     else
      some (((o_1.1.1, o_1.1.2.1, o_1.1.2.2.1, o_1.1.2.2.2, o_3), 0))
noncomputable def state_Edit_e := entOf (P := Tryz.prog) (A := [.agg lGState, .agg lGDirective]) (R := [.agg lGState, .one (.sc (.int .i64))]) Tryz.f27 state_Edit (fun k => ⟨[contacts_Find_e k, state_over_e k, state_copied_e k, plan_Apply_e k, ledger_Drop_e k], [], [hkStr Tryz.prog]⟩) [] Tryz.func27 (by kernel_rfl) (by kernel_rfl) trivial (fun k x => by kernel_rfl) fun _ _ => by kernel_rfl
def state_Load_L0 : Nat → (ByteArray × GState × GState × (Int × Int) × GState × (List GDirective) × Int × Int) → Option ((GState × (Int × Int) × GState) ⊕ (GState × (Int × Int)))
  | 0, _ => none
  | k + 1, (t, s, t4, t5, next, t25, t26, t27) =>
  bif decide (t27 < t26) then
  bif decide (0 ≤ t27) then
   bif decide (t27 < Int.ofNat (List.length t25)) then
    (state_Edit k (next, List.getD t25 (Int.toNat t27) (0, 0, 0, 0, 0, 0, 0, 0, 0, 0, 0, 0, 0))).bind fun o_4 =>
     bif !decide (o_4.2 = 0) then
      (state_copied k s).bind fun o_6 =>
       (text_Lines k t).bind fun o_7 =>
        bif decide (0 ≤ t27) then
         bif decide (t27 < Int.ofNat (List.length o_7)) then
          some (Sum.inr (o_6, List.getD o_7 (Int.toNat t27) 0, o_4.2))
         else
          none
        else
         none
     else
      state_Load_L0 k (t, s, t4, t5, o_4.1, t25, t26, w64 (t27 + 1))
   else
    none
  else
   none
 else
  some (Sum.inl (t4, t5, next))
def state_Load (k : Nat) : (GState × ByteArray) → Option (GState × (Int × Int)) := fun (s, t) =>
  (text_Parse k t).bind fun o_1 =>
  bif !decide (o_1.2.2 = 0) then
   (state_copied k s).bind fun o_3 =>
    some ((o_3, o_1.2))
  else
   (state_copied k s).bind fun o_3 =>
    (state_Load_L0 k (t, s, ([], [], 0, 0, []), (0, 0), o_3, o_1.1, Int.ofNat (List.length o_1.1), 0)).bind fun o_4 =>
     match o_4 with
     | .inl o_5 =>
      some ((o_5.2.2, 0, 0))
     | .inr o_5 =>
      some (o_5)
noncomputable def state_Load_e := entOf (P := Tryz.prog) (A := [.agg lGState, .one (.sc (.str))]) (R := [.agg lGState, .agg [.sc (.int .i64), .sc (.int .i64)]]) Tryz.f24 state_Load (fun k => ⟨[text_Parse_e k, text_Lines_e k, state_Edit_e k, state_copied_e k], [], [hkStr Tryz.prog]⟩) [some ⟨0, [(1, .one (.sc (.str))), (2, .box 28 trGState), (4, .box 28 toGState), (5, .box 45 [.sc (.int .i64), .sc (.int .i64)]), (8, .box 28 toGState), (25, .one (.own 38 kGDirective)), (26, .one (.sc (.int .i64))), (27, .one (.sc (.int .i64)))], [(4, .box 28 toGState), (5, .box 45 [.sc (.int .i64), .sc (.int .i64)]), (8, .box 28 toGState)], state_Load_L0⟩] Tryz.func24 (by kernel_rfl) (by kernel_rfl) ⟨⟨fun _ => rfl, fun k x => by kernel_rfl⟩, trivial⟩ (fun k x => by kernel_rfl) fun _ _ => by kernel_rfl
def state_Advance (k : Nat) : (GState × Int) → Option (GState × Int) := fun (s, now) =>
  (plan_Advance k ((s.1, s.2.1, s.2.2.1, s.2.2.2.1), now)).bind fun o_1 =>
  bif !decide (o_1.2.2 = 0) then
   (state_copied k s).bind fun o_3 =>
    some ((o_3, o_1.2.2))
  else
   (ledger_Drop k (s.2.2.2.2, o_1.2.1)).bind fun o_3 =>
    some (((o_1.1.1, o_1.1.2.1, o_1.1.2.2.1, o_1.1.2.2.2, o_3), 0))
noncomputable def state_Advance_e := entOf (P := Tryz.prog) (A := [.agg lGState, .one (.sc (.int .i64))]) (R := [.agg lGState, .one (.sc (.int .i64))]) Tryz.f30 state_Advance (fun k => ⟨[state_copied_e k, ledger_Drop_e k, plan_Advance_e k], [], [hkStr Tryz.prog]⟩) [] Tryz.func30 (by kernel_rfl) (by kernel_rfl) trivial (fun k x => by kernel_rfl) fun _ _ => by kernel_rfl
def state_asked_1 (k : Nat) : (Int × GState) → Option (Bool) := fun (id, t1) =>
  (contacts_Find k (t1.1, id)).bind fun o_1 =>
  bif o_1.2 then
   some (false)
  else
   some (true)
noncomputable def state_asked_1_e := entOf (P := Tryz.prog) (A := [.one (.sc (.int .i64)), .one (.ptr [.row kGContact, .row kGRange, .int .i64, .int .i64, .row kGBooked])]) (R := [.one (.sc (.bool))]) Tryz.f97 state_asked_1 (fun k => ⟨[contacts_Find_e k], [], [hkStr Tryz.prog]⟩) [] Tryz.func97 (by kernel_rfl) (by kernel_rfl) trivial (fun k x => by kernel_rfl) fun _ _ => by kernel_rfl
def IndexFuncI_as_L0 : Nat → ((List Int) × GState × Int × Int) → Option ((Unit) ⊕ (Int))
  | 0, _ => none
  | k + 1, (s, f, t7, t8) =>
  bif decide (t8 < t7) then
  bif decide (0 ≤ t8) then
   bif decide (t8 < Int.ofNat (List.length s)) then
    (state_asked_1 k (List.getD s (Int.toNat t8) 0, f)).bind fun o_4 =>
     bif o_4 then
      some (Sum.inr t8)
     else
      IndexFuncI_as_L0 k (s, f, t7, w64 (t8 + 1))
   else
    none
  else
   none
 else
  some (Sum.inl ())
def IndexFuncI_as (k : Nat) : ((List Int) × GState) → Option (Int) := fun (s, f) =>
  (IndexFuncI_as_L0 k (s, f, Int.ofNat (List.length s), 0)).bind fun o_1 =>
  match o_1 with
  | .inl o_2 =>
   some (-1)
  | .inr o_2 =>
   some (o_2)
noncomputable def IndexFuncI_as_e := entOf (P := Tryz.prog) (A := [.one (.row 3 [.int .i64]), .one (.fnc 97 [[.row kGContact, .row kGRange, .int .i64, .int .i64, .row kGBooked]])]) (R := [.one (.sc (.int .i64))]) Tryz.f155 IndexFuncI_as (fun k => ⟨[state_asked_1_e k], [], [hkStr Tryz.prog]⟩) [some ⟨0, [(0, .one (.ro [.int .i64])), (1, .fnp 97 [[.row kGContact, .row kGRange, .int .i64, .int .i64, .row kGBooked]]), (7, .one (.sc (.int .i64))), (8, .one (.sc (.int .i64)))], [], IndexFuncI_as_L0⟩] Tryz.func155 (by kernel_rfl) (by kernel_rfl) ⟨⟨fun _ => rfl, fun k x => by kernel_rfl⟩, trivial⟩ (fun k x => by kernel_rfl) fun _ _ => by kernel_rfl
def ContainsFuncI_as (k : Nat) : ((List Int) × GState) → Option (Bool) := fun (s, f) =>
  (IndexFuncI_as k (s, f)).bind fun o_1 =>
  bif decide (0 ≤ o_1) then
   some (true)
  else
   some (false)
noncomputable def ContainsFuncI_as_e := entOf (P := Tryz.prog) (A := [.one (.row 3 [.int .i64]), .one (.fnc 97 [[.row kGContact, .row kGRange, .int .i64, .int .i64, .row kGBooked]])]) (R := [.one (.sc (.bool))]) Tryz.f98 ContainsFuncI_as (fun k => ⟨[state_asked_1_e k, IndexFuncI_as_e k], [], [hkStr Tryz.prog]⟩) [] Tryz.func98 (by kernel_rfl) (by kernel_rfl) trivial (fun k x => by kernel_rfl) fun _ _ => by kernel_rfl
def state_asked_L0 : Nat → ((List Int) × Int × Int × GState × (List Int) × (List Int) × Int × Int) → Option (((List Int) × Int × Int × GState × (List Int)) ⊕ (Int))
  | 0, _ => none
  | k + 1, (ids, class2, size, s, had, t14, t15, t16) =>
  bif decide (t16 < t15) then
  bif decide (0 ≤ t16) then
   bif decide (t16 < Int.ofNat (List.length t14)) then
    state_asked_L0 k (ids, class2, size, s, putN (List.getD t14 (Int.toNat t16) 0) had, t14, t15, w64 (t16 + 1))
   else
    none
  else
   none
 else
  some (Sum.inl (ids, class2, size, s, had))
def state_asked (k : Nat) : (GState × (List Int) × Int × Int) → Option (Int) := fun (s, ids, class2, size) =>
  (state_asked_L0 k (ids, class2, size, s, [], ids, Int.ofNat (List.length ids), 0)).bind fun o_1 =>
  match o_1 with
  | .inl o_2 =>
   bif decide (Int.ofNat (List.length o_2.1) = 0) then
    some (1)
   else
    bif decide (Int.ofNat (List.length o_2.2.2.2.2) < Int.ofNat (List.length o_2.1)) then
     some (1)
    else
     bif decide (o_2.2.1 < 0) then
      some (1)
     else
      bif decide (3 ≤ o_2.2.1) then
       some (1)
      else
       bif decide (o_2.2.2.1 < 0) then
        some (1)
       else
        bif decide (1099511627775 < o_2.2.2.1) then
         some (1)
        else
         (ContainsFuncI_as k (o_2.1, o_2.2.2.2.1)).bind fun o_9 =>
          bif o_9 then
           some (6)
          else
           some (0)
  | .inr o_2 =>
   some (o_2)
noncomputable def state_asked_e := entOf (P := Tryz.prog) (A := [.agg lGState, .one (.row 3 [.int .i64]), .one (.sc (.int .i64)), .one (.sc (.int .i64))]) (R := [.one (.sc (.int .i64))]) Tryz.f54 state_asked (fun k => ⟨[ContainsFuncI_as_e k], [], [hkMlen Tryz.prog, hkStr Tryz.prog]⟩) [some ⟨0, [(1, .one (.ro [.int .i64])), (2, .one (.sc (.int .i64))), (3, .one (.sc (.int .i64))), (4, .box 28 trGState), (9, .mset), (14, .one (.ro [.int .i64])), (15, .one (.sc (.int .i64))), (16, .one (.sc (.int .i64)))], [(1, .one (.ro [.int .i64])), (2, .one (.sc (.int .i64))), (3, .one (.sc (.int .i64))), (4, .box 28 trGState), (9, .mset)], state_asked_L0⟩] Tryz.func54 (by kernel_rfl) (by kernel_rfl) ⟨⟨fun _ => rfl, fun k x => by kernel_rfl⟩, trivial⟩ (fun k x => by kernel_rfl) fun _ _ => by kernel_rfl
def state_Book_1 (k : Nat) : ((List GBooked) × Int × GState × Int × Int) → Option ((List GBooked) × Bool) := fun (l, id, t2, t3, t4) =>
  (contacts_Find k (t2.1, id)).bind fun o_1 =>
  bif o_1.2 then
   (ledger_Book k (l, o_1.1, t3, t4)).bind fun o_3 =>
    bif o_3.2 then
     some ((o_3.1, true))
    else
     some ((o_3.1, false))
  else
   (ledger_Book k (l, o_1.1, t3, t4)).bind fun o_3 =>
    bif o_3.2 then
     some ((o_3.1, true))
    else
     some ((o_3.1, false))
noncomputable def state_Book_1_e := entOf (P := Tryz.prog) (A := [.one (.row 50 kGBooked), .one (.sc (.int .i64)), .one (.ptr [.row kGContact, .row kGRange, .int .i64, .int .i64, .row kGBooked]), .one (.ptr [.int .i64]), .one (.ptr [.int .i64])]) (R := [.one (.row 50 kGBooked), .one (.sc (.bool))]) Tryz.f55 state_Book_1 (fun k => ⟨[contacts_Find_e k, ledger_Book_e k], [], [hkStr Tryz.prog]⟩) [] Tryz.func55 (by kernel_rfl) (by kernel_rfl) trivial (fun k x => by kernel_rfl) fun _ _ => by kernel_rfl
def state_Release_1 (k : Nat) : ((List GBooked) × Int × Int × Int) → Option ((List GBooked) × Bool) := fun (l, id, t2, t3) =>
  (ledger_Release k (l, id, t2, t3)).bind fun o_1 =>
  bif o_1.2 then
   some ((o_1.1, true))
  else
   some ((o_1.1, false))
noncomputable def state_Release_1_e := entOf (P := Tryz.prog) (A := [.one (.row 50 kGBooked), .one (.sc (.int .i64)), .one (.ptr [.int .i64]), .one (.ptr [.int .i64])]) (R := [.one (.row 50 kGBooked), .one (.sc (.bool))]) Tryz.f61 state_Release_1 (fun k => ⟨[ledger_Release_e k], [], [hkStr Tryz.prog]⟩) [] Tryz.func61 (by kernel_rfl) (by kernel_rfl) trivial (fun k x => by kernel_rfl) fun _ _ => by kernel_rfl
def state_each_bk_L0 : Nat → ((GState × Int × Int) × GState × GState × GState × (List Int) × Int × Int) → Option ((GState × GState) ⊕ (GState × Int))
  | 0, _ => none
  | k + 1, (do3, s, t8, next, t21, t22, t23) =>
  bif decide (t23 < t22) then
  bif decide (0 ≤ t23) then
   bif decide (t23 < Int.ofNat (List.length t21)) then
    (state_Book_1 k (next.2.2.2.2, List.getD t21 (Int.toNat t23) 0, do3)).bind fun o_4 =>
     bif o_4.2 then
      state_each_bk_L0 k (do3, s, t8, (next.1, next.2.1, next.2.2.1, next.2.2.2.1, o_4.1), t21, t22, w64 (t23 + 1))
     else
      (state_copied k s).bind fun o_6 =>
       some (Sum.inr (o_6, 8))
   else
    none
  else
   none
 else
  some (Sum.inl (t8, next))
def state_each_bk (k : Nat) : (GState × (List Int) × Int × (GState × Int × Int)) → Option (GState × Int) := fun (s, ids, err, do3) =>
  (state_copied k s).bind fun o_1 =>
  bif !decide (err = 0) then
   some ((o_1, err))
  else
   (state_each_bk_L0 k (do3, s, ([], [], 0, 0, []), o_1, ids, Int.ofNat (List.length ids), 0)).bind fun o_3 =>
    match o_3 with
    | .inl o_4 =>
     some ((o_4.2, 0))
    | .inr o_4 =>
     some (o_4)
noncomputable def state_each_bk_e := entOf (P := Tryz.prog) (A := [.agg lGState, .one (.row 3 [.int .i64]), .one (.sc (.int .i64)), .one (.fnc 55 [[.row kGContact, .row kGRange, .int .i64, .int .i64, .row kGBooked], [.int .i64], [.int .i64]])]) (R := [.agg lGState, .one (.sc (.int .i64))]) Tryz.f53 state_each_bk (fun k => ⟨[state_Book_1_e k, state_copied_e k], [], [hkStr Tryz.prog]⟩) [some ⟨0, [(3, .fnp 55 [[.row kGContact, .row kGRange, .int .i64, .int .i64, .row kGBooked], [.int .i64], [.int .i64]]), (4, .box 28 trGState), (8, .box 28 toGState), (10, .box 28 toGState), (21, .one (.ro [.int .i64])), (22, .one (.sc (.int .i64))), (23, .one (.sc (.int .i64)))], [(8, .box 28 toGState), (10, .box 28 toGState)], state_each_bk_L0⟩] Tryz.func53 (by kernel_rfl) (by kernel_rfl) ⟨⟨fun _ => rfl, fun k x => by kernel_rfl⟩, trivial⟩ (fun k x => by kernel_rfl) fun _ _ => by kernel_rfl
def state_each_rl_L0 : Nat → ((Int × Int) × GState × GState × GState × (List Int) × Int × Int) → Option ((GState × GState) ⊕ (GState × Int))
  | 0, _ => none
  | k + 1, (do3, s, t8, next, t21, t22, t23) =>
  bif decide (t23 < t22) then
  bif decide (0 ≤ t23) then
   bif decide (t23 < Int.ofNat (List.length t21)) then
    (state_Release_1 k (next.2.2.2.2, List.getD t21 (Int.toNat t23) 0, do3)).bind fun o_4 =>
     bif o_4.2 then
      state_each_rl_L0 k (do3, s, t8, (next.1, next.2.1, next.2.2.1, next.2.2.2.1, o_4.1), t21, t22, w64 (t23 + 1))
     else
      (state_copied k s).bind fun o_6 =>
       some (Sum.inr (o_6, 8))
   else
    none
  else
   none
 else
  some (Sum.inl (t8, next))
def state_each_rl (k : Nat) : (GState × (List Int) × Int × (Int × Int)) → Option (GState × Int) := fun (s, ids, err, do3) =>
  (state_copied k s).bind fun o_1 =>
  bif !decide (err = 0) then
   some ((o_1, err))
  else
   (state_each_rl_L0 k (do3, s, ([], [], 0, 0, []), o_1, ids, Int.ofNat (List.length ids), 0)).bind fun o_3 =>
    match o_3 with
    | .inl o_4 =>
     some ((o_4.2, 0))
    | .inr o_4 =>
     some (o_4)
noncomputable def state_each_rl_e := entOf (P := Tryz.prog) (A := [.agg lGState, .one (.row 3 [.int .i64]), .one (.sc (.int .i64)), .one (.fnc 61 [[.int .i64], [.int .i64]])]) (R := [.agg lGState, .one (.sc (.int .i64))]) Tryz.f53 state_each_rl (fun k => ⟨[state_Release_1_e k, state_copied_e k], [], [hkStr Tryz.prog]⟩) [some ⟨0, [(3, .fnp 61 [[.int .i64], [.int .i64]]), (4, .box 28 trGState), (8, .box 28 toGState), (10, .box 28 toGState), (21, .one (.ro [.int .i64])), (22, .one (.sc (.int .i64))), (23, .one (.sc (.int .i64)))], [(8, .box 28 toGState), (10, .box 28 toGState)], state_each_rl_L0⟩] Tryz.func53 (by kernel_rfl) (by kernel_rfl) ⟨⟨fun _ => rfl, fun k x => by kernel_rfl⟩, trivial⟩ (fun k x => by kernel_rfl) fun _ _ => by kernel_rfl
def state_Book (k : Nat) : (GState × (List Int) × Int × Int) → Option (GState × Int) := fun (s, ids, class2, size) =>
  (state_asked k (s, ids, class2, size)).bind fun o_1 =>
  (state_each_bk k (s, ids, o_1, s, class2, size)).bind fun o_2 =>
   some (o_2)
noncomputable def state_Book_e := entOf (P := Tryz.prog) (A := [.agg lGState, .one (.row 3 [.int .i64]), .one (.sc (.int .i64)), .one (.sc (.int .i64))]) (R := [.agg lGState, .one (.sc (.int .i64))]) Tryz.f19 state_Book (fun k => ⟨[state_each_bk_e k, state_each_rl_e k, state_asked_e k], [], [hkStr Tryz.prog]⟩) [] Tryz.func19 (by kernel_rfl) (by kernel_rfl) trivial (fun k x => by kernel_rfl) fun _ _ => by kernel_rfl
def state_Release (k : Nat) : (GState × (List Int) × Int × Int) → Option (GState × Int) := fun (s, ids, class2, size) =>
  (state_asked k (s, ids, class2, size)).bind fun o_1 =>
  (state_each_rl k (s, ids, o_1, class2, size)).bind fun o_2 =>
   some (o_2)
noncomputable def state_Release_e := entOf (P := Tryz.prog) (A := [.agg lGState, .one (.row 3 [.int .i64]), .one (.sc (.int .i64)), .one (.sc (.int .i64))]) (R := [.agg lGState, .one (.sc (.int .i64))]) Tryz.f22 state_Release (fun k => ⟨[state_each_bk_e k, state_each_rl_e k, state_asked_e k], [], [hkStr Tryz.prog]⟩) [] Tryz.func22 (by kernel_rfl) (by kernel_rfl) trivial (fun k x => by kernel_rfl) fun _ _ => by kernel_rfl
def state_Same (k : Nat) : (GState × GState) → Option (Bool) := fun (a, b) =>
  (plan_Same k ((a.1, a.2.1, a.2.2.1, a.2.2.2.1), b.1, b.2.1, b.2.2.1, b.2.2.2.1)).bind fun o_1 =>
  bif o_1 then
   (ledger_Same k (a.2.2.2.2, b.2.2.2.2)).bind fun o_3 =>
    bif o_3 then
     some (true)
    else
     some (false)
  else
   some (false)
noncomputable def state_Same_e := entOf (P := Tryz.prog) (A := [.agg lGState, .agg lGState]) (R := [.one (.sc (.bool))]) Tryz.f14 state_Same (fun k => ⟨[plan_Same_e k, ledger_Same_e k], [], [hkStr Tryz.prog]⟩) [] Tryz.func14 (by kernel_rfl) (by kernel_rfl) trivial (fun k x => by kernel_rfl) fun _ _ => by kernel_rfl
end Go.Proofs.YthlhbnaloefncaaGreatDoor.Ex
namespace Go.Proofs.YthlhbnaloefncaaGreatDoor.Ex
open Go
set_option linter.unusedVariables false
set_option maxHeartbeats 0
abbrev GFeluccalaw21Act := Int × Int × Int × Int × Int × Int × Int × Int × Int × Int × Int × Int × Int × Int × ByteArray × Int × (List Int) × Int × Int
abbrev lGFeluccalaw21Act : List LK := [.sc (.int .i64), .sc (.int .i64), .sc (.int .i64), .sc (.int .i64), .sc (.int .i64), .sc (.int .i64), .sc (.int .i64), .sc (.int .i64), .sc (.int .i64), .sc (.int .i64), .sc (.int .i64), .sc (.int .i64), .sc (.int .i64), .sc (.int .i64), .sc (.str), .sc (.int .i64), .row 3 [.int .i64], .sc (.int .i64), .sc (.int .i64)]
abbrev kGFeluccalaw21Act : List SK := [.int .i64, .int .i64, .int .i64, .int .i64, .int .i64, .int .i64, .int .i64, .int .i64, .int .i64, .int .i64, .int .i64, .int .i64, .int .i64, .int .i64, .str, .int .i64, .row [.int .i64], .int .i64, .int .i64]
def feluccalaw08_Few (k : Nat) : GPlan → Option (Bool) := fun (p) =>
  bif decide (Int.ofNat (List.length p.1) ≤ 50) then
  bif decide (Int.ofNat (List.length p.2.1) ≤ 50) then
   some (true)
  else
   some (false)
 else
  some (false)
noncomputable def feluccalaw08_Few_e := entOf (P := Tryz.prog) (A := [.agg lGPlan]) (R := [.one (.sc (.bool))]) Tryz.f35 feluccalaw08_Few (fun k => ⟨[], [], [hkStr Tryz.prog]⟩) [] Tryz.func35 (by kernel_rfl) (by kernel_rfl) trivial (fun k x => by kernel_rfl) fun _ _ => by kernel_rfl
def feluccalaw21_Few (k : Nat) : GState → Option (Bool) := fun (s) =>
  (feluccalaw08_Few k (s.1, s.2.1, s.2.2.1, s.2.2.2.1)).bind fun o_1 =>
  bif o_1 then
   bif decide (Int.ofNat (List.length s.2.2.2.2) ≤ 50) then
    some (true)
   else
    some (false)
  else
   some (false)
noncomputable def feluccalaw21_Few_e := entOf (P := Tryz.prog) (A := [.agg lGState]) (R := [.one (.sc (.bool))]) Tryz.f11 feluccalaw21_Few (fun k => ⟨[feluccalaw08_Few_e k], [], [hkStr Tryz.prog]⟩) [] Tryz.func11 (by kernel_rfl) (by kernel_rfl) trivial (fun k x => by kernel_rfl) fun _ _ => by kernel_rfl
noncomputable def feluccalaw21_small_c : Code := Tryz.f10.body.getD .skip
def feluccalaw21_small (_k : Nat) : Unit → Option (Bool) := fun _ => some true
noncomputable def feluccalaw21_small_X : Cx Tryz.prog [.one (.sc (.bool))] := ⟨fun k => ⟨[state_Right_e k, state_Same_e k, state_Book_e k, state_Release_e k, state_Load_e k, state_Edit_e k, state_Advance_e k, state_New_e k, feluccaref09_Same_e k], [], [hkStr Tryz.prog]⟩, Tryz.f10.ntmps, Tryz.f10.results, []⟩
theorem feluccalaw21_small_eq (x : Unit) : feluccalaw21_small 0 x = runF feluccalaw21_small_X 100 feluccalaw21_small_c [] x := by kernel_rfl
noncomputable def feluccalaw21_small_e (k : Nat) : Ent Tryz.prog := ⟨10, [], [.one (.sc (.bool))], feluccalaw21_small k, calls_of (X := feluccalaw21_small_X) (k := 100) (c := feluccalaw21_small_c) Tryz.func10 (by kernel_rfl) (by kernel_rfl) (by kernel_rfl) (LoopEqs.all (show LoopEqs feluccalaw21_small_X feluccalaw21_small_c feluccalaw21_small_X.L 0 from trivial)) (fun x => feluccalaw21_small_eq x), fun _ _ => by kernel_rfl⟩
def feluccalaw21_done (k : Nat) : (GState × GFeluccalaw21Act) → Option (GState × (Int × Int)) := fun (s, a) =>
  bif decide (a.1 = 1) then
  (state_Edit k (s, a.2.1, a.2.2.1, a.2.2.2.1, a.2.2.2.2.1, a.2.2.2.2.2.1, a.2.2.2.2.2.2.1, a.2.2.2.2.2.2.2.1, a.2.2.2.2.2.2.2.2.1, a.2.2.2.2.2.2.2.2.2.1, a.2.2.2.2.2.2.2.2.2.2.1, a.2.2.2.2.2.2.2.2.2.2.2.1, a.2.2.2.2.2.2.2.2.2.2.2.2.1, a.2.2.2.2.2.2.2.2.2.2.2.2.2.1)).bind fun o_2 =>
   some ((o_2.1, 0, o_2.2))
 else
  bif decide (a.1 = 2) then
   (state_Load k (s, a.2.2.2.2.2.2.2.2.2.2.2.2.2.2.1)).bind fun o_3 =>
    some (o_3)
  else
   bif decide (a.1 = 3) then
    (state_Advance k (s, a.2.2.2.2.2.2.2.2.2.2.2.2.2.2.2.1)).bind fun o_4 =>
     some ((o_4.1, 0, o_4.2))
   else
    bif decide (a.1 = 4) then
     (state_Book k (s, a.2.2.2.2.2.2.2.2.2.2.2.2.2.2.2.2)).bind fun o_5 =>
      some ((o_5.1, 0, o_5.2))
    else
     (state_Release k (s, a.2.2.2.2.2.2.2.2.2.2.2.2.2.2.2.2)).bind fun o_5 =>
      some ((o_5.1, 0, o_5.2))
noncomputable def feluccalaw21_done_e := entOf (P := Tryz.prog) (A := [.agg lGState, .agg lGFeluccalaw21Act]) (R := [.agg lGState, .agg [.sc (.int .i64), .sc (.int .i64)]]) Tryz.f17 feluccalaw21_done (fun k => ⟨[state_Book_e k, state_Release_e k, state_Load_e k, state_Edit_e k, state_Advance_e k], [], [hkStr Tryz.prog]⟩) [] Tryz.func17 (by kernel_rfl) (by kernel_rfl) trivial (fun k x => by kernel_rfl) fun _ _ => by kernel_rfl
end Go.Proofs.YthlhbnaloefncaaGreatDoor.Ex
namespace Go.Proofs.YthlhbnaloefncaaGreatDoor.Ex
open Go
set_option linter.unusedVariables false
set_option linter.unusedSimpArgs false
noncomputable instance : DecidableEq GPlan := fun _ _ => Classical.propDecidable _
noncomputable instance : DecidableEq GState := fun _ _ => Classical.propDecidable _
abbrev zS : GState := ([], [], 0, 0, [])
def pl (s : GState) : GPlan := (s.1, s.2.1, s.2.2.1, s.2.2.2.1)
abbrev bk (s : GState) : List GBooked := s.2.2.2.2
def stS (p : GPlan) (b : List GBooked) : GState := (p.1, p.2.1, p.2.2.1, p.2.2.2, b)
theorem mk_pl (s : GState) : stS (pl s) (bk s) = s := rfl
def withinU (u : T48) (c : GContact) : Prop := u.1 ≤ volC c ∧ u.2.1 ≤ volC c ∧ u.2.2 ≤ volC c
def Covers (cs : List GContact) (l : List GBooked) : Prop := ∀ id, usedL l id ≠ z3 → (findC cs id).2 = true ∧ withinU (usedL l id) (findC cs id).1
def RightS (s : GState) : Prop := RightP (pl s) ∧ RightL (bk s) ∧ Covers s.1 (bk s)
theorem RightS.t {s : GState} (h : RightS s) : RightT s.1 := h.1.2.2.2.2.1.1
theorem RightS.len {s : GState} (h : RightS s) : s.1.length ≤ 4096 ∧ s.2.1.length ≤ 4096 ∧ (bk s).length ≤ 4096 := by
  have h1 : s.1.length ≤ 4096 := h.1.2.2.2.2.1.2
  have h2 : s.2.1.length ≤ 4096 := h.1.2.2.2.2.2.2
  have h3 := right_len (l := bk s) (cs := s.1) h.2.1.2 (fun b hb => by
    have e := usedL_mem h.2.1.2 hb
    have h4 := h.2.2 b.1 (by rw [e]; exact (h.2.1.1 b hb).2.1)
    have h5 := findC_some h4.1
    exact ⟨_, h5.1, h5.2⟩)
  omega
theorem copied_spec (s : GState) (k : Nat) (h1 : s.1.length ≤ 5000) (h2 : s.2.1.length ≤ 5000) (h3 : (bk s).length ≤ 5000) (hk : 20000 < k) : state_copied k s = some s := by
  unfold state_copied
  have e1 : plan_Copy k (s.1, s.2.1, s.2.2.1, s.2.2.2.1) = some (s.1, s.2.1, s.2.2.1, s.2.2.2.1) := Copy_spec _ k (by show s.1.length ≤ _; omega) (by show s.2.1.length ≤ _; omega)
  have e2 : ledger_Drop k (s.2.2.2.2, []) = some (dropL (bk s) []) := Drop_spec (bk s) [] k (by omega) (by simp) (by simp only [List.length_nil]; omega)
  rw [drop_nil] at e2
  simp only [e1, e2, Option.bind_some]
theorem RightS.copied {s : GState} (h : RightS s) (k : Nat) (hk : 20000 < k) : state_copied k s = some s := by
  have := h.len
  exact copied_spec s k (by omega) (by omega) (by omega) hk
def withB (u : T48) (c : GContact) : Bool := decide (u.1 ≤ volC c) && (decide (u.2.1 ≤ volC c) && decide (u.2.2 ≤ volC c))
theorem withB_iff (u : T48) (c : GContact) : withB u c = true ↔ withinU u c := by
  unfold withB withinU
  simp
theorem Max_spec (a b c : Int) (k : Nat) (hk : 5 ≤ k) : slices_Max_int_int k [a, b, c] = some (max (max a b) c) := by
  obtain ⟨k, rfl⟩ : ∃ m, k = m + 5 := ⟨k - 5, by omega⟩
  have s3 : ∀ m : Int, slices_Max_int_int_L0 (k + 3) ([a, b, c], m, 3) = some (.inl m) := fun m => rfl
  have s2 : ∀ m : Int, slices_Max_int_int_L0 (k + 4) ([a, b, c], m, 2) = some (.inl (mx m c)) := fun m => by rw [← s3]; rfl
  have s1 : ∀ m : Int, slices_Max_int_int_L0 (k + 5) ([a, b, c], m, 1) = some (.inl (mx (mx m b) c)) := fun m => by rw [← s2]; rfl
  have e : slices_Max_int_int (k + 5) [a, b, c] = some (mx (mx a b) c) := by
    unfold slices_Max_int_int
    have := s1 a
    simp only [show List.getD [a, b, c] (Int.toNat 0) 0 = a from rfl, this, Option.bind_some]
    rfl
  rw [e]
  have : ∀ x y : Int, mx x y = max x y := fun x y => by unfold mx; omega
  rw [this, this]
theorem over_spec (l : List GBooked) (c : GContact) (k : Nat) (hs : l.length ≤ 1000000000) (hl : SortL l) (hr : rngC c) (hk : l.length + 5 < k) : state_over k (l, c) = some (!withB (usedL l c.1) c) := by
  unfold state_over
  simp only [Used_spec l c.1 k hs hl (by omega), Max_spec _ _ _ k (by omega), Volume_spec k c hr, Option.bind_some]
  unfold withB
  by_cases h : volC c < max (max (usedL l c.1).1 (usedL l c.1).2.1) (usedL l c.1).2.2
  · rw [decide_eq_true h]
    have : ¬ ((usedL l c.1).1 ≤ volC c ∧ (usedL l c.1).2.1 ≤ volC c ∧ (usedL l c.1).2.2 ≤ volC c) := by omega
    have : (decide ((usedL l c.1).1 ≤ volC c) && (decide ((usedL l c.1).2.1 ≤ volC c) && decide ((usedL l c.1).2.2 ≤ volC c))) = false := by
      rw [Bool.eq_false_iff]
      simpa using this
    rw [this]; rfl
  · rw [decide_eq_false h]
    have : (decide ((usedL l c.1).1 ≤ volC c) && (decide ((usedL l c.1).2.1 ≤ volC c) && decide ((usedL l c.1).2.2 ≤ volC c))) = true := by
      simp only [Bool.and_eq_true, decide_eq_true_eq]
      omega
    rw [this]; rfl
def badB (s : GState) (b : GBooked) : Bool := !((findC s.1 b.1).2 && withB (usedL (bk s) b.1) (findC s.1 b.1).1)
theorem findC_id {cs : List GContact} {id : Int} (h : (findC cs id).2 = true) : (findC cs id).1.1 = id := (findC_some h).2
theorem zero_rng : rngC z28 := by unfold rngC; constructor <;> constructor <;> decide
theorem find_rng {cs : List GContact} (h : ∀ c ∈ cs, rngC c) (id : Int) : rngC (findC cs id).1 := by
  cases hf : (findC cs id).2 with
  | true => exact h _ (findC_some hf).1
  | false => rw [(findC_false hf).1]; exact zero_rng
theorem Right1_spec (s : GState) (b : GBooked) (k : Nat) (h1 : s.1.length ≤ 5000) (h3 : (bk s).length ≤ 5000) (hl : SortL (bk s)) (hr : ∀ c ∈ s.1, rngC c) (hk : 20000 < k) : state_Right_1 k (b, s) = some (badB s b) := by
  unfold state_Right_1 badB
  simp only [contacts_Find_spec s.1 b.1 k (by omega) (by omega), over_spec (bk s) _ k (by omega) hl (find_rng hr b.1) (by omega), Option.bind_some]
  cases hf : (findC s.1 b.1).2 with
  | false => rfl
  | true =>
    rw [findC_id hf]
    cases withB (usedL (bk s) b.1) (findC s.1 b.1).1 <;> rfl
theorem sr_L0 (s : GState) (h1 : s.1.length ≤ 5000) (h3 : (bk s).length ≤ 5000) (hl : SortL (bk s)) (hr : ∀ c ∈ s.1, rngC c) : ∀ (n i k : Nat), (bk s).length - i = n → n + 20000 < k → IndexFuncB_sr_L0 k (bk s, s, Int.ofNat (bk s).length, (i : Int)) = some (firstA (badB s) (bk s) i)
  | 0, i, k + 1, hn, hk => by
    rw [firstA_end (by omega)]
    simp only [IndexFuncB_sr_L0]
    rw [i_lt, decide_eq_false (by omega)]
    rfl
  | n + 1, i, k + 1, hn, hk => by
    have hi : i < (bk s).length := by omega
    rw [firstA_step zB hi]
    simp only [IndexFuncB_sr_L0]
    rw [i_lt, decide_eq_true hi, decide_eq_true (Int.natCast_nonneg i)]
    simp only [cond_true, Right1_spec s _ k h1 h3 hl hr (by omega), Option.bind_some, Int.toNat_natCast, w64_succ (by omega : i < 4611686018427387904), sr_L0 s h1 h3 hl hr n (i + 1) k (by omega) (by omega)]
    cases badB s ((bk s).getD i zB) <;> rfl
theorem sr_spec (s : GState) (k : Nat) (h1 : s.1.length ≤ 5000) (h3 : (bk s).length ≤ 5000) (hl : SortL (bk s)) (hr : ∀ c ∈ s.1, rngC c) (hk : 25000 < k) : ContainsFuncB_sr k (s.2.2.2.2, s) = some ((bk s).any (badB s)) := by
  have h0 : IndexFuncB_sr k (s.2.2.2.2, s) = some (findA (badB s) (bk s)) := by
    unfold IndexFuncB_sr
    have := sr_L0 s h1 h3 hl hr (bk s).length 0 k (by omega) (by omega)
    rw [Int.natCast_zero] at this
    simp only [this, Option.bind_some]
    exact findA_first _ _
  unfold ContainsFuncB_sr
  simp only [h0, Option.bind_some, findA_any]
  exact bif_self _
theorem covers_iff {s : GState} (h : SortL (bk s)) (hz : ∀ b ∈ bk s, b.2 ≠ z3) : (bk s).any (badB s) = false ↔ Covers s.1 (bk s) := by
  rw [List.any_eq_false]
  constructor
  · intro h1 id hid
    rcases usedL_cases (bk s) id with ⟨b, hb, e1, e2⟩ | ⟨_, e2⟩
    · have := h1 b hb
      unfold badB at this
      rw [e1] at this
      simp only [Bool.not_eq_true, Bool.not_eq_false', Bool.and_eq_true, withB_iff] at this
      exact this
    · exact absurd e2 hid
  · intro h1 b hb
    have e := usedL_mem h hb
    have := h1 b.1 (by rw [e]; exact hz b hb)
    unfold badB
    simp only [Bool.not_eq_true, Bool.not_eq_false', Bool.and_eq_true, withB_iff]
    exact this
theorem StateRight_spec (s : GState) (k : Nat) (h1 : s.1.length ≤ 5000) (h2 : s.2.1.length ≤ 5000) (h3 : (bk s).length ≤ 5000) (hr : ∀ c ∈ s.1, rngC c) (hq : ∀ r ∈ s.2.1, rngR r) (hk : 25000 < k) : ∃ b, state_Right k s = some b ∧ (b = true ↔ RightS s) := by
  obtain ⟨b1, e1, i1⟩ := plan_Right_spec (pl s) k h1 h2 hr hq (by omega)
  have e1' : plan_Right k (s.1, s.2.1, s.2.2.1, s.2.2.2.1) = some b1 := e1
  have e2 := RightB_spec (bk s) k (by omega) (by omega)
  unfold state_Right
  simp only [e1', Option.bind_some, e2]
  cases b1 with
  | false => exact ⟨false, rfl, fun h => (by cases h), fun h => absurd (i1.2 h.1) (by simp)⟩
  | true =>
    have hp := i1.1 rfl
    simp only [cond_true]
    cases hb : rightLB (bk s) with
    | false => exact ⟨false, rfl, fun h => (by cases h), fun h => by have := (chkB_iff (bk s)).2 h.2.1; unfold rightLB at hb; rw [hb] at this; cases this⟩
    | true =>
      have hl := (chkB_iff (bk s)).1 hb
      simp only [cond_true, sr_spec s k h1 h3 hl.2 hr hk, Option.bind_some]
      have hc := covers_iff hl.2 (fun b hb => (hl.1 b hb).2.1)
      cases ha : (bk s).any (badB s) with
      | true => exact ⟨false, rfl, fun h => (by cases h), fun h => by rw [hc.2 h.2.2] at ha; cases ha⟩
      | false => exact ⟨true, rfl, fun _ => ⟨hp, hl, hc.1 ha⟩, fun _ => rfl⟩
theorem RightS.true {s : GState} (h : RightS s) (k : Nat) (hk : 25000 < k) : state_Right k s = some true := by
  have hl := h.len
  obtain ⟨b, e, i⟩ := StateRight_spec s k (by omega) (by omega) (by omega) h.t.rng h.1.2.2.2.2.2.1.rng hk
  rw [e, i.2 h]
theorem planSame_spec (p q : GPlan) (k : Nat) (h1 : p.1.length ≤ 5000) (h2 : p.2.1.length ≤ 5000) (hk : 20000 < k) : plan_Same k (p, q) = some (decide (p = q)) := by
  obtain ⟨a, b, c, d⟩ := p
  obtain ⟨a', b', c', d'⟩ := q
  have h1 : a.length ≤ 5000 := h1
  have h2 : b.length ≤ 5000 := h2
  unfold plan_Same
  simp only [Same_spec a a' k (by omega) (by omega), SameR_spec b b' k (by omega) (by omega), Option.bind_some]
  by_cases e1 : c = c' <;> by_cases e2 : d = d' <;> by_cases e3 : a = a' <;> by_cases e4 : b = b' <;> simp [e1, e2, e3, e4]
theorem StateSame_spec (s t : GState) (k : Nat) (h1 : s.1.length ≤ 5000) (h2 : s.2.1.length ≤ 5000) (h3 : (bk s).length ≤ 5000) (hk : 20000 < k) : state_Same k (s, t) = some (decide (s = t)) := by
  have e1 : plan_Same k ((s.1, s.2.1, s.2.2.1, s.2.2.2.1), t.1, t.2.1, t.2.2.1, t.2.2.2.1) = some (decide (pl s = pl t)) := planSame_spec (pl s) (pl t) k h1 h2 hk
  have e2 := SameB_spec (bk s) (bk t) k (by omega) (by omega)
  unfold state_Same
  simp only [e1, e2, Option.bind_some]
  by_cases e3 : pl s = pl t
  · rw [decide_eq_true e3]
    by_cases e4 : bk s = bk t
    · rw [decide_eq_true e4, decide_eq_true (show s = t by rw [← mk_pl s, ← mk_pl t, e3, e4])]; rfl
    · rw [decide_eq_false e4, decide_eq_false (fun e => e4 (by rw [e]) : ¬ s = t)]; rfl
  · rw [decide_eq_false e3, decide_eq_false (fun e => e3 (by rw [e]) : ¬ s = t)]; rfl
theorem RightS.same {s : GState} (h : RightS s) (t : GState) (k : Nat) (hk : 20000 < k) : state_Same k (s, t) = some (decide (s = t)) := by
  have hl := h.len
  exact StateSame_spec s t k (by omega) (by omega) (by omega) hk
theorem Few21_spec (k : Nat) (s : GState) : feluccalaw21_Few k s = some (decide (s.1.length ≤ 50 ∧ s.2.1.length ≤ 50 ∧ (bk s).length ≤ 50)) := by
  have c : ∀ {α : Type} (l : List α), decide (Int.ofNat l.length ≤ 50) = decide (l.length ≤ 50) := fun l => by
    rw [Bool.eq_iff_iff]; simp only [decide_eq_true_eq]; show ((l.length : Int) ≤ 50) ↔ _; omega
  unfold feluccalaw21_Few feluccalaw08_Few
  simp only [c]
  by_cases e1 : s.1.length ≤ 50 <;> by_cases e2 : s.2.1.length ≤ 50 <;> by_cases e3 : (bk s).length ≤ 50 <;> simp [e1, e2, e3]
end Go.Proofs.YthlhbnaloefncaaGreatDoor.Ex
namespace Go.Proofs.YthlhbnaloefncaaGreatDoor.Ex
open Go
set_option linter.unusedVariables false
set_option linter.unusedSimpArgs false
def ownC (had : List Int) (ids : List Int) : List Int := ids.foldl (fun h x => putN x h) had
theorem own_len : ∀ (ids had : List Int), (ownC had ids).length ≤ had.length + ids.length ∧ ((ownC had ids).length < had.length + ids.length ↔ ¬ (ids.Nodup ∧ ∀ x ∈ ids, x ∉ had))
  | [], had => by simp [ownC]
  | x :: r, had => by
    have ih := own_len r (putN x had)
    have e : ownC had (x :: r) = ownC (putN x had) r := rfl
    rw [e]
    cases hx : hasN x had with
    | true =>
      have h1 : putN x had = had := by unfold putN; rw [hx]; rfl
      rw [h1] at ih ⊢
      have hm := hasN_iff.1 hx
      refine ⟨by simp only [List.length_cons]; omega, ⟨fun _ h => h.2 x (List.mem_cons_self ..) hm, fun _ => by simp only [List.length_cons]; omega⟩⟩
    | false =>
      have h1 : putN x had = had ++ [x] := by unfold putN; rw [hx]; rfl
      have hm : x ∉ had := fun h => by rw [hasN_iff.2 h] at hx; cases hx
      rw [h1] at ih ⊢
      rw [List.length_append, List.length_singleton] at ih
      refine ⟨by simp only [List.length_cons]; omega, ?_⟩
      rw [List.length_cons, show had.length + (r.length + 1) = had.length + 1 + r.length by omega, ih.2]
      refine not_congr ⟨fun ⟨h2, h3⟩ => ⟨List.nodup_cons.2 ⟨fun h => h3 x h (List.mem_append_right _ (List.mem_singleton.2 rfl)), h2⟩, fun y hy => ?_⟩, fun ⟨h2, h3⟩ => ⟨(List.nodup_cons.1 h2).2, fun y hy h => ?_⟩⟩
      · rcases List.mem_cons.1 hy with rfl | hy
        · exact hm
        · exact fun h => h3 y hy (List.mem_append_left _ h)
      · rcases List.mem_append.1 h with h | h
        · exact h3 y (List.mem_cons_of_mem _ hy) h
        · rw [List.mem_singleton.1 h] at hy
          exact (List.nodup_cons.1 h2).1 hy
theorem asked_L0 (ids : List Int) (c z : Int) (s : GState) (hs : ids.length ≤ 1000000000) : ∀ (n i k : Nat) (had : List Int), ids.length - i = n → n < k → state_asked_L0 k (ids, c, z, s, had, ids, Int.ofNat ids.length, (i : Int)) = some (.inl (ids, c, z, s, ownC had (ids.drop i)))
  | 0, i, k + 1, had, hn, hk => by
    simp only [state_asked_L0]
    rw [i_lt, decide_eq_false (by omega), List.drop_eq_nil_of_le (by omega)]
    rfl
  | n + 1, i, k + 1, had, hn, hk => by
    have hi : i < ids.length := by omega
    simp only [state_asked_L0]
    rw [i_lt, decide_eq_true hi, decide_eq_true (Int.natCast_nonneg i), Int.toNat_natCast, w64_succ (by omega), getD_drop (d := 0) hi]
    exact asked_L0 ids c z s hs n (i + 1) k _ (by omega) (by omega)
theorem as_L0 (ids : List Int) (s : GState) (h1 : s.1.length ≤ 5000) (hs : ids.length ≤ 1000000000) : ∀ (n i k : Nat), ids.length - i = n → n + 5000 < k → IndexFuncI_as_L0 k (ids, s, Int.ofNat ids.length, (i : Int)) = some (firstA (fun id => !(findC s.1 id).2) ids i)
  | 0, i, k + 1, hn, hk => by
    rw [firstA_end (by omega)]
    simp only [IndexFuncI_as_L0]
    rw [i_lt, decide_eq_false (by omega)]
    rfl
  | n + 1, i, k + 1, hn, hk => by
    have hi : i < ids.length := by omega
    rw [firstA_step 0 hi]
    simp only [IndexFuncI_as_L0, state_asked_1]
    rw [i_lt, decide_eq_true hi, decide_eq_true (Int.natCast_nonneg i)]
    simp only [cond_true, contacts_Find_spec s.1 _ k (by omega) (by omega), Option.bind_some, Int.toNat_natCast, w64_succ (by omega : i < 4611686018427387904), as_L0 ids s h1 hs n (i + 1) k (by omega) (by omega)]
    cases (findC s.1 (ids.getD i 0)).2 <;> rfl
theorem as_spec (ids : List Int) (s : GState) (k : Nat) (h1 : s.1.length ≤ 5000) (hs : ids.length ≤ 1000) (hk : 10000 < k) : ContainsFuncI_as k (ids, s) = some (ids.any fun id => !(findC s.1 id).2) := by
  have h0 : IndexFuncI_as k (ids, s) = some (findA (fun id => !(findC s.1 id).2) ids) := by
    unfold IndexFuncI_as
    have := as_L0 ids s h1 (by omega) ids.length 0 k (by omega) (by omega)
    rw [Int.natCast_zero] at this
    simp only [this, Option.bind_some]
    exact findA_first _ _
  unfold ContainsFuncI_as
  simp only [h0, Option.bind_some, findA_any]
  exact bif_self _
def goodA (ids : List Int) (n size : Int) : Prop := ids ≠ [] ∧ ids.Nodup ∧ clsB n = true ∧ 0 ≤ size ∧ size ≤ 1099511627775
instance (ids : List Int) (n size : Int) : Decidable (goodA ids n size) := by unfold goodA; infer_instance
def askE (cs : List GContact) (ids : List Int) (n size : Int) : Int := if ¬ goodA ids n size then 1 else if (ids.any fun id => !(findC cs id).2) = true then 6 else 0
theorem asked_spec (s : GState) (ids : List Int) (n size : Int) (k : Nat) (h1 : s.1.length ≤ 5000) (hs : ids.length ≤ 1000) (hk : 10000 < k) : state_asked k (s, ids, n, size) = some (askE s.1 ids n size) := by
  have e0 := asked_L0 ids n size s (by omega) ids.length 0 k [] (by omega) (by omega)
  rw [Int.natCast_zero, List.drop_zero] at e0
  have hl := (own_len ids []).2
  simp only [List.length_nil, Nat.zero_add, List.not_mem_nil, not_false_eq_true, implies_true, and_true] at hl
  unfold state_asked
  simp only [e0, Option.bind_some, as_spec ids s k h1 hs hk]
  have c1 : decide (Int.ofNat ids.length = 0) = decide (ids = []) := by
    rw [Bool.eq_iff_iff]; simp only [decide_eq_true_eq]
    show ((ids.length : Int) = 0) ↔ _
    rw [← List.length_eq_zero_iff]; omega
  have c2 : decide (Int.ofNat (ownC [] ids).length < Int.ofNat ids.length) = decide (¬ ids.Nodup) := by
    rw [Bool.eq_iff_iff]; simp only [decide_eq_true_eq]
    show (((ownC [] ids).length : Int) < (ids.length : Int)) ↔ _
    rw [← hl]; omega
  have e : ∀ {x : Int} (p : Prop), ¬ goodA ids n size → (if ¬ goodA ids n size then (1 : Int) else x) = 1 := fun _ h => if_pos h
  unfold askE
  simp only [c1, c2]
  by_cases g1 : ids = []
  · rw [decide_eq_true g1, if_pos (fun h => h.1 g1)]; rfl
  rw [decide_eq_false g1]
  by_cases g2 : ids.Nodup
  · rw [decide_eq_false (fun h => h g2)]
    by_cases g3 : n < 0
    · rw [decide_eq_true g3, if_pos (fun h => by have := of_decide_eq_true h.2.2.1; omega)]; rfl
    rw [decide_eq_false g3]
    by_cases g4 : 3 ≤ n
    · rw [decide_eq_true g4, if_pos (fun h => by have := of_decide_eq_true h.2.2.1; omega)]; rfl
    rw [decide_eq_false g4]
    by_cases g5 : size < 0
    · rw [decide_eq_true g5, if_pos (fun h => by have := h.2.2.2.1; omega)]; rfl
    rw [decide_eq_false g5]
    by_cases g6 : 1099511627775 < size
    · rw [decide_eq_true g6, if_pos (fun h => by have := h.2.2.2.2; omega)]; rfl
    rw [decide_eq_false g6, if_neg (fun h => h ⟨g1, g2, decide_eq_true (by omega), by omega, by omega⟩)]
    cases ids.any fun id => !(findC s.1 id).2 <;> rfl
  · rw [decide_eq_true (by exact g2), if_pos (fun h => g2 h.2.1)]; rfl
theorem askE_0 {cs : List GContact} {ids : List Int} {n size : Int} (h : askE cs ids n size = 0) : goodA ids n size ∧ ∀ id ∈ ids, (findC cs id).2 = true := by
  unfold askE at h
  by_cases g : goodA ids n size
  · rw [if_neg (fun h => h g)] at h
    refine ⟨g, fun id hid => ?_⟩
    cases ha : (ids.any fun id => !(findC cs id).2) with
    | true => rw [ha] at h; cases h
    | false =>
      have := List.any_eq_false.1 ha id hid
      simpa using this
  · rw [if_pos g] at h; cases h
def runOk (okf : Int → T48 → Bool) (f : T48 → T48) : List GBooked → List Int → Bool
  | _, [] => true
  | l, id :: r => okf id (usedL l id) && runOk okf f (withL l id (f (usedL l id))) r
def runL (f : T48 → T48) : List GBooked → List Int → List GBooked
  | l, [] => l
  | l, id :: r => runL f (withL l id (f (usedL l id))) r
theorem all_cg {α : Type} {l : List α} {p q : α → Bool} (h : ∀ x ∈ l, p x = q x) : l.all p = l.all q := by
  induction l with
  | nil => rfl
  | cons x r ih => rw [List.all_cons, List.all_cons, h x (List.mem_cons_self ..), ih fun y hy => h y (List.mem_cons_of_mem _ hy)]
theorem runOk_all (okf : Int → T48 → Bool) (f : T48 → T48) : ∀ {ids : List Int} {l : List GBooked}, SortL l → ids.Nodup → runOk okf f l ids = ids.all fun id => okf id (usedL l id)
  | [], l, hl, hn => rfl
  | x :: r, l, hl, hn => by
    have hn' := List.nodup_cons.1 hn
    rw [runOk, runOk_all okf f (withL_sort hl _ _) hn'.2, List.all_cons]
    congr 1
    exact all_cg fun id hid => by rw [usedL_with hl, if_neg (fun e => hn'.1 (by rw [← e]; exact hid))]
theorem usedL_run (f : T48 → T48) : ∀ {ids : List Int} {l : List GBooked}, SortL l → ids.Nodup → ∀ j, usedL (runL f l ids) j = if j ∈ ids then f (usedL l j) else usedL l j
  | [], l, hl, hn, j => by simp [runL]
  | x :: r, l, hl, hn, j => by
    have hn' := List.nodup_cons.1 hn
    rw [runL, usedL_run f (withL_sort hl _ _) hn'.2 j, usedL_with hl]
    by_cases h : j = x
    · subst h
      rw [if_neg hn'.1, if_pos rfl, if_pos (List.mem_cons_self ..)]
    · rw [if_neg h]
      by_cases h2 : j ∈ r
      · rw [if_pos h2, if_pos (List.mem_cons_of_mem _ h2)]
      · rw [if_neg h2, if_neg (fun h3 => (List.mem_cons.1 h3).elim h h2)]
theorem run_right {okf : Int → T48 → Bool} (f : T48 → T48) : ∀ {ids : List Int} {l : List GBooked}, RightL l → ids.Nodup → (∀ id ∈ ids, 1 ≤ id ∧ id ≤ 1048576) → (∀ id u, okU u → okf id u = true → okU (f u)) → runOk okf f l ids = true → RightL (runL f l ids)
  | [], l, hl, hn, hr, ho, h => hl
  | x :: r, l, hl, hn, hr, ho, h => by
    have hn' := List.nodup_cons.1 hn
    rw [runOk, Bool.and_eq_true] at h
    rw [runL]
    exact run_right (okf := okf) f (withL_right hl (hr x (List.mem_cons_self ..)) (ho x _ (usedL_ok hl x) h.1)) hn'.2 (fun id hid => hr id (List.mem_cons_of_mem _ hid)) ho h.2
theorem withL_len' (l : List GBooked) (id : Int) (u : T48) : (withL l id u).length ≤ l.length + 1 := by
  have key : ∀ l : List GBooked, (l.filter fun b => decide (b.1 < id)).length + (l.filter fun b => decide (id < b.1)).length ≤ l.length := by
    intro l
    induction l with
    | nil => simp
    | cons b r ih =>
      rw [List.filter_cons, List.filter_cons]
      by_cases h1 : b.1 < id
      · rw [if_pos (decide_eq_true h1), if_neg (by simp; omega)]
        simp only [List.length_cons]; omega
      · rw [if_neg (by simpa using h1)]
        split <;> simp only [List.length_cons] <;> omega
  have := key l
  unfold withL oneL
  cases decide (u = z3) <;> simp only [cond_true, cond_false, List.length_append, List.length_cons, List.length_nil] <;> omega
end Go.Proofs.YthlhbnaloefncaaGreatDoor.Ex
namespace Go.Proofs.YthlhbnaloefncaaGreatDoor.Ex
open Go
set_option linter.unusedVariables false
set_option linter.unusedSimpArgs false
def bkOk (cs : List GContact) (n size : Int) (id : Int) (u : T48) : Bool := bookB u (findC cs id).1 n size
def bkF (n size : Int) (u : T48) : T48 := addU u n size
def rlOk (n size : Int) (id : Int) (u : T48) : Bool := freeB u n size
def rlF (n size : Int) (u : T48) : T48 := addU u n (-size)
theorem bk_L0 (s : GState) (h : RightS s) (n size : Int) (ids : List Int) (hs : ids.length ≤ 50) (hf : ∀ id ∈ ids, (findC s.1 id).2 = true) : ∀ (m i k : Nat) (x : GState), ids.length - i = m → m + 20100 < k → i ≤ ids.length → RightL (bk x) → (bk x).length ≤ 5000 + i →
    state_each_bk_L0 k ((s, n, size), s, zS, x, ids, Int.ofNat ids.length, (i : Int)) = some (bif runOk (bkOk s.1 n size) (bkF n size) (bk x) (ids.drop i) then .inl (zS, stS (pl x) (runL (bkF n size) (bk x) (ids.drop i))) else .inr (s, 8))
  | 0, i, k + 1, x, hm, hk, hi, hl, hx => by
    simp only [state_each_bk_L0]
    rw [i_lt, decide_eq_false (by omega), List.drop_eq_nil_of_le (by omega)]
    rfl
  | m + 1, i, k + 1, x, hm, hk, hi, hl, hx => by
    have hlt : i < ids.length := by omega
    have hmem : ids.getD i 0 ∈ ids := by rw [List.getD_eq_getElem?_getD, List.getElem?_eq_getElem hlt]; exact List.getElem_mem hlt
    have hfd := hf _ hmem
    have hid := findC_id hfd
    have hr := find_rng h.t.rng (ids.getD i 0)
    have hb := Book_spec (bk x) (findC s.1 (ids.getD i 0)).1 n size k (by omega) hl hr (by omega)
    rw [hid] at hb
    have hlen := h.len
    have hcon := h.t.1 _ (findC_some hfd).1
    rw [getD_drop (d := 0) hlt, runOk, runL]
    simp only [state_each_bk_L0, state_Book_1]
    rw [i_lt, decide_eq_true hlt, decide_eq_true (Int.natCast_nonneg i), Int.toNat_natCast]
    simp only [cond_true, contacts_Find_spec s.1 _ k (by omega) (by omega), Option.bind_some, hb, hfd]
    show _ = some (bif (bookB (usedL (bk x) (ids.getD i 0)) (findC s.1 (ids.getD i 0)).1 n size && _) then _ else _)
    cases ho : bookB (usedL (bk x) (ids.getD i 0)) (findC s.1 (ids.getD i 0)).1 n size with
    | false =>
      simp only [cond_false, Option.bind_some, h.copied k (by omega), Bool.false_and]
    | true =>
      simp only [cond_true, Option.bind_some, Bool.true_and, w64_succ (by omega : i < 4611686018427387904)]
      have hu := add_62 (usedL_ok hl (ids.getD i 0)) ho
      have hin : 1 ≤ ids.getD i 0 ∧ ids.getD i 0 ≤ 1048576 := by
        rw [← hid]
        unfold conB at hcon
        simp only [Bool.and_eq_true, decide_eq_true_eq] at hcon
        exact hcon.1.2
      have hu2 : okU (addU (usedL (bk x) (ids.getD i 0)) n size) := by
        obtain ⟨u1, u2, u3⟩ := usedL_ok hl (ids.getD i 0)
        unfold addU
        unfold getU at hu
        split
        · rename_i e; rw [if_pos e] at hu; exact ⟨hu, u2, u3⟩
        · rename_i e
          rw [if_neg e] at hu
          split
          · rename_i e2; rw [if_pos e2] at hu; exact ⟨u1, hu, u3⟩
          · rename_i e2; rw [if_neg e2] at hu; exact ⟨u1, u2, hu⟩
      have hw := withL_len' (bk x) (ids.getD i 0) (addU (usedL (bk x) (ids.getD i 0)) n size)
      exact bk_L0 s h n size ids hs hf m (i + 1) k (x.1, x.2.1, x.2.2.1, x.2.2.2.1, withL (bk x) (ids.getD i 0) (addU (usedL (bk x) (ids.getD i 0)) n size)) (by omega) (by omega) (by omega) (withL_right hl hin hu2) (by show (withL _ _ _).length ≤ _; omega)
theorem free_ok {u : T48} (hu : okU u) {n size : Int} (h : freeB u n size = true) : okU (addU u n (-size)) := by
  unfold freeB at h
  simp only [Bool.and_eq_true, decide_eq_true_eq] at h
  obtain ⟨h1, h2, h3⟩ := h
  obtain ⟨u1, u2, u3⟩ := hu
  unfold getU at h3
  unfold addU
  unfold okU In62 at *
  rcases cls_cases h1 with rfl | rfl | rfl
  · simp only [if_true] at h3 ⊢; omega
  · simp only [show ¬ (1 : Int) = 0 by omega, if_false, if_true] at h3 ⊢; omega
  · simp only [show ¬ (2 : Int) = 0 by omega, show ¬ (2 : Int) = 1 by omega, if_false] at h3 ⊢; omega
theorem book_ok {u : T48} (hu : okU u) {c : GContact} {n size : Int} (h : bookB u c n size = true) : okU (addU u n size) := by
  have hx := add_62 hu h
  obtain ⟨u1, u2, u3⟩ := hu
  unfold addU
  unfold getU at hx
  split
  · rename_i e; rw [if_pos e] at hx; exact ⟨hx, u2, u3⟩
  · rename_i e
    rw [if_neg e] at hx
    split
    · rename_i e2; rw [if_pos e2] at hx; exact ⟨u1, hx, u3⟩
    · rename_i e2; rw [if_neg e2] at hx; exact ⟨u1, u2, hx⟩
theorem rl_L0 (s : GState) (h : RightS s) (n size : Int) (ids : List Int) (hs : ids.length ≤ 50) (hr : ∀ id ∈ ids, 1 ≤ id ∧ id ≤ 1048576) : ∀ (m i k : Nat) (x : GState), ids.length - i = m → m + 20100 < k → i ≤ ids.length → RightL (bk x) → (bk x).length ≤ 5000 + i →
    state_each_rl_L0 k ((n, size), s, zS, x, ids, Int.ofNat ids.length, (i : Int)) = some (bif runOk (rlOk n size) (rlF n size) (bk x) (ids.drop i) then .inl (zS, stS (pl x) (runL (rlF n size) (bk x) (ids.drop i))) else .inr (s, 8))
  | 0, i, k + 1, x, hm, hk, hi, hl, hx => by
    simp only [state_each_rl_L0]
    rw [i_lt, decide_eq_false (by omega), List.drop_eq_nil_of_le (by omega)]
    rfl
  | m + 1, i, k + 1, x, hm, hk, hi, hl, hx => by
    have hlt : i < ids.length := by omega
    have hmem : ids.getD i 0 ∈ ids := by rw [List.getD_eq_getElem?_getD, List.getElem?_eq_getElem hlt]; exact List.getElem_mem hlt
    have hb := Release_spec (bk x) (ids.getD i 0) n size k (by omega) hl (by omega)
    rw [getD_drop (d := 0) hlt, runOk, runL]
    simp only [state_each_rl_L0, state_Release_1]
    rw [i_lt, decide_eq_true hlt, decide_eq_true (Int.natCast_nonneg i), Int.toNat_natCast]
    simp only [cond_true, Option.bind_some, hb]
    show _ = some (bif (freeB (usedL (bk x) (ids.getD i 0)) n size && _) then _ else _)
    cases ho : freeB (usedL (bk x) (ids.getD i 0)) n size with
    | false =>
      simp only [cond_false, Option.bind_some, h.copied k (by omega), Bool.false_and]
    | true =>
      simp only [cond_true, Option.bind_some, Bool.true_and, w64_succ (by omega : i < 4611686018427387904)]
      have hw := withL_len' (bk x) (ids.getD i 0) (addU (usedL (bk x) (ids.getD i 0)) n (-size))
      exact rl_L0 s h n size ids hs hr m (i + 1) k (x.1, x.2.1, x.2.2.1, x.2.2.2.1, withL (bk x) (ids.getD i 0) (addU (usedL (bk x) (ids.getD i 0)) n (-size))) (by omega) (by omega) (by omega) (withL_right hl (hr _ hmem) (free_ok (usedL_ok hl _) ho)) (by show (withL _ _ _).length ≤ _; omega)
theorem found_rng {s : GState} (h : RightS s) {id : Int} (hf : (findC s.1 id).2 = true) : 1 ≤ id ∧ id ≤ 1048576 := by
  have hcon := h.t.1 _ (findC_some hf).1
  have hid := findC_id hf
  rw [← hid]
  unfold conB at hcon
  simp only [Bool.and_eq_true, decide_eq_true_eq] at hcon
  exact hcon.1.2
def eachA (s : GState) (ids : List Int) (n size : Int) (okf : Int → T48 → Bool) (f : T48 → T48) : GState × Int :=
  if askE s.1 ids n size ≠ 0 then (s, askE s.1 ids n size) else bif runOk okf f (bk s) ids then (stS (pl s) (runL f (bk s) ids), 0) else (s, 8)
theorem Book21_spec {s : GState} (h : RightS s) (ids : List Int) (n size : Int) (hs : ids.length ≤ 50) (k : Nat) (hk : 30000 < k) : state_Book k (s, ids, n, size) = some (eachA s ids n size (bkOk s.1 n size) (bkF n size)) := by
  have hl := h.len
  unfold state_Book state_each_bk eachA
  simp only [asked_spec s ids n size k (by omega) (by omega) (by omega), h.copied k (by omega), Option.bind_some]
  by_cases he : askE s.1 ids n size = 0
  · rw [decide_eq_true he, if_neg (by simp [he])]
    obtain ⟨hg, hf⟩ := askE_0 he
    have := bk_L0 s h n size ids hs hf ids.length 0 k s (by omega) (by omega) (by omega) h.2.1 (by omega)
    rw [Int.natCast_zero, List.drop_zero] at this
    simp only [Bool.not_true, cond_false, this, Option.bind_some]
    cases runOk (bkOk s.1 n size) (bkF n size) (bk s) ids <;> rfl
  · rw [decide_eq_false he, if_pos he]
    rfl
theorem Release21_spec {s : GState} (h : RightS s) (ids : List Int) (n size : Int) (hs : ids.length ≤ 50) (k : Nat) (hk : 30000 < k) : state_Release k (s, ids, n, size) = some (eachA s ids n size (rlOk n size) (rlF n size)) := by
  have hl := h.len
  unfold state_Release state_each_rl eachA
  simp only [asked_spec s ids n size k (by omega) (by omega) (by omega), h.copied k (by omega), Option.bind_some]
  by_cases he : askE s.1 ids n size = 0
  · rw [decide_eq_true he, if_neg (by simp [he])]
    obtain ⟨hg, hf⟩ := askE_0 he
    have := rl_L0 s h n size ids hs (fun id hid => found_rng h (hf id hid)) ids.length 0 k s (by omega) (by omega) (by omega) h.2.1 (by omega)
    rw [Int.natCast_zero, List.drop_zero] at this
    simp only [Bool.not_true, cond_false, this, Option.bind_some]
    cases runOk (rlOk n size) (rlF n size) (bk s) ids <;> rfl
  · rw [decide_eq_false he, if_pos he]
    rfl
theorem add_within {u : T48} {c : GContact} (hu : okU u) (hw : withinU u c) {n size : Int} (h : bookB u c n size = true) : withinU (addU u n size) c := by
  unfold bookB at h
  simp only [Bool.and_eq_true, decide_eq_true_eq] at h
  obtain ⟨_, h1, h2, h3⟩ := h
  unfold roomL at h3
  rw [if_pos h1] at h3
  obtain ⟨u1, u2, u3⟩ := hu
  have hv := vol_62 c
  unfold withinU addU
  unfold withinU at hw
  unfold In62 at *
  rcases cls_cases h1 with rfl | rfl | rfl
  · unfold backL satB at h3; simp only [if_true] at h3 ⊢; omega
  · unfold backL satB at h3; simp only [show ¬ (1 : Int) = 0 by omega, if_false, if_true] at h3 ⊢; omega
  · unfold backL satB at h3; simp only [show ¬ (2 : Int) = 0 by omega, show ¬ (2 : Int) = 1 by omega, if_false] at h3 ⊢; omega
theorem free_within {u : T48} {c : GContact} (hw : withinU u c) {n size : Int} (h : freeB u n size = true) : withinU (addU u n (-size)) c := by
  unfold freeB at h
  simp only [Bool.and_eq_true, decide_eq_true_eq] at h
  obtain ⟨h1, h2, h3⟩ := h
  unfold withinU addU
  unfold withinU at hw
  rcases cls_cases h1 with rfl | rfl | rfl
  · simp only [if_true]; omega
  · simp only [show ¬ (1 : Int) = 0 by omega, if_false, if_true]; omega
  · simp only [show ¬ (2 : Int) = 0 by omega, show ¬ (2 : Int) = 1 by omega, if_false]; omega
theorem within_z3 (c : GContact) : withinU z3 c := by
  have := vol_62 c
  unfold In62 at this
  unfold withinU
  simp only
  omega
theorem covers_within {cs : List GContact} {l : List GBooked} (h : Covers cs l) (id : Int) : withinU (usedL l id) (findC cs id).1 := by
  by_cases e : usedL l id = z3
  · rw [e]; exact within_z3 _
  · exact (h id e).2
theorem run_keeps {s : GState} (h : RightS s) {okf : Int → T48 → Bool} {f : T48 → T48} {ids : List Int} (hn : ids.Nodup) (hf : ∀ id ∈ ids, (findC s.1 id).2 = true) (h1 : ∀ id u, okU u → okf id u = true → okU (f u)) (h2 : ∀ id u, okU u → withinU u (findC s.1 id).1 → okf id u = true → withinU (f u) (findC s.1 id).1) (ho : runOk okf f (bk s) ids = true) : RightS (stS (pl s) (runL f (bk s) ids)) := by
  have hr := run_right (okf := okf) f h.2.1 hn (fun id hid => found_rng h (hf id hid)) h1 ho
  refine ⟨h.1, hr, fun id hid => ?_⟩
  show (findC s.1 id).2 = true ∧ withinU (usedL (runL f (bk s) ids) id) (findC s.1 id).1
  have hu : usedL (runL f (bk s) ids) id ≠ z3 := hid
  rw [usedL_run f h.2.1.2 hn] at hu ⊢
  rw [runOk_all okf f h.2.1.2 hn] at ho
  split at hu
  · rename_i hm
    rw [if_pos hm]
    exact ⟨hf id hm, h2 id _ (usedL_ok h.2.1 id) (covers_within h.2.2 id) (List.all_eq_true.1 ho id hm)⟩
  · rename_i hm
    rw [if_neg hm]
    exact h.2.2 id hu
def Keeps (s : GState) (o : GState × Int) : Prop := (o.2 ≠ 0 ∧ o.1 = s) ∨ (o.2 = 0 ∧ RightS o.1 ∧ s.2.2.1 ≤ o.1.2.2.1)
theorem each_keeps {s : GState} (h : RightS s) {okf : Int → T48 → Bool} {f : T48 → T48} {ids : List Int} {n size : Int} (h1 : ∀ id u, okU u → okf id u = true → okU (f u)) (h2 : ∀ id u, okU u → withinU u (findC s.1 id).1 → okf id u = true → withinU (f u) (findC s.1 id).1) : Keeps s (eachA s ids n size okf f) := by
  unfold eachA
  by_cases he : askE s.1 ids n size = 0
  · rw [if_neg (by simp [he])]
    obtain ⟨hg, hf⟩ := askE_0 he
    cases ho : runOk okf f (bk s) ids with
    | false => exact .inl ⟨by show (8 : Int) ≠ 0; decide, rfl⟩
    | true => exact .inr ⟨rfl, run_keeps h hg.2.1 hf h1 h2 ho, Int.le_refl _⟩
  · rw [if_pos he]
    exact .inl ⟨he, rfl⟩
theorem book_keeps {s : GState} (h : RightS s) (ids : List Int) (n size : Int) : Keeps s (eachA s ids n size (bkOk s.1 n size) (bkF n size)) :=
  each_keeps h (fun id u hu ho => book_ok hu ho) (fun id u hu hw ho => add_within hu hw ho)
theorem free_keeps {s : GState} (h : RightS s) (ids : List Int) (n size : Int) : Keeps s (eachA s ids n size (rlOk n size) (rlF n size)) :=
  each_keeps h (fun id u hu ho => free_ok hu ho) (fun id u hu hw ho => free_within hw ho)
def advA (s : GState) (now : Int) : GState × Int := if now < s.2.2.1 ∨ 2147483647 < now then (s, 7) else (stS (advP (pl s) now) (dropL (bk s) (sorted (goneC now s.1))), 0)
theorem Advance21_spec {s : GState} (h : RightS s) (now : Int) (k : Nat) (hk : 30000 < k) : state_Advance k (s, now) = some (advA s now) := by
  have hl := h.len
  have e1 : plan_Advance k ((s.1, s.2.1, s.2.2.1, s.2.2.2.1), now) = _ := Advance_cases h.1 (by show s.1.length ≤ _; omega) (by show s.2.1.length ≤ _; omega) now k (by omega)
  have hg := goneC_len now s.1
  have hsl := sorted_len (goneC now s.1)
  unfold state_Advance advA
  simp only [e1, Option.bind_some, h.copied k (by omega)]
  have ec : (pl s).2.2.1 = s.2.2.1 := rfl
  have e0 : (pl s).1 = s.1 := rfl
  rw [ec, e0]
  by_cases hc : now < s.2.2.1 ∨ 2147483647 < now
  · simp only [if_pos hc]; rfl
  · simp only [if_neg hc, decide_true, Bool.not_true, cond_false, Drop_spec (bk s) (sorted (goneC now s.1)) k (by omega) (by omega) (by omega), Option.bind_some]
    rfl
theorem find_keep {cs ds : List GContact} (hd : ds.Pairwise fun a b => a.1 ≠ b.1) {id : Int} (hf : (findC cs id).2 = true) (hm : (findC cs id).1 ∈ ds) : findC ds id = findC cs id := by
  have := findC_mem hd hm
  rw [findC_id hf] at this
  rw [this]
  exact Prod.ext rfl hf.symm
theorem drop_right {l : List GBooked} (h : RightL l) (ids : List Int) : RightL (dropL l ids) := h.filter _
theorem adv_keeps {s : GState} (h : RightS s) (now : Int) : Keeps s (advA s now) := by
  unfold advA
  by_cases hc : now < s.2.2.1 ∨ 2147483647 < now
  · rw [if_pos hc]; exact .inl ⟨by show (7 : Int) ≠ 0; decide, rfl⟩
  · rw [if_neg hc]
    have hp : RightP (advP (pl s) now) := advP_right h.1 (by show s.2.2.1 ≤ now; omega) (by omega)
    refine .inr ⟨rfl, ⟨hp, drop_right h.2.1 _, fun id hid => ?_⟩, by show s.2.2.1 ≤ now; omega⟩
    have hid : usedL (dropL (bk s) (sorted (goneC now s.1))) id ≠ z3 := hid
    show (findC (leftC now s.1) id).2 = true ∧ withinU (usedL (dropL (bk s) (sorted (goneC now s.1))) id) (findC (leftC now s.1) id).1
    rw [usedL_drop h.2.1.2] at hid ⊢
    split at hid
    · exact absurd rfl hid
    · rename_i hm
      rw [if_neg hm]
      have hcv := h.2.2 id hid
      have hin : (findC s.1 id).1 ∈ leftC now s.1 := by
        unfold leftC
        refine List.mem_filter.2 ⟨(findC_some hcv.1).1, decide_eq_true ?_⟩
        refine Decidable.byContradiction fun hn => hm ((sorted_perm _).mem_iff.2 ?_)
        unfold goneC
        exact List.mem_map.2 ⟨_, List.mem_filter.2 ⟨(findC_some hcv.1).1, by simpa using hn⟩, findC_id hcv.1⟩
      rw [find_keep (ds := leftC now s.1) (hp.2.2.2.2.1.1.ids) hcv.1 hin]
      exact hcv
theorem Edit21_cases {s : GState} (h : RightS s) (d : GDirective) (hd : rngD d) (k : Nat) (hk : 30000 < k) : ∃ o, state_Edit k (s, d) = some o ∧ Keeps s o := by
  have hl := h.len
  have hdr : ledger_Drop k (s.2.2.2.2, []) = some (bk s) := by
    have := Drop_spec (bk s) [] k (by omega) (by simp) (by simp only [List.length_nil]; omega)
    rwa [drop_nil] at this
  have hdi : ledger_Drop k (s.2.2.2.2, [d.2.2.1]) = some (dropL (bk s) [d.2.2.1]) := Drop_spec (bk s) [d.2.2.1] k (by omega) (by simp) (by simp only [List.length_cons, List.length_nil]; omega)
  unfold state_Edit
  rcases Apply_cases h.1 (by show s.1.length ≤ _; omega) (by show s.2.1.length ≤ _; omega) d hd k (by omega) with ⟨e, he, ha⟩ | ⟨q, ha, hq, hcl, hkp⟩
  · have ha' : plan_Apply k ((s.1, s.2.1, s.2.2.1, s.2.2.2.1), d) = some (pl s, e) := ha
    simp only [ha', Option.bind_some, h.copied k (by omega), decide_eq_false he, Bool.not_false, cond_true]
    exact ⟨_, rfl, .inl ⟨he, rfl⟩⟩
  · have ha' : plan_Apply k ((s.1, s.2.1, s.2.2.1, s.2.2.2.1), d) = some (q, 0) := ha
    have hqt : RightT q.1 := hq.2.2.2.2.1.1
    have hql : q.1.length ≤ 4096 := hq.2.2.2.2.1.2
    have hcl' : q.2.2.1 = s.2.2.1 := hcl
    simp only [ha', Option.bind_some, hdr, hdi, decide_true, Bool.not_true, cond_false]
    rcases hkp with ⟨o1, o2, e1⟩ | ⟨o1, o2, ⟨c, hc, hci⟩, hkeep⟩ | ⟨hno, hkeep⟩
    · have b1 : (d.1 == 2 && d.2.1 == 1) = true := by simp [o1, o2]
      rw [b1]
      refine ⟨_, rfl, .inr ⟨rfl, ⟨hq, drop_right h.2.1 _, fun id hid => ?_⟩, by show s.2.2.1 ≤ q.2.2.1; omega⟩⟩
      have hid : usedL (dropL (bk s) [d.2.2.1]) id ≠ z3 := hid
      show (findC q.1 id).2 = true ∧ withinU (usedL (dropL (bk s) [d.2.2.1]) id) (findC q.1 id).1
      rw [usedL_drop h.2.1.2] at hid ⊢
      split at hid
      · exact absurd rfl hid
      · rename_i hm
        rw [if_neg hm]
        have hcv := h.2.2 id hid
        have hin : (findC s.1 id).1 ∈ q.1 := by
          rw [e1]
          refine List.mem_filter.2 ⟨(findC_some hcv.1).1, ?_⟩
          unfold keepC
          rw [findC_id hcv.1]
          simpa using hm
        rw [find_keep hqt.ids hcv.1 hin]
        exact hcv
    · have b1 : (d.1 == 2 && d.2.1 == 1) = false := by simp [o1]
      have b2 : (d.1 == 3 && d.2.1 == 1) = true := by simp [o1, o2]
      have hfc : findC q.1 d.2.2.1 = (c, true) := by rw [← hci]; exact findC_mem hqt.ids hc
      have hov := over_spec (bk s) c k (by omega) h.2.1.2 (hqt.rng c hc) (by omega)
      rw [hci] at hov
      rw [b1, b2]
      simp only [cond_true, cond_false, contacts_Find_spec q.1 d.2.2.1 k (by omega) (by omega), Option.bind_some, hfc, hov, h.copied k (by omega)]
      cases hw : withB (usedL (bk s) d.2.2.1) c with
      | false => exact ⟨_, rfl, .inl ⟨by show (8 : Int) ≠ 0; decide, rfl⟩⟩
      | true =>
        refine ⟨_, rfl, .inr ⟨rfl, ⟨hq, h.2.1, fun id hid => ?_⟩, by show s.2.2.1 ≤ q.2.2.1; omega⟩⟩
        have hid : usedL (bk s) id ≠ z3 := hid
        show (findC q.1 id).2 = true ∧ withinU (usedL (bk s) id) (findC q.1 id).1
        have hcv := h.2.2 id hid
        by_cases hi : id = d.2.2.1
        · rw [hi, hfc]
          exact ⟨rfl, (withB_iff _ _).1 hw⟩
        · rw [find_keep hqt.ids hcv.1 (hkeep _ (findC_some hcv.1).1 (by rw [findC_id hcv.1]; exact hi))]
          exact hcv
    · have fin : ∃ o, some (((q.1, q.2.1, q.2.2.1, q.2.2.2, bk s), (0 : Int)) : GState × Int) = some o ∧ Keeps s o := by
        refine ⟨_, rfl, .inr ⟨rfl, ⟨hq, h.2.1, fun id hid => ?_⟩, by show s.2.2.1 ≤ q.2.2.1; omega⟩⟩
        have hid : usedL (bk s) id ≠ z3 := hid
        show (findC q.1 id).2 = true ∧ withinU (usedL (bk s) id) (findC q.1 id).1
        have hcv := h.2.2 id hid
        rw [find_keep hqt.ids hcv.1 (hkeep _ (findC_some hcv.1).1)]
        exact hcv
      have b1 : (d.1 == 2 && d.2.1 == 1) = false := by
        rw [Bool.eq_false_iff]; simp only [ne_eq, Bool.and_eq_true, beq_iff_eq]; exact fun hh => hno ⟨.inl hh.1, hh.2⟩
      have b2 : (d.1 == 3 && d.2.1 == 1) = false := by
        rw [Bool.eq_false_iff]; simp only [ne_eq, Bool.and_eq_true, beq_iff_eq]; exact fun hh => hno ⟨.inr hh.1, hh.2⟩
      rw [b1, b2]
      exact fin
end Go.Proofs.YthlhbnaloefncaaGreatDoor.Ex
namespace Go.Proofs.YthlhbnaloefncaaGreatDoor.Ex
open Go
set_option linter.unusedVariables false
set_option maxHeartbeats 0
def feluccalaw21_StateTime (k : Nat) : (GState × Int × Int) → Option (Bool) := fun (s, now, later) =>
  (feluccalaw21_small k ()).bind fun o_1 =>
  bif o_1 then
   (feluccalaw21_Few k s).bind fun o_3 =>
    bif o_3 then
     bif decide (later < now) then
      some (true)
     else
      (state_Right k s).bind fun o_6 =>
       bif o_6 then
        (state_Advance k (s, now)).bind fun o_8 =>
         bif !decide (o_8.2 = 0) then
          (state_Same k (o_8.1, s)).bind fun o_10 =>
           bif o_10 then
            some (true)
           else
            some (false)
         else
          (state_Advance k (o_8.1, later)).bind fun o_10 =>
           (state_Advance k (s, later)).bind fun o_11 =>
            bif decide (o_10.2 = o_11.2) then
             bif !decide (o_10.2 = 0) then
              some (true)
             else
              (contacts_Same k (o_10.1.1, o_11.1.1)).bind fun o_14 =>
               bif o_14 then
                (ledger_Same k (o_10.1.2.2.2.2, o_11.1.2.2.2.2)).bind fun o_16 =>
                 bif o_16 then
                  bif decide (o_10.1.2.2.1 = o_11.1.2.2.1) then
                   some (true)
                  else
                   some (false)
                 else
                  some (false)
               else
                some (false)
            else
             some (false)
       else
        some (true)
    else
     some (true)
  else
   (feluccalaw21_Few k s).bind fun o_3 =>
    bif o_3 then
     bif decide (later < now) then
      some (false)
     else
      (state_Right k s).bind fun o_6 =>
       bif o_6 then
        (state_Advance k (s, now)).bind fun o_8 =>
         bif !decide (o_8.2 = 0) then
          some (false)
         else
          (state_Advance k (o_8.1, later)).bind fun o_10 =>
           (state_Advance k (s, later)).bind fun o_11 =>
            some (false)
       else
        some (false)
    else
     some (false)
noncomputable def feluccalaw21_StateTime_e := entOf (P := Tryz.prog) (A := [.agg lGState, .one (.sc (.int .i64)), .one (.sc (.int .i64))]) (R := [.one (.sc (.bool))]) Tryz.f8 feluccalaw21_StateTime (fun k => ⟨[feluccalaw21_small_e k, feluccalaw21_Few_e k, state_Right_e k, state_Same_e k, state_Advance_e k, contacts_Same_e k, ledger_Same_e k], [], [hkStr Tryz.prog]⟩) [] Tryz.func8 (by kernel_rfl) (by kernel_rfl) trivial (fun k x => by kernel_rfl) fun _ _ => by kernel_rfl
end Go.Proofs.YthlhbnaloefncaaGreatDoor.Ex
namespace Go.Proofs.YthlhbnaloefncaaGreatDoor.Ex
open Go
set_option linter.unusedVariables false
set_option linter.unusedSimpArgs false
theorem okS_1 {s : GState} (h : okvT kGState s) : ∀ c ∈ s.1, okvT kGContact c := by
  simp only [okvT] at h
  exact rows_ok h.1
theorem okS_2 {s : GState} (h : okvT kGState s) : ∀ r ∈ s.2.1, okvT kGRange r := by
  simp only [okvT] at h
  exact rows_ok h.2.1
theorem small21 (k : Nat) : feluccalaw21_small k () = some true := rfl
theorem mem_gone {now : Int} {cs : List GContact} {x : Int} : x ∈ sorted (goneC now cs) ↔ ∃ c ∈ cs, c.2.2.2.2.1 ≤ now ∧ c.1 = x := by
  rw [(sorted_perm _).mem_iff]
  unfold goneC
  simp only [List.mem_map, List.mem_filter, Bool.not_eq_true', decide_eq_false_iff_not]
  constructor
  · rintro ⟨c, ⟨h1, h2⟩, rfl⟩; exact ⟨c, h1, by omega, rfl⟩
  · rintro ⟨c, h1, h2, rfl⟩; exact ⟨c, ⟨h1, by omega⟩, rfl⟩
theorem drop_twice {now later : Int} (h : now ≤ later) (cs : List GContact) (l : List GBooked) : dropL (dropL l (sorted (goneC now cs))) (sorted (goneC later (leftC now cs))) = dropL l (sorted (goneC later cs)) := by
  unfold dropL
  rw [List.filter_filter]
  refine List.filter_congr fun b _ => ?_
  rw [← Bool.not_or, Bool.not_inj_iff, Bool.eq_iff_iff, Bool.or_eq_true, decide_eq_true_eq, decide_eq_true_eq, decide_eq_true_eq, mem_gone, mem_gone, mem_gone]
  constructor
  · rintro (⟨c, hc, h1, h2⟩ | ⟨c, hc, h1, h2⟩)
    · exact ⟨c, (List.mem_filter.1 hc).1, h1, h2⟩
    · exact ⟨c, hc, by omega, h2⟩
  · rintro ⟨c, hc, h1, h2⟩
    by_cases h3 : c.2.2.2.2.1 ≤ now
    · exact .inr ⟨c, hc, h3, h2⟩
    · exact .inl ⟨c, List.mem_filter.2 ⟨hc, decide_eq_true (by omega)⟩, h1, h2⟩
theorem StateTime_pure (s : GState) (g1 : ∀ c ∈ s.1, okvT kGContact c) (g2 : ∀ r ∈ s.2.1, okvT kGRange r) (now later : Int) : ∃ k, feluccalaw21_StateTime k (s, now, later) = some true := by
  refine ⟨40000, ?_⟩
  unfold feluccalaw21_StateTime
  simp only [small21, Few21_spec, Option.bind_some, cond_true]
  by_cases few : s.1.length ≤ 50 ∧ s.2.1.length ≤ 50 ∧ (bk s).length ≤ 50
  · rw [decide_eq_true few]
    simp only [cond_true]
    by_cases hlt : later < now
    · rw [decide_eq_true hlt]; rfl
    · rw [decide_eq_false hlt]
      obtain ⟨b, hb, hi⟩ := StateRight_spec s 40000 (by omega) (by omega) (by omega) (fun c hc => rng_of (g1 c hc)) (fun r hr => rngR_of (g2 r hr)) (by omega)
      simp only [cond_false, hb, Option.bind_some]
      cases b with
      | false => rfl
      | true =>
        have h := hi.1 rfl
        simp only [cond_true, Advance21_spec h now 40000 (by omega), Advance21_spec h later 40000 (by omega), Option.bind_some]
        have hk := adv_keeps h now
        unfold advA at hk ⊢
        by_cases hc : now < s.2.2.1 ∨ 2147483647 < now
        · simp only [if_pos hc]
          rw [show decide ((7 : Int) = 0) = false from rfl]
          simp only [Bool.not_false, cond_true, h.same s 40000 (by omega), decide_true, Option.bind_some]
        · simp only [if_neg hc] at hk ⊢
          rcases hk with ⟨hk, _⟩ | ⟨_, ha, _⟩
          · exact absurd rfl hk
          have hl := ha.len
          have hadv := Advance21_spec ha later 40000 (by omega)
          unfold advA at hadv
          have ec : (stS (advP (pl s) now) (dropL (bk s) (sorted (goneC now s.1)))).2.2.1 = now := rfl
          rw [ec] at hadv
          simp only [decide_true, Bool.not_true, cond_false]
          have hadv' : state_Advance 40000 (stS (advP (pl s) now) (dropL (bk s) (sorted (goneC now s.1))), later) = _ := hadv
          by_cases h7 : 2147483647 < later
          · rw [if_pos (.inr h7)] at hadv'
            simp only [hadv', Option.bind_some, if_pos (show later < s.2.2.1 ∨ 2147483647 < later from .inr h7), decide_true, cond_true]
            rfl
          · rw [if_neg (by omega)] at hadv'
            simp only [hadv', Option.bind_some, if_neg (show ¬ (later < s.2.2.1 ∨ 2147483647 < later) by omega), decide_true, Bool.not_true, cond_true, cond_false]
            have e1 : (stS (advP (pl (stS (advP (pl s) now) (dropL (bk s) (sorted (goneC now s.1))))) later) (dropL (bk (stS (advP (pl s) now) (dropL (bk s) (sorted (goneC now s.1))))) (sorted (goneC later (stS (advP (pl s) now) (dropL (bk s) (sorted (goneC now s.1)))).1)))).1 = leftC later (leftC now s.1) := rfl
            have e2 : (stS (advP (pl s) later) (dropL (bk s) (sorted (goneC later s.1)))).1 = leftC later s.1 := rfl
            have e3 : (stS (advP (pl (stS (advP (pl s) now) (dropL (bk s) (sorted (goneC now s.1))))) later) (dropL (bk (stS (advP (pl s) now) (dropL (bk s) (sorted (goneC now s.1))))) (sorted (goneC later (stS (advP (pl s) now) (dropL (bk s) (sorted (goneC now s.1)))).1)))).2.2.2.2 = dropL (dropL (bk s) (sorted (goneC now s.1))) (sorted (goneC later (leftC now s.1))) := rfl
            have e4 : (stS (advP (pl s) later) (dropL (bk s) (sorted (goneC later s.1)))).2.2.2.2 = dropL (bk s) (sorted (goneC later s.1)) := rfl
            have e5 : (stS (advP (pl (stS (advP (pl s) now) (dropL (bk s) (sorted (goneC now s.1))))) later) (dropL (bk (stS (advP (pl s) now) (dropL (bk s) (sorted (goneC now s.1))))) (sorted (goneC later (stS (advP (pl s) now) (dropL (bk s) (sorted (goneC now s.1)))).1)))).2.2.1 = later := rfl
            have e6 : (stS (advP (pl s) later) (dropL (bk s) (sorted (goneC later s.1)))).2.2.1 = later := rfl
            rw [e1, e2, e3, e4, e5, e6, left_left (by omega), drop_twice (by omega)]
            have l1 := leftC_len later s.1
            have l2 := drop_len (bk s) (sorted (goneC later s.1))
            simp only [Same_spec _ _ 40000 (show (leftC later s.1).length ≤ 1000000000 by omega) (by omega), SameB_spec _ _ 40000 (show (dropL (bk s) (sorted (goneC later s.1))).length ≤ 1000000000 by omega) (by omega), Option.bind_some, decide_true, cond_true]
  · rw [decide_eq_false few]; rfl
end Go.Proofs.YthlhbnaloefncaaGreatDoor.Ex
namespace Go.Proofs.YthlhbnaloefncaaGreatDoor.Ex
open Go Go.RowKit Go.WideShapes
set_option linter.unusedVariables false
section
variable {P : Program} {kd : IntKind}
theorem tup_one {W : World} {n : Nat} {H : Type} {enc : TypeId × Value → H} {e : TypeId} (he : P.underlying e = some (.int kd)) : ∀ (m : Nat) (cs : List Value), cs.length = m → (∀ i, i < m → ∃ y, DataW.trod enc P W 0 (fun _ => true) true n e ((cs.drop i).take 1) = some y) →
    ∃ y : Tup (List.replicate m (SK.int kd)), TupIs (fun b => b < W.heap.size) W (List.replicate m (SK.int kd)) y cs ∧ okvT (List.replicate m (SK.int kd)) y
  | 0, cs, hl, _ => by
    have : cs = [] := List.length_eq_zero_iff.1 hl
    subst this
    exact ⟨(), by simp [TupIs], by simp [okvT]⟩
  | m + 1, cs, hl, h => by
    obtain ⟨y, hy⟩ := h 0 (by omega)
    have a1 := OpK.t (OpK.int he) enc W n _ y hy
    have a2 := tup_one he m (cs.drop 1) (by rw [List.length_drop]; omega) (fun i hi => by
      obtain ⟨z, hz⟩ := h (i + 1) (by omega)
      exact ⟨z, by rw [List.drop_drop, show 1 + i = i + 1 by omega]; exact hz⟩)
    have e1 : cs = (cs.drop 0).take 1 ++ cs.drop 1 := by rw [List.drop_zero, List.take_append_drop]
    have := tup_app (ok := fun b => b < W.heap.size) (W := W) (a := [SK.int kd]) (b := List.replicate m (SK.int kd)) a1 a2
    rw [← e1] at this
    exact this
theorem OpT.arr {t e : TypeId} {n : Nat} (ht : P.underlying t = some (.array n e)) (he : P.underlying e = some (.int kd)) (hc : P.cellsOf e = 1) (hC : P.cellsOf t = n) : OpT P t (List.replicate n (SK.int kd)) := by
  intro H enc W fuel cs x hx
  obtain ⟨xs, m, _, rfl, hl, hlen, hf⟩ := DataW.trod_array ht hx
  refine tup_one (enc := enc) (n := m) he n cs (by rw [hl, hC]) (fun i hi => ?_)
  have h1 := hf i hi
  rw [hc, Nat.mul_one, List.getElem?_eq_getElem (by omega)] at h1
  exact ⟨_, h1⟩
end
end Go.Proofs.YthlhbnaloefncaaGreatDoor.Ex
namespace Go.Proofs.YthlhbnaloefncaaGreatDoor.Ex
open Go
set_option linter.unusedVariables false
set_option maxHeartbeats 0
def feluccalaw21_StateTurns (k : Nat) : (GState × (List Int) × Int × Int × Int) → Option (Bool) := fun (s, ids, k2, class3, size) =>
  (feluccalaw21_small k ()).bind fun o_1 =>
  bif o_1 then
   (feluccalaw21_Few k s).bind fun o_3 =>
    bif o_3 then
     bif decide (50 < Int.ofNat (List.length ids)) then
      some (true)
     else
      bif decide (k2 < 0) then
       some (true)
      else
       bif decide (Int.ofNat (List.length ids) < k2) then
        some (true)
       else
        (state_Right k s).bind fun o_8 =>
         bif o_8 then
          bif decide (0 ≤ k2) then
           bif decide (k2 ≤ Int.ofNat (List.length ids)) then
            bif decide ((0 + List.length (List.drop (Int.toNat k2) ids)) * 8 ≤ 140737488355328) then
             bif decide (0 ≤ k2) then
              bif decide (k2 ≤ Int.ofNat (List.length ids)) then
               bif decide ((List.length (List.drop (Int.toNat k2) ids) + List.length (List.take (Int.toNat k2) ids)) * 8 ≤ 140737488355328) then
                (state_Book k (s, ids, class3, size)).bind fun o_16 =>
                 (state_Book k (s, List.drop (Int.toNat k2) ids ++ List.take (Int.toNat k2) ids, class3, size)).bind fun o_17 =>
                  (state_Release k (s, ids, class3, size)).bind fun o_18 =>
                   (state_Release k (s, List.drop (Int.toNat k2) ids ++ List.take (Int.toNat k2) ids, class3, size)).bind fun o_19 =>
                    bif decide (o_16.2 = o_17.2) then
                     (state_Same k (o_16.1, o_17.1)).bind fun o_21 =>
                      bif o_21 then
                       bif decide (o_18.2 = o_19.2) then
                        (state_Same k (o_18.1, o_19.1)).bind fun o_24 =>
                         bif o_24 then
                          some (true)
                         else
                          some (false)
                       else
                        some (false)
                      else
                       some (false)
                    else
                     some (false)
               else
                none
              else
               none
             else
              none
            else
             none
           else
            none
          else
           none
         else
          some (true)
    else
     some (true)
  else
   (feluccalaw21_Few k s).bind fun o_3 =>
    bif o_3 then
     bif decide (50 < Int.ofNat (List.length ids)) then
      some (false)
     else
      bif decide (k2 < 0) then
       some (false)
      else
       bif decide (Int.ofNat (List.length ids) < k2) then
        some (false)
       else
        (state_Right k s).bind fun o_8 =>
         bif o_8 then
          bif decide (0 ≤ k2) then
           bif decide (k2 ≤ Int.ofNat (List.length ids)) then
            bif decide ((0 + List.length (List.drop (Int.toNat k2) ids)) * 8 ≤ 140737488355328) then
             bif decide (0 ≤ k2) then
              bif decide (k2 ≤ Int.ofNat (List.length ids)) then
               bif decide ((List.length (List.drop (Int.toNat k2) ids) + List.length (List.take (Int.toNat k2) ids)) * 8 ≤ 140737488355328) then
                (state_Book k (s, ids, class3, size)).bind fun o_16 =>
                 (state_Book k (s, List.drop (Int.toNat k2) ids ++ List.take (Int.toNat k2) ids, class3, size)).bind fun o_17 =>
                  (state_Release k (s, ids, class3, size)).bind fun o_18 =>
                   (state_Release k (s, List.drop (Int.toNat k2) ids ++ List.take (Int.toNat k2) ids, class3, size)).bind fun o_19 =>
                    some (false)
               else
                none
              else
               none
             else
              none
            else
             none
           else
            none
          else
           none
         else
          some (false)
    else
     some (false)
noncomputable def feluccalaw21_StateTurns_e := entOf (P := Tryz.prog) (A := [.agg lGState, .one (.row 3 [.int .i64]), .one (.sc (.int .i64)), .one (.sc (.int .i64)), .one (.sc (.int .i64))]) (R := [.one (.sc (.bool))]) Tryz.f9 feluccalaw21_StateTurns (fun k => ⟨[feluccalaw21_small_e k, feluccalaw21_Few_e k, state_Right_e k, state_Same_e k, state_Book_e k, state_Release_e k], [], [hkStr Tryz.prog]⟩) [] Tryz.func9 (by kernel_rfl) (by kernel_rfl) trivial (fun k x => by kernel_rfl) fun _ _ => by kernel_rfl
end Go.Proofs.YthlhbnaloefncaaGreatDoor.Ex
namespace Go.Proofs.YthlhbnaloefncaaGreatDoor.Ex
open Go
set_option linter.unusedVariables false
set_option linter.unusedSimpArgs false
theorem askE_perm (cs : List GContact) {a b : List Int} (h : a.Perm b) (n size : Int) : askE cs a n size = askE cs b n size := by
  have h1 : goodA a n size ↔ goodA b n size := by
    unfold goodA
    rw [h.nodup_iff]
    refine and_congr (not_congr ⟨fun e => ?_, fun e => ?_⟩) Iff.rfl
    · subst e; exact List.nil_perm.1 h
    · subst e; exact List.perm_nil.1 h
  have h2 : (a.any fun id => !(findC cs id).2) = (b.any fun id => !(findC cs id).2) := by
    rw [Bool.eq_iff_iff, List.any_eq_true, List.any_eq_true]
    exact ⟨fun ⟨x, hx, hp⟩ => ⟨x, h.mem_iff.1 hx, hp⟩, fun ⟨x, hx, hp⟩ => ⟨x, h.mem_iff.2 hx, hp⟩⟩
  unfold askE
  rw [h2]
  by_cases g : goodA a n size
  · rw [if_neg (fun x : ¬ goodA a n size => x g), if_neg (fun x : ¬ goodA b n size => x (h1.1 g))]
  · rw [if_pos g, if_pos (fun x => g (h1.2 x) : ¬ goodA b n size)]
theorem each_perm {s : GState} (h : RightS s) {okf : Int → T48 → Bool} {f : T48 → T48} {a b : List Int} (hp : a.Perm b) (n size : Int) (h1 : ∀ id u, okU u → okf id u = true → okU (f u)) : eachA s a n size okf f = eachA s b n size okf f := by
  unfold eachA
  rw [askE_perm s.1 hp]
  by_cases he : askE s.1 b n size = 0
  · rw [if_neg (by simp [he]), if_neg (by simp [he])]
    obtain ⟨hg, hf⟩ := askE_0 he
    have na : a.Nodup := hp.nodup_iff.2 hg.2.1
    have e1 : runOk okf f (bk s) a = runOk okf f (bk s) b := by
      rw [runOk_all okf f h.2.1.2 na, runOk_all okf f h.2.1.2 hg.2.1, Bool.eq_iff_iff, List.all_eq_true, List.all_eq_true]
      exact ⟨fun x y hy => x y (hp.mem_iff.2 hy), fun x y hy => x y (hp.mem_iff.1 hy)⟩
    rw [e1]
    cases ho : runOk okf f (bk s) b with
    | false => rfl
    | true =>
      have hr : ∀ id ∈ b, 1 ≤ id ∧ id ≤ 1048576 := fun id hid => found_rng h (hf id hid)
      have e2 : runL f (bk s) a = runL f (bk s) b := by
        refine right_ext (run_right (okf := okf) f h.2.1 na (fun id hid => hr id (hp.mem_iff.1 hid)) h1 (by rw [e1, ho])) (run_right (okf := okf) f h.2.1 hg.2.1 hr h1 ho) fun id => ?_
        rw [usedL_run f h.2.1.2 na, usedL_run f h.2.1.2 hg.2.1]
        by_cases hm : id ∈ b
        · rw [if_pos hm, if_pos (hp.mem_iff.2 hm)]
        · rw [if_neg hm, if_neg (fun x => hm (hp.mem_iff.1 x))]
      rw [e2]
  · rw [if_pos he, if_pos he]
theorem keeps_len {s : GState} (h : RightS s) {o : GState × Int} (hk : Keeps s o) : o.1.1.length ≤ 5000 ∧ o.1.2.1.length ≤ 5000 ∧ (bk o.1).length ≤ 5000 := by
  rcases hk with ⟨_, e⟩ | ⟨_, e, _⟩
  · rw [e]; have := h.len; omega
  · have := e.len; omega
theorem StateTurns_pure (s : GState) (g1 : ∀ c ∈ s.1, okvT kGContact c) (g2 : ∀ r ∈ s.2.1, okvT kGRange r) (ids : List Int) (k2 n size : Int) : ∃ k, feluccalaw21_StateTurns k (s, ids, k2, n, size) = some true := by
  refine ⟨40000, ?_⟩
  unfold feluccalaw21_StateTurns
  simp only [small21, Few21_spec, Option.bind_some, cond_true]
  by_cases few : s.1.length ≤ 50 ∧ s.2.1.length ≤ 50 ∧ (bk s).length ≤ 50
  · rw [decide_eq_true few]
    simp only [cond_true]
    by_cases hi : ids.length ≤ 50
    · have c1 : decide (50 < Int.ofNat ids.length) = false := decide_eq_false (by show ¬ (50 : Int) < (ids.length : Int); omega)
      rw [c1]
      by_cases h0 : k2 < 0
      · rw [decide_eq_true h0]; rfl
      rw [decide_eq_false h0]
      by_cases h1 : Int.ofNat ids.length < k2
      · rw [decide_eq_true h1]; rfl
      have h1' : k2 ≤ (ids.length : Int) := Int.not_lt.1 h1
      rw [decide_eq_false h1]
      obtain ⟨b, hb, hr⟩ := StateRight_spec s 40000 (by omega) (by omega) (by omega) (fun c hc => rng_of (g1 c hc)) (fun r hr => rngR_of (g2 r hr)) (by omega)
      simp only [cond_false, hb, Option.bind_some]
      cases b with
      | false => rfl
      | true =>
        have h := hr.1 rfl
        have hp : (List.drop (Int.toNat k2) ids ++ List.take (Int.toNat k2) ids).Perm ids := by
          have := List.perm_append_comm (l₁ := ids.drop k2.toNat) (l₂ := ids.take k2.toNat)
          rwa [List.take_append_drop] at this
        have hl : (List.drop (Int.toNat k2) ids ++ List.take (Int.toNat k2) ids).length ≤ 50 := by rw [hp.length_eq]; exact hi
        have d1 : decide ((0 + (List.drop (Int.toNat k2) ids).length) * 8 ≤ 140737488355328) = true := decide_eq_true (by rw [List.length_drop]; omega)
        have d2 : decide (((List.drop (Int.toNat k2) ids).length + (List.take (Int.toNat k2) ids).length) * 8 ≤ 140737488355328) = true := decide_eq_true (by rw [List.length_append] at hl; omega)
        have d3 : decide (k2 ≤ Int.ofNat ids.length) = true := decide_eq_true h1'
        simp only [cond_true, d1, d2, d3, decide_eq_true (show 0 ≤ k2 by omega), Book21_spec h _ n size hi 40000 (by omega), Book21_spec h _ n size hl 40000 (by omega), Release21_spec h _ n size hi 40000 (by omega), Release21_spec h _ n size hl 40000 (by omega), Option.bind_some,
          each_perm h hp n size (okf := bkOk s.1 n size) (f := bkF n size) (fun id u hu ho => book_ok hu ho), each_perm h hp n size (okf := rlOk n size) (f := rlF n size) (fun id u hu ho => free_ok hu ho), decide_true]
        obtain ⟨l1, l2, l3⟩ := keeps_len h (book_keeps h ids n size)
        obtain ⟨m1, m2, m3⟩ := keeps_len h (free_keeps h ids n size)
        simp only [StateSame_spec _ _ 40000 l1 l2 l3 (by omega), StateSame_spec _ _ 40000 m1 m2 m3 (by omega), Option.bind_some, decide_true, cond_true]
    · have c1 : decide (50 < Int.ofNat ids.length) = true := decide_eq_true (by show (50 : Int) < (ids.length : Int); omega)
      rw [c1]; rfl
  · rw [decide_eq_false few]; rfl
end Go.Proofs.YthlhbnaloefncaaGreatDoor.Ex
namespace Go.Proofs.YthlhbnaloefncaaGreatDoor.Ex
open Go
set_option linter.unusedVariables false
set_option maxHeartbeats 0
def feluccalaw21_StateBack_L0 : Nat → ((List Int) × Int × Int × GState × Bool × GState × Int) → Option (((List Int) × Int × Int × GState × Bool × GState) ⊕ (Bool))
  | 0, _ => none
  | k + 1, (ids, class2, size, s, head, a, i) =>
  bif decide (i < Int.ofNat (List.length ids)) then
  bif decide (0 ≤ i) then
   bif decide (i < Int.ofNat (List.length ids)) then
    (contacts_Find k (s.1, List.getD ids (Int.toNat i) 0)).bind fun o_4 =>
     bif o_4.2 then
      bif decide (class2 < 0) then
       some (Sum.inr false)
      else
       bif decide (2 < class2) then
        some (Sum.inr false)
       else
        (ledger_Room k (s.2.2.2.2, o_4.1, class2)).bind fun o_8 =>
         (ledger_Room k (a.2.2.2.2, o_4.1, class2)).bind fun o_9 =>
          bif !decide (w64 (o_8 - size) = o_9) then
           some (Sum.inr false)
          else
           feluccalaw21_StateBack_L0 k (ids, class2, size, s, head, a, w64 (i + 1))
     else
      some (Sum.inr false)
   else
    none
  else
   none
 else
  some (Sum.inl (ids, class2, size, s, head, a))
def feluccalaw21_StateBack (k : Nat) : (GState × (List Int) × Int × Int) → Option (Bool) := fun (s, ids, class2, size) =>
  (feluccalaw21_small k ()).bind fun o_1 =>
  bif o_1 then
   (feluccalaw21_Few k s).bind fun o_3 =>
    bif o_3 then
     bif decide (50 < Int.ofNat (List.length ids)) then
      some (true)
     else
      (state_Right k s).bind fun o_6 =>
       bif o_6 then
        (state_Book k (s, ids, class2, size)).bind fun o_8 =>
         bif !decide (o_8.2 = 0) then
          (state_Same k (o_8.1, s)).bind fun o_10 =>
           bif o_10 then
            some (true)
           else
            some (false)
         else
          (feluccalaw21_StateBack_L0 k (ids, class2, size, s, true, o_8.1, 0)).bind fun o_10 =>
           match o_10 with
           | .inl o_11 =>
            (state_Release k (o_11.2.2.2.2.2, o_11.1, o_11.2.1, o_11.2.2.1)).bind fun o_12 =>
             bif o_11.2.2.2.2.1 then
              bif decide (o_12.2 = 0) then
               (state_Same k (o_12.1, o_11.2.2.2.1)).bind fun o_15 =>
                bif o_15 then
                 (plan_Same k ((o_11.2.2.2.2.2.1, o_11.2.2.2.2.2.2.1, o_11.2.2.2.2.2.2.2.1, o_11.2.2.2.2.2.2.2.2.1), o_11.2.2.2.1.1, o_11.2.2.2.1.2.1, o_11.2.2.2.1.2.2.1, o_11.2.2.2.1.2.2.2.1)).bind fun o_17 =>
                  bif o_17 then
                   some (true)
                  else
                   some (false)
                else
                 some (false)
              else
               some (false)
             else
              some (false)
           | .inr o_11 =>
            some (o_11)
       else
        some (true)
    else
     some (true)
  else
   (feluccalaw21_Few k s).bind fun o_3 =>
    bif o_3 then
     bif decide (50 < Int.ofNat (List.length ids)) then
      some (false)
     else
      (state_Right k s).bind fun o_6 =>
       bif o_6 then
        (state_Book k (s, ids, class2, size)).bind fun o_8 =>
         bif !decide (o_8.2 = 0) then
          some (false)
         else
          (feluccalaw21_StateBack_L0 k (ids, class2, size, s, false, o_8.1, 0)).bind fun o_10 =>
           match o_10 with
           | .inl o_11 =>
            (state_Release k (o_11.2.2.2.2.2, o_11.1, o_11.2.1, o_11.2.2.1)).bind fun o_12 =>
             bif o_11.2.2.2.2.1 then
              bif decide (o_12.2 = 0) then
               (state_Same k (o_12.1, o_11.2.2.2.1)).bind fun o_15 =>
                bif o_15 then
                 (plan_Same k ((o_11.2.2.2.2.2.1, o_11.2.2.2.2.2.2.1, o_11.2.2.2.2.2.2.2.1, o_11.2.2.2.2.2.2.2.2.1), o_11.2.2.2.1.1, o_11.2.2.2.1.2.1, o_11.2.2.2.1.2.2.1, o_11.2.2.2.1.2.2.2.1)).bind fun o_17 =>
                  bif o_17 then
                   some (true)
                  else
                   some (false)
                else
                 some (false)
              else
               some (false)
             else
              some (false)
           | .inr o_11 =>
            some (o_11)
       else
        some (false)
    else
     some (false)
noncomputable def feluccalaw21_StateBack_e := entOf (P := Tryz.prog) (A := [.agg lGState, .one (.row 3 [.int .i64]), .one (.sc (.int .i64)), .one (.sc (.int .i64))]) (R := [.one (.sc (.bool))]) Tryz.f5 feluccalaw21_StateBack (fun k => ⟨[feluccalaw21_small_e k, feluccalaw21_Few_e k, state_Right_e k, state_Same_e k, state_Book_e k, contacts_Find_e k, ledger_Room_e k, state_Release_e k, plan_Same_e k], [], [hkStr Tryz.prog]⟩) [some ⟨0, [(1, .one (.ro [.int .i64])), (2, .one (.sc (.int .i64))), (3, .one (.sc (.int .i64))), (4, .box 28 trGState), (9, .one (.sc (.bool))), (11, .box 28 toGState), (13, .one (.sc (.int .i64)))], [(1, .one (.ro [.int .i64])), (2, .one (.sc (.int .i64))), (3, .one (.sc (.int .i64))), (4, .box 28 trGState), (9, .one (.sc (.bool))), (11, .box 28 toGState)], feluccalaw21_StateBack_L0⟩] Tryz.func5 (by kernel_rfl) (by kernel_rfl) ⟨⟨fun _ => rfl, fun k x => by kernel_rfl⟩, trivial⟩ (fun k x => by kernel_rfl) fun _ _ => by kernel_rfl
end Go.Proofs.YthlhbnaloefncaaGreatDoor.Ex
namespace Go.Proofs.YthlhbnaloefncaaGreatDoor.Ex
open Go
set_option linter.unusedVariables false
set_option linter.unusedSimpArgs false
theorem room_add {u : T48} {c : GContact} (hu : okU u) {n size : Int} (h : bookB u c n size = true) : roomL (addU u n size) c n = roomL u c n - size ∧ 0 ≤ size ∧ size ≤ roomL u c n := by
  unfold bookB at h
  simp only [Bool.and_eq_true, decide_eq_true_eq] at h
  obtain ⟨_, h1, h2, h3⟩ := h
  refine ⟨?_, h2, h3⟩
  have hv := vol_62 c
  obtain ⟨u1, u2, u3⟩ := hu
  unfold roomL at h3 ⊢
  rw [if_pos h1] at h3 ⊢
  rw [if_pos h1]
  unfold In62 at *
  rcases cls_cases h1 with rfl | rfl | rfl
  · unfold backL satB addU at *; simp only [if_true] at h3 ⊢; omega
  · unfold backL satB addU at *; simp only [show ¬ (1 : Int) = 0 by omega, if_false, if_true] at h3 ⊢; omega
  · unfold backL satB addU at *; simp only [show ¬ (2 : Int) = 0 by omega, show ¬ (2 : Int) = 1 by omega, if_false] at h3 ⊢; omega
theorem add_back {u : T48} (hu : okU u) {c : GContact} {n size : Int} (h : bookB u c n size = true) : freeB (addU u n size) n size = true ∧ addU (addU u n size) n (-size) = u := by
  unfold bookB at h
  simp only [Bool.and_eq_true, decide_eq_true_eq] at h
  obtain ⟨_, h1, h2, h3⟩ := h
  obtain ⟨u1, u2, u3⟩ := hu
  obtain ⟨a, b, d⟩ := u
  unfold In62 at *
  unfold freeB getU addU
  simp only [Bool.and_eq_true, decide_eq_true_eq]
  rcases cls_cases h1 with rfl | rfl | rfl
  · simp only [if_true] at *
    exact ⟨⟨h1, h2, by omega⟩, by rw [Int.add_neg_cancel_right]⟩
  · simp only [show ¬ (1 : Int) = 0 by omega, if_false, if_true] at *
    exact ⟨⟨h1, h2, by omega⟩, by rw [Int.add_neg_cancel_right]⟩
  · simp only [show ¬ (2 : Int) = 0 by omega, show ¬ (2 : Int) = 1 by omega, if_false] at *
    exact ⟨⟨h1, h2, by omega⟩, by rw [Int.add_neg_cancel_right]⟩
theorem room_62 {u : T48} (hu : okU u) (c : GContact) (n : Int) : In62 (roomL u c n) := by
  have hv := vol_62 c
  have hb := back_62 hu n
  unfold roomL
  unfold In62 at *
  split <;> omega
theorem Back_L0 (s a : GState) (ids : List Int) (n size : Int) (h : RightS s) (ha : RightL (bk a)) (hla : (bk a).length ≤ 5000) (hl : ids.length ≤ 50) (hn : clsB n = true) (hf : ∀ id ∈ ids, (findC s.1 id).2 = true ∧ bookB (usedL (bk s) id) (findC s.1 id).1 n size = true ∧ usedL (bk a) id = addU (usedL (bk s) id) n size) : ∀ (m i k : Nat), ids.length - i = m → m + 20100 < k → i ≤ ids.length →
    feluccalaw21_StateBack_L0 k (ids, n, size, s, true, a, (i : Int)) = some (.inl (ids, n, size, s, true, a))
  | 0, i, k + 1, hm, hk, hi => by
    simp only [feluccalaw21_StateBack_L0]
    rw [i_lt, decide_eq_false (by omega)]
    rfl
  | m + 1, i, k + 1, hm, hk, hi => by
    have hlt : i < ids.length := by omega
    have hmem : ids.getD i 0 ∈ ids := by rw [List.getD_eq_getElem?_getD, List.getElem?_eq_getElem hlt]; exact List.getElem_mem hlt
    obtain ⟨h1, h2, h3⟩ := hf _ hmem
    have hlen := h.len
    have hid := findC_id h1
    have hr := find_rng h.t.rng (ids.getD i 0)
    have r1 := Room_spec (bk s) (findC s.1 (ids.getD i 0)).1 n k (by omega) h.2.1 hr (by omega)
    have r2 := Room_spec (bk a) (findC s.1 (ids.getD i 0)).1 n k (by omega) ha hr (by omega)
    rw [hid] at r1 r2
    obtain ⟨e1, e2, e3⟩ := room_add (usedL_ok h.2.1 (ids.getD i 0)) h2
    have e4 := room_62 (usedL_ok h.2.1 (ids.getD i 0)) (findC s.1 (ids.getD i 0)).1 n
    unfold In62 at e4
    have hc := cls_cases hn
    simp only [feluccalaw21_StateBack_L0]
    rw [i_lt, decide_eq_true hlt, decide_eq_true (Int.natCast_nonneg i), Int.toNat_natCast]
    simp only [cond_true, contacts_Find_spec s.1 _ k (by omega) (by omega), Option.bind_some, h1, r1, r2, decide_eq_false (show ¬ n < 0 by omega), decide_eq_false (show ¬ 2 < n by omega), cond_false, h3, e1]
    rw [w64_id (by omega) (by omega), decide_eq_true rfl, w64_succ (by omega)]
    exact Back_L0 s a ids n size h ha hla hl hn hf m (i + 1) k (by omega) (by omega) (by omega)
theorem StateBack_pure (s : GState) (g1 : ∀ c ∈ s.1, okvT kGContact c) (g2 : ∀ r ∈ s.2.1, okvT kGRange r) (ids : List Int) (n size : Int) : ∃ k, feluccalaw21_StateBack k (s, ids, n, size) = some true := by
  refine ⟨40000, ?_⟩
  unfold feluccalaw21_StateBack
  simp only [small21, Few21_spec, Option.bind_some, cond_true]
  by_cases few : s.1.length ≤ 50 ∧ s.2.1.length ≤ 50 ∧ (bk s).length ≤ 50
  · rw [decide_eq_true few]
    simp only [cond_true]
    by_cases hi : ids.length ≤ 50
    · have c1 : decide (50 < Int.ofNat ids.length) = false := decide_eq_false (by show ¬ (50 : Int) < (ids.length : Int); omega)
      rw [c1]
      obtain ⟨b, hb, hr⟩ := StateRight_spec s 40000 (by omega) (by omega) (by omega) (fun c hc => rng_of (g1 c hc)) (fun r hr => rngR_of (g2 r hr)) (by omega)
      simp only [cond_false, hb, Option.bind_some]
      cases b with
      | false => rfl
      | true =>
        have h := hr.1 rfl
        simp only [cond_true, Book21_spec h ids n size hi 40000 (by omega), Option.bind_some]
        have hk := book_keeps h ids n size
        by_cases he : askE s.1 ids n size = 0
        · obtain ⟨hg, hf⟩ := askE_0 he
          cases ho : runOk (bkOk s.1 n size) (bkF n size) (bk s) ids with
          | false =>
            have e : eachA s ids n size (bkOk s.1 n size) (bkF n size) = (s, 8) := by
              unfold eachA
              rw [if_neg (by simp [he]), ho]; rfl
            rw [e]
            simp only [h.same s 40000 (by omega), decide_true, Option.bind_some]
            rfl
          | true =>
            have e : eachA s ids n size (bkOk s.1 n size) (bkF n size) = (stS (pl s) (runL (bkF n size) (bk s) ids), 0) := by
              unfold eachA
              rw [if_neg (by simp [he]), ho]; rfl
            rw [e] at hk ⊢
            rcases hk with ⟨hk, _⟩ | ⟨_, ha, _⟩
            · exact absurd rfl hk
            have ha : RightS (stS (pl s) (runL (bkF n size) (bk s) ids)) := ha
            have ho' := ho
            rw [runOk_all _ _ h.2.1.2 hg.2.1] at ho'
            have hall : ∀ id ∈ ids, bookB (usedL (bk s) id) (findC s.1 id).1 n size = true := fun id hid => List.all_eq_true.1 ho' id hid
            have hus : ∀ id ∈ ids, usedL (runL (bkF n size) (bk s) ids) id = addU (usedL (bk s) id) n size := fun id hid => by rw [usedL_run _ h.2.1.2 hg.2.1, if_pos hid]; rfl
            have hla := ha.len
            have hL := Back_L0 s (stS (pl s) (runL (bkF n size) (bk s) ids)) ids n size h ha.2.1 (by omega) hi hg.2.2.1 (fun id hid => ⟨hf id hid, hall id hid, hus id hid⟩) ids.length 0 40000 (by omega) (by omega) (by omega)
            rw [Int.natCast_zero] at hL
            have hrel := Release21_spec ha ids n size hi 40000 (by omega)
            have e2 : eachA (stS (pl s) (runL (bkF n size) (bk s) ids)) ids n size (rlOk n size) (rlF n size) = (s, 0) := by
              have ha1 : askE (stS (pl s) (runL (bkF n size) (bk s) ids)).1 ids n size = 0 := he
              have hb1 : bk (stS (pl s) (runL (bkF n size) (bk s) ids)) = runL (bkF n size) (bk s) ids := rfl
              have hr1 : runOk (rlOk n size) (rlF n size) (bk (stS (pl s) (runL (bkF n size) (bk s) ids))) ids = true := by
                rw [runOk_all _ _ ha.2.1.2 hg.2.1, List.all_eq_true]
                intro id hid
                show freeB _ n size = true
                rw [hb1, hus id hid]
                exact (add_back (usedL_ok h.2.1 id) (hall id hid)).1
              unfold eachA
              rw [if_neg (by simp [ha1]), hr1]
              have e3 : runL (rlF n size) (bk (stS (pl s) (runL (bkF n size) (bk s) ids))) ids = bk s := by
                refine right_ext (run_right (okf := rlOk n size) _ ha.2.1 hg.2.1 (fun id hid => found_rng h (hf id hid)) (fun id u hu ho => free_ok hu ho) hr1) h.2.1 fun id => ?_
                rw [usedL_run _ ha.2.1.2 hg.2.1, hb1]
                by_cases hm : id ∈ ids
                · rw [if_pos hm, hus id hm]
                  exact (add_back (usedL_ok h.2.1 id) (hall id hm)).2
                · rw [if_neg hm, usedL_run _ h.2.1.2 hg.2.1, if_neg hm]
              rw [e3]
              rfl
            rw [e2] at hrel
            have hps : plan_Same 40000 ((s.1, s.2.1, s.2.2.1, s.2.2.2.1), s.1, s.2.1, s.2.2.1, s.2.2.2.1) = some true := by
              have := planSame_spec (pl s) (pl s) 40000 (by show s.1.length ≤ _; omega) (by show s.2.1.length ≤ _; omega) (by omega)
              rw [decide_eq_true rfl] at this
              exact this
            simp only [decide_true, Bool.not_true, cond_false, hL, Option.bind_some, hrel, cond_true, h.same s 40000 (by omega)]
            exact bind_s hps rfl
        · have e : eachA s ids n size (bkOk s.1 n size) (bkF n size) = (s, askE s.1 ids n size) := by
            unfold eachA
            rw [if_pos he]
          rw [e]
          simp only [decide_eq_false he, Bool.not_false, cond_true, h.same s 40000 (by omega), decide_true, Option.bind_some]
    · have c1 : decide (50 < Int.ofNat ids.length) = true := decide_eq_true (by show (50 : Int) < (ids.length : Int); omega)
      rw [c1]; rfl
  · rw [decide_eq_false few]; rfl
end Go.Proofs.YthlhbnaloefncaaGreatDoor.Ex
namespace Go.Proofs.YthlhbnaloefncaaGreatDoor.Ex.Tx
open Go Go.RowKit Go.Lib Go.Proofs.YthlhbnaloefncaaGreatDoor.Dig
set_option linter.unusedVariables false
set_option linter.unusedSimpArgs false
abbrev In64 (n : Int) : Prop := -9223372036854775808 ≤ n ∧ n ≤ 9223372036854775807
def cOk (i f t s e r : Int) : Bool := decide ((1 ≤ f ∧ f ≤ 255) ∧ (1 ≤ t ∧ t ≤ 255) ∧ f ≠ t ∧ 0 ≤ s ∧ s < e ∧ e ≤ 2147483647 ∧ 1 ≤ i ∧ i ≤ 1048576 ∧ 1 ≤ r ∧ r ≤ 2147483647)
def rOk (f t s e y : Int) : Bool := decide ((1 ≤ f ∧ f ≤ 255) ∧ (1 ≤ t ∧ t ≤ 255) ∧ f ≠ t ∧ 0 ≤ s ∧ s < e ∧ e ≤ 2147483647 ∧ 0 ≤ y ∧ y ≤ 2147483647)
def zR (p u v x y : Int) : Bool := decide (p = 0 ∧ u = 0 ∧ v = 0 ∧ x = 0 ∧ y = 0)
def zC (i f t s e r : Int) : Bool := decide (i = 0 ∧ f = 0 ∧ t = 0 ∧ s = 0 ∧ e = 0 ∧ r = 0)
def rightB (o q i f t s e r p u v x y : Int) : Bool :=
  if q = 1 then (zR p u v x y && (if o = 1 then cOk i f t s e r else if o = 2 then (decide (f = 0 ∧ t = 0 ∧ s = 0 ∧ e = 0 ∧ r = 0) && cOk i 1 2 0 1 1) else if o = 3 then (decide (f = 0 ∧ t = 0 ∧ s = 0 ∧ e = 0) && cOk i 1 2 0 1 r) else false))
  else if q = 2 then (zC i f t s e r && (if o = 1 then rOk p u v x y else if o = 2 then (decide (x = 0 ∧ y = 0) && rOk p u v 2147483647 0) else if o = 3 then (decide (x = 0) && rOk p u v 2147483647 y) else false))
  else false
def dR : GDirective → Bool := fun (o, q, i, f, t, s, e, r, p, u, v, x, y) => rightB o q i f t s e r p u v x y
theorem w64' {n : Int} (h : In64 n) : w64 n = n := by
  have h1 := h.1
  have h2 := h.2
  unfold w64 IntKind.wrap
  simp [IntKind.signed, IntKind.bits, Int.bmod]
  omega
theorem zb (x : Int) : ((0 : Int) == x) = decide (x = 0) := by
  by_cases h : x = 0
  · subst h; rfl
  · rw [decide_eq_false h]; exact beq_eq_false_iff_ne.2 (Ne.symm h)
theorem bif_id (a : Bool) : (bif a then some true else some false) = some a := by cases a <;> rfl
theorem bif_and (a b : Bool) : (bif a then some b else some false) = some (a && b) := by cases a <;> rfl
theorem num_In_sp (k : Nat) (n lo hi : Int) : num_In k (n, lo, hi) = some (decide (lo ≤ n ∧ n ≤ hi)) := by
  unfold num_In
  by_cases h1 : lo ≤ n <;> by_cases h2 : n ≤ hi <;> simp [h1, h2]
theorem contact_sp (k : Nat) {i f t s e r : Int} (he : In64 e) : check_Contact k (i, f, t, s, e, r) = some (cOk i f t s e r) := by
  unfold check_Contact check_way check_Node check_span
  simp only [num_In_sp, Option.bind_some, bif_id, bif_and]
  have e1 : w64 (e - 1) = e - 1 ∨ e = -9223372036854775808 ∧ w64 (e - 1) = 9223372036854775807 := by
    by_cases h : e = -9223372036854775808
    · subst h; exact .inr ⟨rfl, by decide⟩
    · exact .inl (w64' ⟨by have := he.1; omega, by have := he.2; omega⟩)
  rcases e1 with e1 | ⟨rfl, e1⟩
  · rw [e1]
    congr 1
    rw [Bool.eq_iff_iff]
    simp only [Bool.and_eq_true, decide_eq_true_eq, Bool.not_eq_true', decide_eq_false_iff_not, cOk, and_true]
    omega
  · rw [e1]
    congr 1
    rw [Bool.eq_iff_iff]
    simp only [Bool.and_eq_true, decide_eq_true_eq, Bool.not_eq_true', decide_eq_false_iff_not, cOk, and_true]
    omega
theorem range_sp (k : Nat) {f t s e y : Int} (he : In64 e) : check_Range k (f, t, s, e, y) = some (rOk f t s e y) := by
  unfold check_Range check_way check_Node check_span
  simp only [num_In_sp, Option.bind_some, bif_id, bif_and]
  have e1 : w64 (e - 1) = e - 1 ∨ e = -9223372036854775808 ∧ w64 (e - 1) = 9223372036854775807 := by
    by_cases h : e = -9223372036854775808
    · subst h; exact .inr ⟨rfl, by decide⟩
    · exact .inl (w64' ⟨by have := he.1; omega, by have := he.2; omega⟩)
  rcases e1 with e1 | ⟨rfl, e1⟩
  · rw [e1]
    congr 1
    rw [Bool.eq_iff_iff]
    simp only [Bool.and_eq_true, decide_eq_true_eq, Bool.not_eq_true', decide_eq_false_iff_not, rOk, and_true]
    omega
  · rw [e1]
    congr 1
    rw [Bool.eq_iff_iff]
    simp only [Bool.and_eq_true, decide_eq_true_eq, Bool.not_eq_true', decide_eq_false_iff_not, rOk, and_true]
    omega
theorem one64 : In64 1 := by constructor <;> decide
theorem max64 : In64 2147483647 := by constructor <;> decide
theorem mx_one (r : Int) : mx r 1 = max r 1 := by
  unfold mx
  split <;> omega
theorem right_sp (k : Nat) {d : GDirective} (he : In64 d.2.2.2.2.2.2.1) (hx : In64 d.2.2.2.2.2.2.2.2.2.2.2.1) : direct_Right k d = some (dR d) := by
  obtain ⟨o, q, i, f, t, s, e, r, p, u, v, x, y⟩ := d
  simp only at he hx
  simp only [dR]
  unfold direct_Right direct_may
  simp only [contact_sp k he, contact_sp k one64, range_sp k hx, range_sp k max64, Option.bind_some, bif_id, bif_and]
  by_cases hp : (o, q) ∈ fKsG
  · simp only [fKsG, List.mem_cons, List.not_mem_nil, or_false, Prod.mk.injEq] at hp
    rcases hp with ⟨rfl, rfl⟩ | ⟨rfl, rfl⟩ | ⟨rfl, rfl⟩ | ⟨rfl, rfl⟩ | ⟨rfl, rfl⟩ | ⟨rfl, rfl⟩
    · simp [rightB, zR, bif_and, zb]
    · simp [rightB, zR, bif_and, mx_one, zb]
      rw [Bool.eq_iff_iff]
      simp only [Bool.and_eq_true, decide_eq_true_eq]
      constructor
      · rintro ⟨⟨⟨rfl, rfl, rfl, rfl, rfl⟩, ⟨rfl, rfl, rfl, rfl, rfl⟩⟩, h2⟩; exact ⟨⟨rfl, rfl, rfl, rfl, rfl⟩, ⟨rfl, rfl, rfl, rfl, rfl⟩, h2⟩
      · rintro ⟨⟨rfl, rfl, rfl, rfl, rfl⟩, ⟨rfl, rfl, rfl, rfl, rfl⟩, h2⟩; exact ⟨⟨⟨rfl, rfl, rfl, rfl, rfl⟩, ⟨rfl, rfl, rfl, rfl, rfl⟩⟩, h2⟩
    · simp [rightB, zR, bif_and, zb]
      rw [Bool.eq_iff_iff]
      simp only [Bool.and_eq_true, decide_eq_true_eq]
      constructor
      · rintro ⟨⟨h1, h3⟩, h2⟩; exact ⟨h3, h1, h2⟩
      · rintro ⟨h1, h3, h2⟩; exact ⟨⟨h3, h1⟩, h2⟩
    · simp [rightB, zC, bif_and, zb]
    · simp [rightB, zC, bif_and, zb]
      rw [Bool.eq_iff_iff]
      simp only [Bool.and_eq_true, decide_eq_true_eq]
      constructor
      · rintro ⟨⟨h1, rfl, rfl⟩, h2⟩; exact ⟨h1, ⟨rfl, rfl⟩, h2⟩
      · rintro ⟨h1, ⟨rfl, rfl⟩, h2⟩; exact ⟨⟨h1, rfl, rfl⟩, h2⟩
    · simp [rightB, zC, bif_and, zb, Bool.and_assoc]
  · simp only [fKsG, List.mem_cons, List.not_mem_nil, or_false, Prod.mk.injEq, not_or, not_and] at hp
    have hb : rightB o q i f t s e r p u v x y = false := by
      unfold rightB
      by_cases q1 : q = 1
      · have h1 : o ≠ 1 := fun h => hp.1 h q1
        have h2 : o ≠ 2 := fun h => hp.2.1 h q1
        have h3 : o ≠ 3 := fun h => hp.2.2.1 h q1
        simp [q1, h1, h2, h3]
      · by_cases q2 : q = 2
        · have h1 : o ≠ 1 := fun h => hp.2.2.2.1 h q2
          have h2 : o ≠ 2 := fun h => hp.2.2.2.2.1 h q2
          have h3 : o ≠ 3 := fun h => hp.2.2.2.2.2 h q2
          simp [q2, h1, h2, h3]
        · simp [q1, q2]
    rw [hb]
    have n1 : (decide (o = 1) && decide (q = 1)) = false := by rw [← Bool.decide_and]; exact decide_eq_false fun h => hp.1 h.1 h.2
    have n2 : (decide (o = 2) && decide (q = 1)) = false := by rw [← Bool.decide_and]; exact decide_eq_false fun h => hp.2.1 h.1 h.2
    have n3 : (decide (o = 3) && decide (q = 1)) = false := by rw [← Bool.decide_and]; exact decide_eq_false fun h => hp.2.2.1 h.1 h.2
    have n4 : (decide (o = 1) && decide (q = 2)) = false := by rw [← Bool.decide_and]; exact decide_eq_false fun h => hp.2.2.2.1 h.1 h.2
    have n5 : (decide (o = 2) && decide (q = 2)) = false := by rw [← Bool.decide_and]; exact decide_eq_false fun h => hp.2.2.2.2.1 h.1 h.2
    have n6 : (decide (o = 3) && decide (q = 2)) = false := by rw [← Bool.decide_and]; exact decide_eq_false fun h => hp.2.2.2.2.2 h.1 h.2
    simp only [n1, n2, n3, n4, n5, n6, cond_false]
def vals : GDirective → List Int := fun (o, q, i, f, t, s, e, r, p, u, v, x, y) =>
  if q = 1 then (if o = 1 then [i, f, t, s, e, r] else if o = 2 then [i] else [i, r]) else if o = 1 then [p, u, v, x, y] else if o = 2 then [p, u, v] else [p, u, v, y]
def tB (n : Int) : ByteArray := ofL (itoaK n)
def wordsB (d : GDirective) : List ByteArray := ofL (opB d.1) :: ofL (kdB d.2.1) :: (vals d).map tB
def mkD : Int × Int → List Int → GDirective
  | (1, 1), [a, b, c, d, e, f] => (1, 1, a, b, c, d, e, f, 0, 0, 0, 0, 0)
  | (2, 1), [a] => (2, 1, a, 0, 0, 0, 0, 0, 0, 0, 0, 0, 0)
  | (3, 1), [a, b] => (3, 1, a, 0, 0, 0, 0, b, 0, 0, 0, 0, 0)
  | (1, 2), [a, b, c, d, e] => (1, 2, 0, 0, 0, 0, 0, 0, a, b, c, d, e)
  | (2, 2), [a, b, c] => (2, 2, 0, 0, 0, 0, 0, 0, a, b, c, 0, 0)
  | (3, 2), [a, b, c, d] => (3, 2, 0, 0, 0, 0, 0, 0, a, b, c, 0, d)
  | _, _ => (0, 0, 0, 0, 0, 0, 0, 0, 0, 0, 0, 0, 0)
abbrev d0 : GDirective := (0, 0, 0, 0, 0, 0, 0, 0, 0, 0, 0, 0, 0)
def pn : List ByteArray → Option (List Int)
  | [] => some []
  | s :: r => match parseI s.data.toList 2147483647 with
    | (n, true) => (pn r).map (n :: ·)
    | (_, false) => none
def outD (d : GDirective) : GDirective × Int := bif dR d then (d, 0) else (d0, 1)
def parseB (l : List ByteArray) : GDirective × Int := match fKsG.find? (hit l) with
  | none => (d0, 2)
  | some p => bif decide ((l.length : Int) = 2 + nOf p) then (match pn (l.drop 2) with
    | none => (d0, 2)
    | some ns => outD (mkD p ns)) else (d0, 2)
theorem dR_pair {d : GDirective} (h : dR d = true) : (d.1, d.2.1) ∈ fKsG := by
  obtain ⟨o, q, i, f, t, s, e, r, p, u, v, x, y⟩ := d
  simp only [dR] at h
  refine Classical.byContradiction fun hp => ?_
  simp only [fKsG, List.mem_cons, List.not_mem_nil, or_false, Prod.mk.injEq, not_or, not_and] at hp
  unfold rightB at h
  by_cases q1 : q = 1
  · have h1 : o ≠ 1 := fun h => hp.1 h q1
    have h2 : o ≠ 2 := fun h => hp.2.1 h q1
    have h3 : o ≠ 3 := fun h => hp.2.2.1 h q1
    simp [q1, h1, h2, h3] at h
  · by_cases q2 : q = 2
    · have h1 : o ≠ 1 := fun h => hp.2.2.2.1 h q2
      have h2 : o ≠ 2 := fun h => hp.2.2.2.2.1 h q2
      have h3 : o ≠ 3 := fun h => hp.2.2.2.2.2 h q2
      simp [q2, h1, h2, h3] at h
    · simp [q1, q2] at h
theorem dR_shape {d : GDirective} (h : dR d = true) : mkD (d.1, d.2.1) (vals d) = d ∧ (∀ n ∈ vals d, 0 ≤ n ∧ n ≤ 2147483647) ∧ ((vals d).length : Int) = nOf (d.1, d.2.1) := by
  have hp := dR_pair h
  obtain ⟨o, q, i, f, t, s, e, r, p, u, v, x, y⟩ := d
  simp only [dR] at h
  simp only [fKsG, List.mem_cons, List.not_mem_nil, or_false, Prod.mk.injEq] at hp
  rcases hp with ⟨rfl, rfl⟩ | ⟨rfl, rfl⟩ | ⟨rfl, rfl⟩ | ⟨rfl, rfl⟩ | ⟨rfl, rfl⟩ | ⟨rfl, rfl⟩
  · simp [rightB, zR] at h
    obtain ⟨⟨rfl, rfl, rfl, rfl, rfl⟩, h⟩ := h
    simp only [cOk, decide_eq_true_eq] at h
    refine ⟨rfl, ?_, rfl⟩
    simp [vals]
    omega
  · simp [rightB, zR] at h
    obtain ⟨⟨rfl, rfl, rfl, rfl, rfl⟩, ⟨rfl, rfl, rfl, rfl, rfl⟩, h⟩ := h
    simp only [cOk, decide_eq_true_eq] at h
    refine ⟨rfl, ?_, rfl⟩
    simp [vals]
    omega
  · simp [rightB, zR] at h
    obtain ⟨⟨rfl, rfl, rfl, rfl, rfl⟩, ⟨rfl, rfl, rfl, rfl⟩, h⟩ := h
    simp only [cOk, decide_eq_true_eq] at h
    refine ⟨rfl, ?_, rfl⟩
    simp [vals]
    omega
  · simp [rightB, zC] at h
    obtain ⟨⟨rfl, rfl, rfl, rfl, rfl, rfl⟩, h⟩ := h
    simp only [rOk, decide_eq_true_eq] at h
    refine ⟨rfl, ?_, rfl⟩
    simp [vals]
    omega
  · simp [rightB, zC] at h
    obtain ⟨⟨rfl, rfl, rfl, rfl, rfl, rfl⟩, ⟨rfl, rfl⟩, h⟩ := h
    simp only [rOk, decide_eq_true_eq] at h
    refine ⟨rfl, ?_, rfl⟩
    simp [vals]
    omega
  · simp [rightB, zC] at h
    obtain ⟨⟨rfl, rfl, rfl, rfl, rfl, rfl⟩, rfl, h⟩ := h
    simp only [rOk, decide_eq_true_eq] at h
    refine ⟨rfl, ?_, rfl⟩
    simp [vals]
    omega
theorem tB_data {n : Int} (h0 : 0 ≤ n) (h1 : n ≤ 2147483647) : (tB n).data.toList = itoa n := by
  unfold tB
  rw [data_ofL, itoaK_eq (by omega) (by omega)]
theorem bytes_eq {a b : ByteArray} (h : a.data.toList = b.data.toList) : a = b := by rw [← ofL_data a, ← ofL_data b, h]
theorem pn_text : ∀ {l : List ByteArray} {ns : List Int}, pn l = some ns → l = ns.map tB ∧ ∀ n ∈ ns, 0 ≤ n ∧ n ≤ 2147483647
  | [], ns, h => by
    obtain rfl : [] = ns := Option.some.inj h
    exact ⟨rfl, fun n hn => by cases hn⟩
  | s :: r, ns, h => by
    rw [pn] at h
    cases hp : parseI s.data.toList 2147483647 with
    | mk n b =>
      rw [hp] at h
      cases b with
      | false => cases h
      | true =>
        obtain ⟨ms, h1, rfl⟩ := Option.map_eq_some_iff.1 h
        obtain ⟨g1, g2, g3, g4⟩ := parse_true hp
        obtain ⟨e1, e2⟩ := pn_text h1
        refine ⟨?_, fun m hm => ?_⟩
        · rw [List.map_cons, ← e1, show tB n = s from bytes_eq (by rw [tB_data g1 g2, g4])]
        · rcases List.mem_cons.1 hm with rfl | hm
          · exact ⟨g1, g2⟩
          · exact e2 m hm
theorem pn_len {l : List ByteArray} {ns : List Int} (h : pn l = some ns) : ns.length = l.length := by rw [(pn_text h).1]; simp
theorem nOf_pos (p : Int × Int) : 1 ≤ nOf p ∧ nOf p ≤ 6 := by unfold nOf; split <;> omega
theorem mkD_vals {p : Int × Int} (hp : p ∈ fKsG) {ns : List Int} (h : (ns.length : Int) = nOf p) : vals (mkD p ns) = ns ∧ (mkD p ns).1 = p.1 ∧ (mkD p ns).2.1 = p.2 := by
  simp only [fKsG, List.mem_cons, List.not_mem_nil, or_false] at hp
  rcases hp with rfl | rfl | rfl | rfl | rfl | rfl
  · match ns, (show ns.length = 6 from by simpa [nOf] using (by omega : (ns.length : Int) = 6 → ns.length = 6) h) with
    | [a, b, c, d, e, f], _ => exact ⟨rfl, rfl, rfl⟩
  · match ns, (show ns.length = 1 from by simpa [nOf] using (by omega : (ns.length : Int) = 1 → ns.length = 1) h) with
    | [a], _ => exact ⟨rfl, rfl, rfl⟩
  · match ns, (show ns.length = 2 from by simpa [nOf] using (by omega : (ns.length : Int) = 2 → ns.length = 2) h) with
    | [a, b], _ => exact ⟨rfl, rfl, rfl⟩
  · match ns, (show ns.length = 5 from by simpa [nOf] using (by omega : (ns.length : Int) = 5 → ns.length = 5) h) with
    | [a, b, c, d, e], _ => exact ⟨rfl, rfl, rfl⟩
  · match ns, (show ns.length = 3 from by simpa [nOf] using (by omega : (ns.length : Int) = 3 → ns.length = 3) h) with
    | [a, b, c], _ => exact ⟨rfl, rfl, rfl⟩
  · match ns, (show ns.length = 4 from by simpa [nOf] using (by omega : (ns.length : Int) = 4 → ns.length = 4) h) with
    | [a, b, c, d], _ => exact ⟨rfl, rfl, rfl⟩
theorem parse_cases (l : List ByteArray) : parseB l = (d0, 2) ∨ parseB l = (d0, 1) ∨ ∃ d, parseB l = (d, 0) ∧ dR d = true ∧ wordsB d = l := by
  cases hf : fKsG.find? (hit l) with
  | none => left; unfold parseB; rw [hf]
  | some p =>
    have hp := List.mem_of_find?_eq_some hf
    have hh := List.find?_some hf
    by_cases hl : (l.length : Int) = 2 + nOf p
    · cases hn : pn (l.drop 2) with
      | none => left; unfold parseB; rw [hf]; simp only [hn, decide_eq_true hl, cond_true]
      | some ns =>
        have hpos := nOf_pos p
        have hlen : (ns.length : Int) = nOf p := by rw [pn_len hn, List.length_drop]; omega
        obtain ⟨v1, v2, v3⟩ := mkD_vals hp hlen
        have he : parseB l = outD (mkD p ns) := by unfold parseB; rw [hf]; simp only [hn, decide_eq_true hl, cond_true]
        rw [he]
        unfold outD
        cases hr : dR (mkD p ns) with
        | false => right; left; rfl
        | true =>
          right; right
          refine ⟨mkD p ns, rfl, hr, ?_⟩
          simp only [hit, Bool.and_eq_true, beq_iff_eq] at hh
          obtain ⟨_, g1, g2⟩ := hh
          match l, hl, hn, g1, g2 with
          | [], hl, _, _, _ => simp at hl; omega
          | [a], hl, _, _, _ => simp at hl; omega
          | a :: b :: rest, hl, hn, g1, g2 =>
            simp only [List.drop_succ_cons, List.drop_zero] at hn
            simp only [List.getD_cons_zero, List.getD_cons_succ] at g1 g2
            unfold wordsB
            rw [v1, v2, v3, ← g1, ← g2, ofL_data, ofL_data, (pn_text hn).1]
    · left; unfold parseB; rw [hf]; simp only [decide_eq_false hl, cond_false]
end Go.Proofs.YthlhbnaloefncaaGreatDoor.Ex.Tx
namespace Go.Proofs.YthlhbnaloefncaaGreatDoor.Ex.Tx
open Go Go.RowKit Go.Lib Go.Proofs.YthlhbnaloefncaaGreatDoor.Dig
set_option linter.unusedVariables false
set_option linter.unusedSimpArgs false
theorem num_Parse_sp (k : Nat) {s : ByteArray} (hs : s.size ≤ 9223372036854775807) : num_Parse k (s, 2147483647) = some (parseI s.data.toList 2147483647) := by
  unfold num_Parse
  rw [decide_eq_true hs]
  rfl
theorem e01 : w64 (0 + 1) = 1 := by decide
theorem e11 : w64 (1 + 1) = 2 := by decide
theorem e21 : w64 (2 + 1) = 3 := by decide
theorem e31 : w64 (3 + 1) = 4 := by decide
theorem e41 : w64 (4 + 1) = 5 := by decide
theorem e20 : w64 (2 + 0) = 2 := by decide
theorem e22 : w64 (2 + 2) = 4 := by decide
theorem e23 : w64 (2 + 3) = 5 := by decide
theorem e24 : w64 (2 + 4) = 6 := by decide
theorem e25 : w64 (2 + 5) = 7 := by decide
theorem pn_nil : pn [] = some [] := rfl
theorem pn_cons (s : ByteArray) (r : List ByteArray) : pn (s :: r) = bif (parseI s.data.toList 2147483647).2 then (pn r).map ((parseI s.data.toList 2147483647).1 :: ·) else none := by
  rw [pn]
  cases parseI s.data.toList 2147483647 with | mk n b => cases b <;> rfl
theorem parseI_64 {s : ByteArray} (h : (parseI s.data.toList 2147483647).2 = true) : In64 (parseI s.data.toList 2147483647).1 := by
  obtain ⟨h1, h2, _, _⟩ := parse_true (l := s.data.toList) (high := 2147483647) (n := (parseI s.data.toList 2147483647).1) (Prod.ext rfl h)
  exact ⟨by omega, by omega⟩
theorem zero64 : In64 0 := by constructor <;> decide
theorem outD_eq (k : Nat) {d : GDirective} (he : In64 d.2.2.2.2.2.2.1) (hx : In64 d.2.2.2.2.2.2.2.2.2.2.2.1) : ((direct_Right k d).bind fun b => bif b then some (d, (0 : Int)) else some (d0, 1)) = some (outD d) := by
  rw [right_sp k he hx]
  unfold outD
  cases dR d <;> rfl
theorem parse_sp (k : Nat) {l : List ByteArray} (hs : ∀ a ∈ l, a.size ≤ 9223372036854775807) : direct_Parse k l = some (parseB l) := by
  unfold direct_Parse direct_find parseB
  cases hf : fKsG.find? (hit l) with
  | none => rfl
  | some p =>
    have hp := List.mem_of_find?_eq_some hf
    clear hf
    simp only [Option.bind_some]
    by_cases hl : (l.length : Int) = 2 + nOf p
    · rw [decide_eq_true hl]
      simp only [fKsG, List.mem_cons, List.not_mem_nil, or_false] at hp
      rcases hp with rfl | rfl | rfl | rfl | rfl | rfl
      · match l, (show l.length = 8 from by simp only [nOf] at hl; omega), hs with
        | [a, b, c0, c1, c2, c3, c4, c5], _, hs =>
          have lens : ∀ z ∈ [c0, c1, c2, c3, c4, c5], ∀ h : Int, num_Parse k (z, 2147483647) = some (parseI z.data.toList 2147483647) := fun z hz _ => num_Parse_sp k (hs z (by simp at hz ⊢; right; right; exact hz))
          simp only [(by decide : decide ((2 : Int) < ((8 : Nat) : Int)) = true), (by decide : decide ((3 : Int) < ((8 : Nat) : Int)) = true), (by decide : decide ((4 : Int) < ((8 : Nat) : Int)) = true), (by decide : decide ((5 : Int) < ((8 : Nat) : Int)) = true), (by decide : decide ((6 : Int) < ((8 : Nat) : Int)) = true), (by decide : decide ((7 : Int) < ((8 : Nat) : Int)) = true), e01, e11, e21, e31, e41, e20, e22, e23, e24, e25, Int.ofNat_eq_natCast, List.length_cons, List.length_nil, cond_true, Option.bind_some, List.getD_cons_succ, List.getD_cons_zero, List.drop_succ_cons, List.drop_zero, Int.reduceToNat, Nat.reduceAdd, decide_true, decide_false, Int.reduceLT, Int.reduceEq, Bool.and_self, Bool.and_true, Bool.and_false, cond_false, lens c0 (by simp) 0, lens c1 (by simp) 0, lens c2 (by simp) 0, lens c3 (by simp) 0, lens c4 (by simp) 0, lens c5 (by simp) 0, pn_cons, pn_nil]
          cases h0 : (parseI c0.data.toList 2147483647).2 with
          | false => simp only [h0, cond_false, cond_true, Option.map_none, Option.map_some]
          | true =>
            cases h1 : (parseI c1.data.toList 2147483647).2 with
            | false => simp only [h0, h1, cond_false, cond_true, Option.map_none, Option.map_some]
            | true =>
              cases h2 : (parseI c2.data.toList 2147483647).2 with
              | false => simp only [h0, h1, h2, cond_false, cond_true, Option.map_none, Option.map_some]
              | true =>
                cases h3 : (parseI c3.data.toList 2147483647).2 with
                | false => simp only [h0, h1, h2, h3, cond_false, cond_true, Option.map_none, Option.map_some]
                | true =>
                  cases h4 : (parseI c4.data.toList 2147483647).2 with
                  | false => simp only [h0, h1, h2, h3, h4, cond_false, cond_true, Option.map_none, Option.map_some]
                  | true =>
                    cases h5 : (parseI c5.data.toList 2147483647).2 with
                    | false => simp only [h0, h1, h2, h3, h4, h5, cond_false, cond_true, Option.map_none, Option.map_some]
                    | true =>
                      simp only [cond_true, Option.map_some]
                      exact outD_eq k (parseI_64 h4) zero64
      · match l, (show l.length = 3 from by simp only [nOf] at hl; omega), hs with
        | [a, b, c0], _, hs =>
          have lens : ∀ z ∈ [c0], ∀ h : Int, num_Parse k (z, 2147483647) = some (parseI z.data.toList 2147483647) := fun z hz _ => num_Parse_sp k (hs z (by simp at hz ⊢; right; right; exact hz))
          simp only [(by decide : decide ((2 : Int) < ((3 : Nat) : Int)) = true), e01, e11, e21, e31, e41, e20, e22, e23, e24, e25, Int.ofNat_eq_natCast, List.length_cons, List.length_nil, cond_true, Option.bind_some, List.getD_cons_succ, List.getD_cons_zero, List.drop_succ_cons, List.drop_zero, Int.reduceToNat, Nat.reduceAdd, decide_true, decide_false, Int.reduceLT, Int.reduceEq, Bool.and_self, Bool.and_true, Bool.and_false, cond_false, lens c0 (by simp) 0, pn_cons, pn_nil]
          cases h0 : (parseI c0.data.toList 2147483647).2 with
          | false => simp only [h0, cond_false, cond_true, Option.map_none, Option.map_some]
          | true =>
            simp only [cond_true, Option.map_some]
            exact outD_eq k zero64 zero64
      · match l, (show l.length = 4 from by simp only [nOf] at hl; omega), hs with
        | [a, b, c0, c1], _, hs =>
          have lens : ∀ z ∈ [c0, c1], ∀ h : Int, num_Parse k (z, 2147483647) = some (parseI z.data.toList 2147483647) := fun z hz _ => num_Parse_sp k (hs z (by simp at hz ⊢; right; right; exact hz))
          simp only [(by decide : decide ((2 : Int) < ((4 : Nat) : Int)) = true), (by decide : decide ((3 : Int) < ((4 : Nat) : Int)) = true), e01, e11, e21, e31, e41, e20, e22, e23, e24, e25, Int.ofNat_eq_natCast, List.length_cons, List.length_nil, cond_true, Option.bind_some, List.getD_cons_succ, List.getD_cons_zero, List.drop_succ_cons, List.drop_zero, Int.reduceToNat, Nat.reduceAdd, decide_true, decide_false, Int.reduceLT, Int.reduceEq, Bool.and_self, Bool.and_true, Bool.and_false, cond_false, lens c0 (by simp) 0, lens c1 (by simp) 0, pn_cons, pn_nil]
          cases h0 : (parseI c0.data.toList 2147483647).2 with
          | false => simp only [h0, cond_false, cond_true, Option.map_none, Option.map_some]
          | true =>
            cases h1 : (parseI c1.data.toList 2147483647).2 with
            | false => simp only [h0, h1, cond_false, cond_true, Option.map_none, Option.map_some]
            | true =>
              simp only [cond_true, Option.map_some]
              exact outD_eq k zero64 zero64
      · match l, (show l.length = 7 from by simp only [nOf] at hl; omega), hs with
        | [a, b, c0, c1, c2, c3, c4], _, hs =>
          have lens : ∀ z ∈ [c0, c1, c2, c3, c4], ∀ h : Int, num_Parse k (z, 2147483647) = some (parseI z.data.toList 2147483647) := fun z hz _ => num_Parse_sp k (hs z (by simp at hz ⊢; right; right; exact hz))
          simp only [(by decide : decide ((2 : Int) < ((7 : Nat) : Int)) = true), (by decide : decide ((3 : Int) < ((7 : Nat) : Int)) = true), (by decide : decide ((4 : Int) < ((7 : Nat) : Int)) = true), (by decide : decide ((5 : Int) < ((7 : Nat) : Int)) = true), (by decide : decide ((6 : Int) < ((7 : Nat) : Int)) = true), e01, e11, e21, e31, e41, e20, e22, e23, e24, e25, Int.ofNat_eq_natCast, List.length_cons, List.length_nil, cond_true, Option.bind_some, List.getD_cons_succ, List.getD_cons_zero, List.drop_succ_cons, List.drop_zero, Int.reduceToNat, Nat.reduceAdd, decide_true, decide_false, Int.reduceLT, Int.reduceEq, Bool.and_self, Bool.and_true, Bool.and_false, cond_false, lens c0 (by simp) 0, lens c1 (by simp) 0, lens c2 (by simp) 0, lens c3 (by simp) 0, lens c4 (by simp) 0, pn_cons, pn_nil]
          cases h0 : (parseI c0.data.toList 2147483647).2 with
          | false => simp only [h0, cond_false, cond_true, Option.map_none, Option.map_some]
          | true =>
            cases h1 : (parseI c1.data.toList 2147483647).2 with
            | false => simp only [h0, h1, cond_false, cond_true, Option.map_none, Option.map_some]
            | true =>
              cases h2 : (parseI c2.data.toList 2147483647).2 with
              | false => simp only [h0, h1, h2, cond_false, cond_true, Option.map_none, Option.map_some]
              | true =>
                cases h3 : (parseI c3.data.toList 2147483647).2 with
                | false => simp only [h0, h1, h2, h3, cond_false, cond_true, Option.map_none, Option.map_some]
                | true =>
                  cases h4 : (parseI c4.data.toList 2147483647).2 with
                  | false => simp only [h0, h1, h2, h3, h4, cond_false, cond_true, Option.map_none, Option.map_some]
                  | true =>
                    simp only [cond_true, Option.map_some]
                    exact outD_eq k zero64 (parseI_64 h3)
      · match l, (show l.length = 5 from by simp only [nOf] at hl; omega), hs with
        | [a, b, c0, c1, c2], _, hs =>
          have lens : ∀ z ∈ [c0, c1, c2], ∀ h : Int, num_Parse k (z, 2147483647) = some (parseI z.data.toList 2147483647) := fun z hz _ => num_Parse_sp k (hs z (by simp at hz ⊢; right; right; exact hz))
          simp only [(by decide : decide ((2 : Int) < ((5 : Nat) : Int)) = true), (by decide : decide ((3 : Int) < ((5 : Nat) : Int)) = true), (by decide : decide ((4 : Int) < ((5 : Nat) : Int)) = true), e01, e11, e21, e31, e41, e20, e22, e23, e24, e25, Int.ofNat_eq_natCast, List.length_cons, List.length_nil, cond_true, Option.bind_some, List.getD_cons_succ, List.getD_cons_zero, List.drop_succ_cons, List.drop_zero, Int.reduceToNat, Nat.reduceAdd, decide_true, decide_false, Int.reduceLT, Int.reduceEq, Bool.and_self, Bool.and_true, Bool.and_false, cond_false, lens c0 (by simp) 0, lens c1 (by simp) 0, lens c2 (by simp) 0, pn_cons, pn_nil]
          cases h0 : (parseI c0.data.toList 2147483647).2 with
          | false => simp only [h0, cond_false, cond_true, Option.map_none, Option.map_some]
          | true =>
            cases h1 : (parseI c1.data.toList 2147483647).2 with
            | false => simp only [h0, h1, cond_false, cond_true, Option.map_none, Option.map_some]
            | true =>
              cases h2 : (parseI c2.data.toList 2147483647).2 with
              | false => simp only [h0, h1, h2, cond_false, cond_true, Option.map_none, Option.map_some]
              | true =>
                simp only [cond_true, Option.map_some]
                exact outD_eq k zero64 zero64
      · match l, (show l.length = 6 from by simp only [nOf] at hl; omega), hs with
        | [a, b, c0, c1, c2, c3], _, hs =>
          have lens : ∀ z ∈ [c0, c1, c2, c3], ∀ h : Int, num_Parse k (z, 2147483647) = some (parseI z.data.toList 2147483647) := fun z hz _ => num_Parse_sp k (hs z (by simp at hz ⊢; right; right; exact hz))
          simp only [(by decide : decide ((2 : Int) < ((6 : Nat) : Int)) = true), (by decide : decide ((3 : Int) < ((6 : Nat) : Int)) = true), (by decide : decide ((4 : Int) < ((6 : Nat) : Int)) = true), (by decide : decide ((5 : Int) < ((6 : Nat) : Int)) = true), e01, e11, e21, e31, e41, e20, e22, e23, e24, e25, Int.ofNat_eq_natCast, List.length_cons, List.length_nil, cond_true, Option.bind_some, List.getD_cons_succ, List.getD_cons_zero, List.drop_succ_cons, List.drop_zero, Int.reduceToNat, Nat.reduceAdd, decide_true, decide_false, Int.reduceLT, Int.reduceEq, Bool.and_self, Bool.and_true, Bool.and_false, cond_false, lens c0 (by simp) 0, lens c1 (by simp) 0, lens c2 (by simp) 0, lens c3 (by simp) 0, pn_cons, pn_nil]
          cases h0 : (parseI c0.data.toList 2147483647).2 with
          | false => simp only [h0, cond_false, cond_true, Option.map_none, Option.map_some]
          | true =>
            cases h1 : (parseI c1.data.toList 2147483647).2 with
            | false => simp only [h0, h1, cond_false, cond_true, Option.map_none, Option.map_some]
            | true =>
              cases h2 : (parseI c2.data.toList 2147483647).2 with
              | false => simp only [h0, h1, h2, cond_false, cond_true, Option.map_none, Option.map_some]
              | true =>
                cases h3 : (parseI c3.data.toList 2147483647).2 with
                | false => simp only [h0, h1, h2, h3, cond_false, cond_true, Option.map_none, Option.map_some]
                | true =>
                  simp only [cond_true, Option.map_some]
                  exact outD_eq k zero64 zero64
    · rw [decide_eq_false hl]
      rfl
end Go.Proofs.YthlhbnaloefncaaGreatDoor.Ex.Tx
namespace Go.Proofs.YthlhbnaloefncaaGreatDoor.Ex.Tx
open Go Go.RowKit Go.Lib Go.Proofs.YthlhbnaloefncaaGreatDoor.Wrd
set_option linter.unusedVariables false
set_option linter.unusedSimpArgs false
theorem ofL_size (l : List UInt8) : (ofL l).size = l.length := by simp [ofL, ByteArray.size]
def cat (l : List (List UInt8)) : List UInt8 := l.flatMap fun x => x ++ [10]
theorem cat_split : ∀ (m : List UInt8), cat (splitF m) = m ++ [10]
  | [] => rfl
  | c :: m => by
    have ih := cat_split m
    unfold splitF
    by_cases hc : c = 10
    · rw [if_pos hc]; subst hc
      show [10] ++ cat (splitF m) = _
      rw [ih]; rfl
    · rw [if_neg hc]
      cases h : splitF m with
      | nil => exact absurd h (splitF_ne m)
      | cons x r =>
        rw [h] at ih
        show (c :: x) ++ [10] ++ cat r = _
        have : cat (x :: r) = x ++ [10] ++ cat r := rfl
        rw [this] at ih
        simp only [List.cons_append]
        rw [ih]
theorem cat_lines (s : List UInt8) : cat (linesL s) = s ∨ cat (linesL s) = s ++ [10] := by
  unfold linesL
  split
  · rename_i h; left; rw [h]; rfl
  · rename_i h
    unfold trimF
    split
    · rename_i h2
      left
      rw [cat_split]
      obtain ⟨m, hm⟩ := List.getLast?_eq_some_iff.1 h2
      rw [hm]; simp
    · right; exact cat_split s
theorem split_len : ∀ (m : List UInt8), (splitF m).length ≤ m.length + 1
  | [] => by simp [splitF]
  | c :: m => by
    have ih := split_len m
    unfold splitF
    split
    · simp only [List.length_cons]; omega
    · cases h : splitF m with
      | nil => simp
      | cons x r => rw [h] at ih; simp only [List.length_cons] at ih ⊢; omega
theorem lines_len (s : List UInt8) : (linesL s).length ≤ s.length + 1 := by
  unfold linesL
  split
  · simp
  · have h1 := split_len (trimF s)
    have h2 : (trimF s).length ≤ s.length := by unfold trimF; split <;> simp
    omega
theorem wgo_total : ∀ (l cur : List UInt8), ∀ x ∈ wgo l cur, x.length ≤ l.length + cur.length
  | [], cur, x, hx => by
    unfold wgo at hx
    split at hx
    · simp at hx
    · rw [List.mem_singleton] at hx; subst hx; simp
  | c :: l, cur, x, hx => by
    simp only [wgo] at hx
    split at hx
    · split at hx
      · have := wgo_total l [] x hx; simp at this ⊢; omega
      · rcases List.mem_cons.1 hx with rfl | hx
        · simp
        · have := wgo_total l [] x hx; simp at this ⊢; omega
    · have := wgo_total l _ x hx; simp at this ⊢; omega
theorem words_size (l : List UInt8) : ∀ x ∈ wordsL l, x.length ≤ l.length := by
  intro x hx
  have h := wgo_total _ _ x hx
  have h2 : (bare l).length ≤ l.length := (List.takeWhile_sublist _).length_le
  simp at h; omega
end Go.Proofs.YthlhbnaloefncaaGreatDoor.Ex.Tx
namespace Go.Proofs.YthlhbnaloefncaaGreatDoor.Ex.Tx
open Go Go.RowKit Go.Lib Go.Proofs.YthlhbnaloefncaaGreatDoor.Wrd Go.Proofs.YthlhbnaloefncaaGreatDoor.Dig
set_option linter.unusedVariables false
set_option linter.unusedSimpArgs false
theorem getD_nat {α : Type} (l : List α) (z : α) {j : Nat} (h : j < l.length) : l.getD ((j : Int)).toNat z = l[j] := by
  rw [Int.toNat_natCast, List.getD_eq_getElem?_getD, List.getElem?_eq_getElem h]; rfl
theorem lt_yes {i n : Nat} (h : i < n) : decide ((i : Int) < Int.ofNat n) = true := decide_eq_true (by simpa using h)
theorem lt_no {i n : Nat} (h : n ≤ i) : decide ((i : Int) < Int.ofNat n) = false := decide_eq_false (by simp; omega)
theorem ge0 (i : Nat) : decide ((0 : Int) ≤ (i : Int)) = true := decide_eq_true (by omega)
theorem w64_succ {i : Nat} (h : i ≤ 4611686018427387904) : w64 ((i : Int) + 1) = ((i + 1 : Nat) : Int) := by
  rw [w64' ⟨by omega, by omega⟩]; omega
theorem words_Words_sp (k : Nat) {l : List UInt8} (h : l.length < 4294967281) : words_Words k (ofL l) = some ((wordsL l).map ofL) := by
  unfold words_Words
  rw [decide_eq_true (by rw [ofL_size]; exact h), data_ofL]
  rfl
theorem words_Lines_sp (k : Nat) {s : ByteArray} (h : s.size < 4294967281) : words_Lines k s = some ((linesL s.data.toList).map ofL) := by
  unfold words_Lines
  rw [decide_eq_true h]
  rfl
def rowsF : Int → List (List UInt8) → List (Int × List ByteArray)
  | _, [] => []
  | i, x :: r => bif (wordsL x).isEmpty then rowsF (i + 1) r else (i, (wordsL x).map ofL) :: rowsF (i + 1) r
def rowsT (s : List UInt8) : List (Int × List ByteArray) := rowsF 1 (linesL s)
theorem rows_L0 (M : List (List UInt8)) (hM : M.length ≤ 1000000) (hs : ∀ x ∈ M, x.length ≤ 1000000) : ∀ (n i k : Nat) (out : List (Int × List ByteArray)), i + n = M.length → n < k → out.length ≤ i →
    text_rows_L0 k (out, M.map ofL, Int.ofNat (M.map ofL).length, (i : Int)) = some (.inl (out ++ rowsF ((i + 1 : Nat) : Int) (M.drop i)))
  | 0, i, k, out, h, hk, ho => by
    obtain ⟨k, rfl⟩ : ∃ m, k = m + 1 := ⟨k - 1, by omega⟩
    rw [text_rows_L0, lt_no (by rw [List.length_map]; omega), List.drop_eq_nil_of_le (by omega)]
    simp [rowsF]
  | n + 1, i, k, out, h, hk, ho => by
    obtain ⟨k, rfl⟩ : ∃ m, k = m + 1 := ⟨k - 1, by omega⟩
    have hi : i < M.length := by omega
    have hi' : i < (M.map ofL).length := by rw [List.length_map]; exact hi
    have hx := hs M[i] (List.getElem_mem hi)
    rw [text_rows_L0, lt_yes hi', ge0, getD_nat _ _ hi', List.getElem_map, words_Words_sp k (by omega), w64_succ (by omega), List.drop_eq_getElem_cons hi]
    simp only [cond_true, Option.bind_some, rowsF]
    cases hw : wordsL M[i] with
    | nil =>
      simp only [List.map_nil, List.length_nil, List.isEmpty_nil, cond_true]
      rw [show decide ((0 : Int) < Int.ofNat 0) = false from rfl, cond_false, rows_L0 M hM hs n (i + 1) k out (by omega) (by omega) (by omega)]
      rw [show (((i + 1 : Nat) : Int) + 1) = ((i + 1 + 1 : Nat) : Int) by omega]
    | cons w ws =>
      simp only [List.map_cons, List.length_cons, List.isEmpty_cons, cond_false]
      rw [show decide ((0 : Int) < Int.ofNat ((ws.map ofL).length + 1)) = true from decide_eq_true (by simp <;> omega), cond_true, decide_eq_true (by simp <;> omega), cond_true, rows_L0 M hM hs n (i + 1) k _ (by omega) (by omega) (by simp; omega)]
      rw [show (((i + 1 : Nat) : Int) + 1) = ((i + 1 + 1 : Nat) : Int) by omega]
      simp
theorem lines_each (s : List UInt8) : ∀ x ∈ linesL s, x.length ≤ s.length := by
  intro x hx
  have h : x.length + 1 ≤ (cat (linesL s)).length := by
    have : ∀ (L : List (List UInt8)), x ∈ L → x.length + 1 ≤ (cat L).length := by
      intro L
      induction L with
      | nil => intro h; cases h
      | cons y r ih =>
        intro h
        have e : (cat (y :: r)).length = y.length + 1 + (cat r).length := by simp [cat]; omega
        rcases List.mem_cons.1 h with rfl | h
        · omega
        · have := ih h; omega
    exact this _ hx
  rcases cat_lines s with h2 | h2 <;> rw [h2] at h
  · omega
  · simp at h; omega
theorem rows_sp (k : Nat) {s : ByteArray} (hs : s.size ≤ 900000) (hk : s.size + 2 < k) : text_rows k s = some (rowsT s.data.toList) := by
  have e : s.data.toList.length = s.size := by rw [Array.length_toList]; rfl
  have h1 := lines_len s.data.toList
  unfold text_rows
  rw [words_Lines_sp k (by omega), Option.bind_some, show (0 : Int) = ((0 : Nat) : Int) from rfl, rows_L0 (linesL s.data.toList) (by omega) (fun x hx => by have := lines_each _ x hx; omega) (linesL s.data.toList).length 0 k [] (by omega) (by omega) (by simp)]
  rfl
def parseS : List (Int × List ByteArray) → List GDirective → ((Int × Int) × List GDirective) ⊕ (List GDirective × (Int × Int))
  | [], acc => .inl ((0, 0), acc)
  | x :: r, acc => bif decide ((parseB x.2).2 = 0) then parseS r (acc ++ [(parseB x.2).1]) else .inr ([], (x.1, (parseB x.2).2))
def parseR (R : List (Int × List ByteArray)) : List GDirective × (Int × Int) := match parseS R [] with
  | .inl o => (o.2, (0, 0))
  | .inr o => o
theorem parse_L0 (R : List (Int × List ByteArray)) (hR : R.length ≤ 1000000) (hs : ∀ x ∈ R, ∀ a ∈ x.2, a.size ≤ 9223372036854775807) : ∀ (n i k : Nat) (acc : List GDirective), i + n = R.length → n < k → acc.length ≤ i →
    text_Parse_L0 k ((0, 0), acc, R, Int.ofNat R.length, (i : Int)) = some (parseS (R.drop i) acc)
  | 0, i, k, acc, h, hk, ho => by
    obtain ⟨k, rfl⟩ : ∃ m, k = m + 1 := ⟨k - 1, by omega⟩
    rw [text_Parse_L0, lt_no (by omega), List.drop_eq_nil_of_le (by omega)]
    rfl
  | n + 1, i, k, acc, h, hk, ho => by
    obtain ⟨k, rfl⟩ : ∃ m, k = m + 1 := ⟨k - 1, by omega⟩
    have hi : i < R.length := by omega
    rw [text_Parse_L0, lt_yes hi, ge0, getD_nat _ _ hi, parse_sp k (hs R[i] (List.getElem_mem hi)), w64_succ (by omega), List.drop_eq_getElem_cons hi]
    simp only [cond_true, Option.bind_some, parseS]
    cases hd : decide ((parseB R[i].2).2 = 0) with
    | false => rfl
    | true =>
      simp only [Bool.not_true, cond_false, cond_true]
      rw [decide_eq_true (by simp; omega), cond_true, parse_L0 R hR hs n (i + 1) k _ (by omega) (by omega) (by simp; omega)]
theorem rowsF_len : ∀ (i : Int) (M : List (List UInt8)), (rowsF i M).length ≤ M.length
  | _, [] => Nat.le_refl _
  | i, x :: r => by
    have := rowsF_len (i + 1) r
    simp only [rowsF]
    cases (wordsL x).isEmpty <;> simp <;> omega
theorem rowsF_mem : ∀ (i : Int) (M : List (List UInt8)) (x : Int × List ByteArray), x ∈ rowsF i M → ∃ (j : Nat) (y : List UInt8), M[j]? = some y ∧ x = (i + (j : Int), (wordsL y).map ofL) ∧ wordsL y ≠ []
  | _, [], x, h => by cases h
  | i, y :: r, x, h => by
    simp only [rowsF] at h
    cases hw : (wordsL y).isEmpty with
    | true =>
      rw [hw] at h
      obtain ⟨j, z, h1, h2, h3⟩ := rowsF_mem (i + 1) r x h
      exact ⟨j + 1, z, by simpa using h1, by rw [h2]; simp; omega, h3⟩
    | false =>
      rw [hw] at h
      rcases List.mem_cons.1 h with rfl | h
      · exact ⟨0, y, rfl, by simp, by intro e; rw [e] at hw; simp at hw⟩
      · obtain ⟨j, z, h1, h2, h3⟩ := rowsF_mem (i + 1) r x h
        exact ⟨j + 1, z, by simpa using h1, by rw [h2]; simp; omega, h3⟩
theorem rowsT_size (s : List UInt8) (hs : s.length ≤ 900000) : ∀ x ∈ rowsT s, ∀ a ∈ x.2, a.size ≤ 900000 := by
  intro x hx a ha
  obtain ⟨j, y, h1, rfl, _⟩ := rowsF_mem 1 _ x hx
  obtain ⟨w, hw, rfl⟩ := List.mem_map.1 ha
  rw [ofL_size]
  have := words_size y w hw
  have := lines_each s y (List.mem_of_getElem? h1)
  omega
def parseT (s : List UInt8) : List GDirective × (Int × Int) := parseR (rowsT s)
theorem text_Parse_sp (k : Nat) {s : ByteArray} (hs : s.size ≤ 900000) (hk : s.size + 2 < k) : text_Parse k s = some (parseT s.data.toList) := by
  have e : s.data.toList.length = s.size := by rw [Array.length_toList]; rfl
  have h1 := lines_len s.data.toList
  have h2 : (rowsT s.data.toList).length ≤ (linesL s.data.toList).length := rowsF_len _ _
  unfold text_Parse
  rw [rows_sp k hs hk, Option.bind_some, show (0 : Int) = ((0 : Nat) : Int) from rfl]
  have := parse_L0 (rowsT s.data.toList) (by omega) (fun x hx a ha => by have := rowsT_size _ (by omega) x hx a ha; omega) (rowsT s.data.toList).length 0 k [] (by omega) (by omega) (by simp)
  rw [show ((0, 0) : Int × Int) = (((0 : Nat) : Int), ((0 : Nat) : Int)) from rfl] at this
  rw [this, List.drop_zero, Option.bind_some]
  unfold parseT parseR
  cases parseS (rowsT s.data.toList) [] <;> rfl
theorem lines_L0 (R : List (Int × List ByteArray)) (hR : R.length ≤ 1000000) : ∀ (n i k : Nat) (acc : List Int), i + n = R.length → n < k → acc.length ≤ i →
    text_Lines_L0 k (acc, R, Int.ofNat R.length, (i : Int)) = some (.inl (acc ++ (R.drop i).map (·.1)))
  | 0, i, k, acc, h, hk, ho => by
    obtain ⟨k, rfl⟩ : ∃ m, k = m + 1 := ⟨k - 1, by omega⟩
    rw [text_Lines_L0, lt_no (by omega), List.drop_eq_nil_of_le (by omega)]
    simp
  | n + 1, i, k, acc, h, hk, ho => by
    obtain ⟨k, rfl⟩ : ∃ m, k = m + 1 := ⟨k - 1, by omega⟩
    have hi : i < R.length := by omega
    rw [text_Lines_L0, lt_yes hi, ge0, getD_nat _ _ hi, w64_succ (by omega), List.drop_eq_getElem_cons hi]
    simp only [cond_true, List.map_cons]
    rw [decide_eq_true (by simp; omega), cond_true, lines_L0 R hR n (i + 1) k _ (by omega) (by omega) (by simp; omega)]
    simp
theorem text_Lines_sp (k : Nat) {s : ByteArray} (hs : s.size ≤ 900000) (hk : s.size + 2 < k) : text_Lines k s = some ((rowsT s.data.toList).map (·.1)) := by
  have e : s.data.toList.length = s.size := by rw [Array.length_toList]; rfl
  have h1 := lines_len s.data.toList
  have h2 : (rowsT s.data.toList).length ≤ (linesL s.data.toList).length := rowsF_len _ _
  unfold text_Lines
  rw [rows_sp k hs hk, Option.bind_some, show (0 : Int) = ((0 : Nat) : Int) from rfl, lines_L0 (rowsT s.data.toList) (by omega) (rowsT s.data.toList).length 0 k [] (by omega) (by omega) (by simp)]
  simp
end Go.Proofs.YthlhbnaloefncaaGreatDoor.Ex.Tx
