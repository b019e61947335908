/- words.Words: the walk of its loop over the signs of a line. -/
import Derived.Test.YtaknikdbnfmlfaaDoorProg
import Derived.Test.YtaknikdbnfmlfaaDoorWrd
import Derived.Test.YtaknikdbnfmlfaaDoorMax
import Derived.Test.YtaknikdbnfmlfaaDoorShelf
import Derived.Below
import Derived.Deep.Draws
import Derived.OwnWalk
import Derived.WalkKit
import Derived.KernelRfl
import Derived.RowKit3
import Derived.Deep.LoopGhost
import Derived.Deep.CutBlock
import Derived.Deep.QuietTactic
import Derived.BigQuiet
import Derived.WideLaws
import Derived.Lib.OthersKept
import Derived.Lib.Hide
import Derived.Deep.DeepMust
import Derived.Laws.OwnMore
import Derived.WalkSmall
import Derived.Deep.AppendLies
import Derived.Maps.AppendAt
import Derived.Laws.BytesArg
import Derived.Laws.MakeOwn
import Derived.Deep.OwnRows
import Derived.Tactics
import Derived.Lib.ConvBytes
import Derived.Laws.Slices
import Derived.Deep.DeepCutAuto
import Derived.Deep.RegionHeld3
import Derived.Laws.Rows
import Derived.Lib.AppendStr
import Derived.ArgAppend
import Derived.Laws.IdiomCopy
import Derived.OrdersHeld
import Derived.Laws.BitsLemmas
import Derived.RowKit
import Derived.Laws.Strings2
import Derived.Laws.Strings3
namespace Go.Proofs.YtaknikdbnfmlfaaDoor.WordsA
open Go.RowKit Go.Proofs.YtaknikdbnfmlfaaDoor.Wrd Go.Proofs.YtaknikdbnfmlfaaDoor.Pr

theorem info9 : (Tryd.prog.info? 9).map (fun i => (i.zero, i.size, i.bytes)) = some (some (.string ⟨#[]⟩), 1, 16) := by kernel_rfl

theorem blank_calls (r : Nat) (b : Bool) (hr : r ≤ 2147483647) (h : (decide (r = 32) || (decide (r = 9) || decide (r = 13))) = b) (w : World) :
    Calls Tryd.prog 72 #[.int .i32 (r : Int)] w fun e w' => e = .returned (.bool b) ∧ w = w' := by
  go_enter Tryd.func72, Tryd.ntmps72
  by_cases h1 : r = 32
  · subst h1
    go_wp2
    go_ret
    exact ⟨by rw [← h]; rfl, rfl⟩
  · have b1 : ((r : Int) == 32) = false := beq_eq_false_iff_ne.2 (by omega)
    by_cases h2 : r = 9
    · subst h2
      go_wp2
      go_ret
      exact ⟨by rw [← h]; rfl, rfl⟩
    · have b2 : ((r : Int) == 9) = false := beq_eq_false_iff_ne.2 (by omega)
      have e : b = decide (r = 13) := by rw [← h]; simp [h1, h2]
      subst e
      have b3 : ((r : Int) == 13) = decide (r = 13) := by
        by_cases h3 : r = 13
        · subst h3; rfl
        · rw [decide_eq_false h3]; exact beq_eq_false_iff_ne.2 (by omega)
      clear h h1 h2
      go_wp2
      go_ret
      exact ⟨rfl, rfl⟩

theorem own_iterAt {w : World} {B e size n : Nat} {v : Value} {xs : List Value} {k : Nat} {s : ByteArray} {pos : Nat} (h : w.ownsRow B e size v n xs) (hk : w.heap[k]? = some (.stringIter s pos)) (pos' : Nat) : (w.iterAt k s pos').ownsRow B e size v n xs := by
  refine ⟨h.1, ?_⟩
  rcases h.2 with h0 | ⟨g, cap, cur, hv, hb, hg, rest⟩
  · exact .inl h0
  · refine .inr ⟨g, cap, cur, hv, hb, ?_, rest⟩
    rw [Lib.iterAt_other _ _ _ _ _ (fun e => by subst e; rw [hk] at hg; cases hg)]
    exact hg

theorem own_ne_iter {w : World} {B e size n : Nat} {v : Value} {xs : List Value} {k : Nat} {s : ByteArray} {pos : Nat} (h : w.ownsRow B e size v n xs) (hk : w.heap[k]? = some (.stringIter s pos)) : some k ≠ v.ownBlock := by
  rcases h.2 with ⟨rfl, _⟩ | ⟨g, cap, cur, rfl, hb, hg, rest⟩
  · simp [Value.ownBlock]
  · intro e
    simp only [Value.ownBlock, Option.some.injEq] at e
    subst e
    rw [hk] at hg
    cases hg

theorem byte_bare : ∀ (l : List UInt8), (Lib.indexByte l 35 = -1 ∧ bare l = l) ∨ ∃ n : Nat, Lib.indexByte l 35 = n ∧ bare l = l.take n
  | [] => .inl ⟨rfl, rfl⟩
  | c :: l => by
    by_cases hc : c = 35
    · subst hc
      exact .inr ⟨0, by simp [Lib.indexByte], by simp [bare]⟩
    · have e : bare (c :: l) = c :: bare l := by simp [bare, hc]
      rcases byte_bare l with ⟨h1, h2⟩ | ⟨n, h1, h2⟩
      · exact .inl ⟨by simp [Lib.indexByte, hc, h1], by rw [e, h2]⟩
      · refine .inr ⟨n + 1, ?_, by rw [e, h2]; rfl⟩
        have h3 : ¬ ((n : Int) = -1) := by omega
        simp [Lib.indexByte, hc, h1, h3]

theorem cut_bare (l : List UInt8) : (Lib.cut l [35]).1 = bare l := by
  unfold Lib.cut
  rw [Lib.index_one]
  rcases byte_bare l with ⟨h1, h2⟩ | ⟨n, h1, h2⟩
  · rw [h1, if_neg (by omega), h2]
  · rw [h1, if_pos (by omega), h2]; rfl

theorem cell_one_new (w : World) (x : Value) (t : TypeId) : ∀ j u, [x][j]? = some u → (w.alloc (.cells #[x] t)).cell? ((⟨w.heap.size, 0, none⟩ : Addr).add j) = some u := by
  intro j u hj
  match j, hj with
  | 0, hj => simp at hj; subst hj; simp [Addr.add]
  | (j + 1), hj => simp at hj

/-- What words.Words leaves behind: a row of its own of the line's words. -/
def WordsPost (s : ByteArray) (w : World) (e : Ending) (w' : World) : Prop := ∃ (v : Value) (outs : List ByteArray), e = .returned v ∧ (outs.map fun x => x.data.toList) = wordsL s.data.toList ∧
      w'.ownsRow w.heap.size 9 1 v outs.length (outs.map Value.string) ∧ Below w.heap.size w w'

theorem below_drewN' {B : Nat} {a w : World} (h : Below B a w) (q : Nat) : Below B a (w.drewN q) := ⟨h.os, h.tape, h.output, h.size, h.block⟩

theorem Cut_calls (s : ByteArray) (w : World) (hs : s.size < 4294967281) (hm : MaxP w) :
    Calls Tryd.prog 71 #[.string s, .string (⟨#[35]⟩ : ByteArray)] w fun e w' => ∃ (t x : ByteArray) (b : Bool) (q : Nat), e = .returned (.tuple #[.string t, .string x, .bool b]) ∧ t.data.toList = bare s.data.toList ∧ w' = w.drewN q := by
  obtain ⟨m, hm⟩ := hm
  refine (Tryd.strings_Cut s ⟨#[35]⟩ m w hs hm).mono ?_
  rintro e w' ⟨rfl, q, rfl⟩
  exact ⟨_, _, _, q, rfl, by rw [← cut_bare], rfl⟩

set_option maxHeartbeats 4000000 in
set_option maxRecDepth 100000 in
theorem Words_calls (s : ByteArray) (w : World) (hs : s.size < 4294967281) (hm : MaxP w) :
    Calls Tryd.prog 40 #[.string s] w (WordsPost s w) := by
  obtain ⟨i0, hi, hz0, hz1, hz2⟩ := info_parts info9
  go_enter Tryd.func40, Tryd.ntmps40
  go_wp2_with (go_at_call 71; refine (Cut_calls _ _ hs hm).mono ?_; rintro e w' ⟨t, x, b, q0, rfl, ht, rfl⟩)
  have HT : Hid (wgo t.data.toList [] = wordsL s.data.toList) := Lib.hid (by rw [ht]; rfl)
  have hts : t.size ≤ s.size := by
    have h1 := congrArg List.length ht
    have h2 : (bare s.data.toList).length ≤ s.data.toList.length := (List.takeWhile_sublist _).length_le
    simp at h1 h2
    omega
  clear ht
  go_loopg [2, 3] t.size (fun gf v2 v3 wx => ∃ (pos : Nat) (st : Option Nat) (outs : List ByteArray) (z : Int), v3 = .int .i64 z ∧ (st = none → z < 0) ∧ (∀ a, st = some a → z = (a : Int)) ∧ -9223372036854775808 ≤ z ∧
      wx.ownsRow w.heap.size 9 1 v2 outs.length (outs.map Value.string) ∧ wx.heap[w.heap.size]? = some (.stringIter t pos) ∧ Below w.heap.size w wx ∧ Fnd t outs st pos ∧ pos ≤ t.size ∧ t.size = pos + gf ∧ outs.length ≤ pos ∧ (∀ a, st = some a → a < pos))
  case atStart => exact ⟨0, none, [], -1, rfl, fun _ => by omega, (fun a h => by cases h), by omega, ⟨rfl, .inl ⟨rfl, rfl⟩⟩, World.iter_heap (w.drewN q0) t 0, (below_drewN' (Below.refl _ w) q0).alloc (Nat.le_refl _) _, fnd_start t, Nat.zero_le _, by omega, Nat.le_refl _, (fun a h => by cases h)⟩
  case round =>
    obtain ⟨pos, st, outs, z, rfl, hzn, hzs, hzl, hown, hit, hbw, hF, hps, hfu, hal, hst⟩ := hrel
    by_cases hlt : pos < t.size
    · obtain ⟨R, hR⟩ : ∃ R, (Utf8.decode t pos).1 = R := ⟨_, rfl⟩
      obtain ⟨K, hK⟩ : ∃ K, (Utf8.decode t pos).2 = K := ⟨_, rfl⟩
      have hRle : R ≤ 2147483647 := hR ▸ decode_le t pos
      have hnx : ∀ ty, (Instr.next (.pointer (some ⟨w.heap.size, 0, none⟩)) true ty).run Tryd.prog wr = _ := fun ty => Lib.run_next_any_at wr w.heap.size t pos ty hit hlt
      rw [hR, hK] at hnx
      have hK1 : 1 ≤ K := hK ▸ Lib.width_pos t pos
      have hit2 := Lib.iterAt_heap wr w.heap.size t pos (pos + K) hit
      have hbw2 := Lib.below_iterAt hbw (k := w.heap.size) (Nat.le_refl _) t (pos + K)
      have hown2 := own_iterAt hown hit (pos + K)
      have hkind : (pos + K ≤ t.size ∧ (decide (R = 32) || (decide (R = 9) || decide (R = 13))) = false ∧ ∀ c ∈ sub t pos (pos + K), blk c = false) ∨ (K = 1 ∧ (decide (R = 32) || (decide (R = 9) || decide (R = 13))) = true ∧ blk (t[pos]'hlt) = true) := by
        by_cases ha : (t[pos]'hlt).toNat < 128
        · have hd := decode_ascii t pos hlt ha
          rw [hd] at hR hK
          have hR' : R = (t[pos]'hlt).toNat := hR.symm
          have hK' : K = 1 := hK.symm
          subst hK'
          cases hb : blk (t[pos]'hlt) with
          | true =>
            refine .inr ⟨rfl, ?_, rfl⟩
            rw [hR']
            unfold blk at hb
            simp only [Bool.or_eq_true, beq_iff_eq] at hb
            rcases hb with (hb | hb) | hb <;> rw [hb] <;> rfl
          | false =>
            refine .inl ⟨by omega, ?_, fun c hc => ?_⟩
            · unfold blk at hb
              simp only [Bool.or_eq_false_iff, beq_eq_false_iff_ne] at hb
              have n1 : R ≠ 32 := fun e => hb.1.1 (UInt8.toNat_inj.1 (by rw [← hR', e]; rfl))
              have n2 : R ≠ 9 := fun e => hb.1.2 (UInt8.toNat_inj.1 (by rw [← hR', e]; rfl))
              have n3 : R ≠ 13 := fun e => hb.2 (UInt8.toNat_inj.1 (by rw [← hR', e]; rfl))
              simp [n1, n2, n3]
            · obtain ⟨k, hk, h1, h2, rfl⟩ := sub_mem t pos (pos + 1) (by omega) c hc
              obtain rfl : k = pos := by omega
              exact hb
        · have hw := wide t pos hlt (by omega)
          have h128 := (decode_high t pos hlt (by omega)).1
          rw [hK] at hw
          rw [hR] at h128
          refine .inl ⟨hw.1, by simp; omega, fun c hc => ?_⟩
          obtain ⟨k, hk, h1, h2, rfl⟩ := sub_mem t pos (pos + K) hw.1 c hc
          exact blk_high (hw.2 k hk h1 h2)
      obtain ⟨W, hWd⟩ : ∃ W, wr.iterAt w.heap.size t (pos + K) = W := ⟨_, rfl⟩
      rw [hWd] at hnx hit2 hbw2 hown2
      clear hown hit hbw hWd hR hK
      rcases hkind with ⟨hKs, hbl, hnb⟩ | ⟨rfl, hbl, hbk⟩
      · have cS := blank_calls R false hRle hbl
        clear hbl
        have hF2 := Lib.hid (fnd_word hF hnb (fun a h => by have := hst a h; omega))
        obtain ⟨g', rfl⟩ : ∃ g', gk = g' + K := ⟨gk - K, by omega⟩
        cases st with
        | none =>
          have hz0' : z < 0 := hzn rfl
          have hzd : decide (z < 0) = true := decide_eq_true hz0'
          clear hF hnb
          go_wp2_with (go_at_call 72; refine (cS _).mono ?_; rintro e w' ⟨rfl, rfl⟩)
          go_roundg g'
          case measure => omega
          case rel => exact ⟨pos + K, some pos, outs, pos, rfl, (fun h => by cases h), fun a h => by cases h; rfl, by omega, hown2, hit2, hbw2, hF2.out, hKs, by omega, by omega, fun a h => by cases h; omega⟩
        | some a =>
          have hza : z = (a : Int) := hzs a rfl
          subst hza
          clear hF hnb
          go_wp2_with (go_at_call 72; refine (cS _).mono ?_; rintro e w' ⟨rfl, rfl⟩)
          go_roundg g'
          case measure => omega
          case rel => exact ⟨pos + K, some a, outs, a, rfl, (fun h => by cases h), fun b h => by cases h; rfl, by omega, hown2, hit2, hbw2, hF2.out, hKs, by omega, by omega, fun b h => by cases h; have := hst a rfl; omega⟩
      · have cS := blank_calls R true hRle hbl
        clear hbl
        obtain ⟨g', rfl⟩ : ∃ g', gk = g' + 1 := ⟨gk - 1, by omega⟩
        cases st with
        | none =>
          have hz0' : z < 0 := hzn rfl
          have hF2 := Lib.hid (fnd_skip hF hlt hbk)
          clear hF hbk
          go_wp2_with (go_at_call 72; refine (cS _).mono ?_; rintro e w' ⟨rfl, rfl⟩)
          go_roundg g'
          case measure => omega
          case rel => exact ⟨pos + 1, none, outs, z, rfl, fun _ => hz0', (fun a h => by cases h), hzl, hown2, hit2, hbw2, hF2.out, by omega, by omega, by omega, (fun a h => by cases h)⟩
        | some a =>
          have hza : z = (a : Int) := hzs a rfl
          subst hza
          have hap := hst a rfl
          have hF2 := Lib.hid (fnd_cut hF hlt hap hbk)
          clear hF hbk
          have hsl : ∀ W : World, (Instr.slice 9 (.string t) (some (.int .i64 (a : Int))) (some (.int .i64 (pos : Int))) none).run Tryd.prog W = .ok (.string (t.extract a pos)) W := fun W => by
            have := run_slice_string (P := Tryd.prog) W 9 t .i64 .i64 a pos Tryd.underlying9 (by omega) (by omega) (by omega)
            simpa using this
          go_wp2_with (first
            | (go_at_call 72; refine (cS _).mono ?_; rintro e w' ⟨rfl, rfl⟩)
            | (at_builtin; go_must (refine wpList_append_own _ rfl (.tmp 34) (.tmp 39) 28 rfl w.heap.size 9 i0 (.string ⟨#[]⟩) 1 16 Tryd.underlying28 hi hz0 hz1 hz2 rfl (by decide) _ _ _ rfl (hown2.alloc _) ⟨W.heap.size, 0, none⟩ 1 1 [.string (t.extract a pos)] rfl rfl (cell_one_new _ _ _) (by intro u hu; simp at hu; subst hu; rfl) (by unfold maxLen; omega) (by omega) (by have := hbw2.size; simp; omega) ?_; intro v3 w3 hown3 hgrow3 hnil3)))
          go_roundg g'
          case measure => omega
          case rel =>
            have hIT : w.heap.size < W.heap.size := (Array.getElem?_eq_some_iff.1 hit2).1
            have hX := hown2.alloc (.cells #[.string (t.extract a pos)] 9)
            refine ⟨pos + 1, none, outs ++ [t.extract a pos], -1, rfl, fun _ => by omega, (fun b h => by cases h), by omega, by rw [List.length_append, List.map_append]; exact hown3, ?_, ?_, hF2.out, by omega, by omega, by simp; omega, (fun b h => by cases h)⟩
            · exact (hgrow3.block w.heap.size (by simp; omega) (own_ne_iter hown2 hit2)).trans ((Below.heap_alloc _ _ _ hIT).trans hit2)
            · exact (hbw2.alloc (by have := hbw2.size; exact this) _).grown hgrow3 (by have := hbw2.size; simp; omega) (fun j hj => (hX.lt j hj).1)
    · obtain rfl : pos = t.size := by omega
      have hnx : ∀ ty, (Instr.next (.pointer (some ⟨w.heap.size, 0, none⟩)) true ty).run Tryd.prog wr = _ := fun ty => Lib.run_next_end_at wr w.heap.size t t.size ty hit hlt
      have hend := fnd_end hF
      rw [HT.out] at hend
      clear hfu hps
      cases st with
      | none =>
        have hz0' : z < 0 := hzn rfl
        have HE := Lib.hid hend
        clear hend hF
        go_wp2
        go_ret
        exact ⟨_, outs, rfl, by rw [← HE.out]; simp [curOf], hown, hbw⟩
      | some a =>
        have hza : z = (a : Int) := hzs a rfl
        subst hza
        have hap := hst a rfl
        have HE := Lib.hid hend
        clear hend hF
        have hsl : ∀ W : World, (Instr.slice 9 (.string t) (some (.int .i64 (a : Int))) none none).run Tryd.prog W = .ok (.string (t.extract a t.size)) W := fun W => by
          have := run_slice_string_from_if (P := Tryd.prog) W 9 t .i64 a Tryd.underlying9
          rw [this, if_pos ⟨by omega, by omega⟩]
          simp
        go_wp2_with (at_builtin; go_must (refine wpList_append_own _ rfl (.tmp 43) (.tmp 47) 28 rfl w.heap.size 9 i0 (.string ⟨#[]⟩) 1 16 Tryd.underlying28 hi hz0 hz1 hz2 rfl (by decide) _ _ _ rfl (hown.alloc _) ⟨wr.heap.size, 0, none⟩ 1 1 [.string (t.extract a t.size)] rfl rfl (cell_one_new _ _ _) (by intro u hu; simp at hu; subst hu; rfl) (by unfold maxLen; omega) (by omega) (by have := hbw.size; simp; omega) ?_; intro v3 w3 hown3 hgrow3 hnil3))
        go_ret
        have hX := hown.alloc (.cells #[.string (t.extract a t.size)] 9)
        refine ⟨_, outs ++ [t.extract a t.size], rfl, ?_, by rw [List.length_append, List.map_append]; exact hown3, ?_⟩
        · rw [← HE.out, List.map_append, List.map_cons, List.map_nil, sub_extract]
          rw [if_neg (show ¬ curOf t (some a) t.size = [] from sub_ne t a t.size hap (Nat.le_refl _))]
          rfl
        · exact (hbw.alloc (by have := hbw.size; exact this) _).grown hgrow3 (by have := hbw.size; simp; omega) (fun j hj => (hX.lt j hj).1)
end Go.Proofs.YtaknikdbnfmlfaaDoor.WordsA
