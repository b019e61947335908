/- What reads as data of a type is data of a kind, for the executor's contracts: one law a shape of types. -/
import Derived.Test.YtaknikdbnfmlfaaDoorExM
import Derived.ChangeArms
import Derived.OpenShut
import Derived.DataReads
import Derived.ChangeOld
import Derived.WideShapes
import Derived.Test.YtaknikdbnfmlfaaDoorShelf
namespace Go.Proofs.YtaknikdbnfmlfaaDoor.Ex
open Go Go.RowKit Go.WideShapes
set_option linter.unusedVariables false
mutual
/-- What is known of data that came in: numbers are of their kind, nothing is longer than the machine counts. -/
def SK.okv : (k : SK) → k.ty → Prop
  | .int k, n => (Lit.int k n).wf = true
  | .bool, _ => True
  | .str, s => ByteArray.size s ≤ 9223372036854775807
  | .row s, l => List.length (α := Tup s) l ≤ 9223372036854775807 ∧ ∀ x ∈ (show List (Tup s) from l), okvT s x
  | .ptr _, _ => False
  | .adr, _ => False
  | .fnc _, _ => False
def okvT : (s : List SK) → Tup s → Prop
  | [] => fun _ => True
  | k :: r => match r with
    | [] => fun x => k.okv x
    | k' :: r' => fun x => k.okv x.1 ∧ okvT (k' :: r') x.2
end
def OpK (P : Program) (t : TypeId) (k : SK) : Prop :=
  ∀ {H : Type} (enc : TypeId × Value → H) (W : World) (fuel : Nat) (cs : List Value) (x : DataW H × List MemPlace), DataW.trod enc P W 0 (fun _ => true) true fuel t cs = some x → ∃ (y : k.ty) (u : Value), cs = [u] ∧ SKIs (fun b => b < W.heap.size) W k y u ∧ k.okv y
def OpT (P : Program) (t : TypeId) (s : List SK) : Prop :=
  ∀ {H : Type} (enc : TypeId × Value → H) (W : World) (fuel : Nat) (cs : List Value) (x : DataW H × List MemPlace), DataW.trod enc P W 0 (fun _ => true) true fuel t cs = some x → ∃ y : Tup s, TupIs (fun b => b < W.heap.size) W s y cs ∧ okvT s y
section
variable {P : Program}
theorem OpK.int {t : TypeId} {k : IntKind} (ht : P.underlying t = some (.int k)) : OpK P t (.int k) := by
  intro H enc W fuel cs x h
  obtain ⟨s, rfl, _, h3⟩ := DataW.trod_int ht h
  exact ⟨s, _, rfl, by simp only [SKIs], by simp only [SK.okv]; exact h3⟩
theorem OpK.str {t : TypeId} (ht : P.underlying t = some .string) : OpK P t .str := by
  intro H enc W fuel cs x h
  obtain ⟨s, rfl, _, h3⟩ := DataW.trod_string ht h
  exact ⟨s, _, rfl, by simp only [SKIs], by simp only [SK.okv]; exact h3⟩
theorem OpK.bool {t : TypeId} (ht : P.underlying t = some .bool) : OpK P t .bool := by
  intro H enc W fuel cs x h
  obtain ⟨s, rfl, _⟩ := DataW.trod_bool ht h
  exact ⟨s, _, rfl, by simp only [SKIs], by simp only [SK.okv]⟩
theorem OpK.t {t : TypeId} {k : SK} (h : OpK P t k) : OpT P t [k] := by
  intro H enc W fuel cs x hx
  obtain ⟨y, u, rfl, h1, h2⟩ := h enc W fuel cs x hx
  exact ⟨y, by simp only [TupIs]; exact ⟨u, rfl, h1⟩, by simp only [okvT]; exact h2⟩
theorem tup_app {ok : Nat → Prop} {W : World} : ∀ {a b : List SK} {c1 c2 : List Value}, (∃ y : Tup a, TupIs ok W a y c1 ∧ okvT a y) → (∃ y : Tup b, TupIs ok W b y c2 ∧ okvT b y) → ∃ y : Tup (a ++ b), TupIs ok W (a ++ b) y (c1 ++ c2) ∧ okvT (a ++ b) y
  | [], b, c1, c2, ⟨y, h1, _⟩, h2 => by
    simp only [TupIs] at h1
    subst h1
    exact h2
  | [k], [], c1, c2, h1, ⟨y, h2, _⟩ => by
    simp only [TupIs] at h2
    subst h2
    simpa using h1
  | [k], k' :: r, c1, c2, ⟨y, h1, h1'⟩, ⟨z, h2, h2'⟩ => by
    simp only [TupIs] at h1
    obtain ⟨u, rfl, h1⟩ := h1
    exact ⟨(y, z), by simp only [List.singleton_append, TupIs]; exact ⟨u, c2, rfl, h1, h2⟩, by simp only [List.singleton_append, okvT]; exact ⟨h1', h2'⟩⟩
  | k :: k' :: r, b, c1, c2, ⟨y, h1, h1'⟩, h2 => by
    simp only [TupIs] at h1
    simp only [okvT] at h1'
    obtain ⟨u, us, rfl, h1, h3⟩ := h1
    obtain ⟨z, z1, z2⟩ := tup_app (a := k' :: r) ⟨y.2, h3, h1'.2⟩ h2
    exact ⟨(y.1, z), by simp only [List.cons_append, TupIs]; exact ⟨u, us ++ c2, rfl, h1, z1⟩, by simp only [List.cons_append, okvT]; exact ⟨h1'.1, z2⟩⟩
def OpFs (P : Program) : Nat → List Field → List (List SK) → Prop
  | _, [], [] => True
  | off, f :: r, l :: ls => f.offset = off ∧ P.cellsOf f.type = l.length ∧ OpT P f.type l ∧ OpFs P (off + l.length) r ls
  | _, _, _ => False
theorem seg_open {H : Type} {enc : TypeId × Value → H} {W : World} {n : Nat} (cs : List Value) : ∀ (fs : List Field) (lss : List (List SK)) (off : Nat), OpFs P off fs lss →
    (∀ (i : Nat) (f : Field), fs[i]? = some f → ∃ y, DataW.trod enc P W 0 (fun _ => true) true n f.type ((cs.drop f.offset).take (P.cellsOf f.type)) = some y) → off + lss.flatten.length = cs.length → ∃ y : Tup lss.flatten, TupIs (fun b => b < W.heap.size) W lss.flatten y (cs.drop off) ∧ okvT lss.flatten y
  | [], [], off, _, _, hl => by
    rw [List.drop_eq_nil_of_le (by simp at hl; omega)]
    exact ⟨(), by simp [TupIs], by simp [okvT]⟩
  | [], _ :: _, _, h, _, _ => h.elim
  | _ :: _, [], _, h, _, _ => h.elim
  | f :: r, l :: ls, off, h, hf, hl => by
    obtain ⟨h1, h2, h3, h4⟩ := h
    obtain ⟨y, hy⟩ := hf 0 f rfl
    rw [h1, h2] at hy
    have a1 := h3 enc W n _ y hy
    have a2 := seg_open cs r ls (off + l.length) h4 (fun i g hg => hf (i + 1) g hg) (by simp only [List.flatten_cons, List.length_append] at hl; omega)
    have e : cs.drop off = (cs.drop off).take l.length ++ cs.drop (off + l.length) := by rw [← List.drop_drop, List.take_append_drop]
    rw [e, List.flatten_cons]
    exact tup_app a1 a2
theorem OpT.struct {t : TypeId} {fs : Array Field} {lss : List (List SK)} (ht : P.underlying t = some (.struct fs)) (h : OpFs P 0 fs.toList lss) (hC : P.cellsOf t = lss.flatten.length) : OpT P t lss.flatten := by
  intro H enc W fuel cs x hx
  obtain ⟨xs, n, _, rfl, hl, hlen, hf⟩ := DataW.trod_struct ht hx
  have := seg_open (enc := enc) (W := W) (n := n) cs fs.toList lss 0 h (fun i f hi => by
    have hi' : fs[i]? = some f := by simpa using hi
    have h1 := hf i f hi'
    have hlt : i < xs.length := by rw [hlen]; exact (Array.getElem?_eq_some_iff.1 hi').1
    rw [List.getElem?_eq_getElem hlt] at h1
    exact ⟨_, h1⟩) (by rw [Nat.zero_add, ← hC, hl])
  simpa using this
theorem list_of {α : Type} {n : Nat} {Q : Nat → α → Prop} (h : ∀ i, i < n → ∃ a, Q i a) : ∃ l : List α, l.length = n ∧ ∀ i (hi : i < l.length), Q i l[i] := by
  induction n with
  | zero => exact ⟨[], rfl, fun i hi => absurd hi (Nat.not_lt_zero i)⟩
  | succ n ih =>
    obtain ⟨l, hl, hq⟩ := ih (fun i hi => h i (by omega))
    obtain ⟨a, ha⟩ := h n (by omega)
    refine ⟨l ++ [a], by simp [hl], fun i hi => ?_⟩
    rcases Nat.lt_or_ge i l.length with h1 | h1
    · rw [List.getElem_append_left h1]; exact hq i h1
    · have : i = n := by simp at hi; omega
      subst this
      rw [List.getElem_append_right (by omega)]
      simpa [hl] using ha
theorem OpK.row {t e : TypeId} {s : List SK} (ht : P.underlying t = some (.slice e)) (hc : P.cellsOf e = s.length) (h0 : 0 < s.length) (ho : OpT P e s) : OpK P t (.row s) := by
  intro H enc W fuel cs x h
  rcases DataW.trod_slice ht h with ⟨rfl, _⟩ | ⟨a, len, cap, elems, rest, n, rfl, rfl, _, _, hlc, hcm, hel, he, _, _⟩
  · refine ⟨([] : List (Tup s)), _, rfl, ?_, ?_⟩
    · simp only [SKIs]
      exact ⟨none, 0, rfl, Nat.le_refl _, fun i x hx => by simp at hx⟩
    · simp only [SK.okv]
      exact ⟨by simp, fun x hx => by cases hx⟩
  · have hm : len ≤ 9223372036854775807 := by unfold maxLen at hcm; omega
    have hex : ∀ i, i < len → ∃ y : Tup s, ∃ c : List Value, c.length = s.length ∧ (∀ (j : Nat) u, c[j]? = some u → W.cell? (a.add (i * s.length + j)) = some u) ∧ TupIs (fun b => b < W.heap.size) W s y c ∧ okvT s y := by
      intro i hi
      have h1 := he i hi
      have hl : i < elems.length := by omega
      rw [List.getElem?_eq_getElem hl, hc] at h1
      obtain ⟨c, hcs, htr⟩ := Option.bind_eq_some_iff.1 h1
      obtain ⟨y, hK, hok⟩ := ho enc W n c _ htr
      refine ⟨y, c, TupIs.len hK, fun j u hj => ?_, hK, hok⟩
      unfold World.cells? at hcs
      split at hcs
      · have hlen := mapM_some_length hcs
        have hjl : j < c.length := (List.getElem?_eq_some_iff.1 hj).1
        have := mapM_some_get hcs j j (by simp only [List.length_range] at hlen; rw [List.getElem?_range (by omega)])
        rw [hj] at this
        have e1 : (a.add (i * s.length)).add j = a.add (i * s.length + j) := by
          generalize i * s.length = q
          unfold Addr.add
          by_cases h0 : q = 0 <;> by_cases hj0 : j = 0 <;> simp [h0, hj0, Nat.add_assoc]
        rw [e1] at this
        exact this
      · simp at hcs
    obtain ⟨l, hl, hq⟩ := list_of hex
    refine ⟨l, _, rfl, ?_, ?_⟩
    · simp only [SKIs]
      refine ⟨some a, cap, by rw [show List.length (α := Tup s) l = len from hl], by rw [show List.length (α := Tup s) l = len from hl]; exact hlc, fun i x hx => ?_⟩
      obtain ⟨hi, rfl⟩ := List.getElem?_eq_some_iff.1 hx
      obtain ⟨c, q1, q2, q3, q4⟩ := hq i hi
      have hsp : a.spot = none ∧ a.block < W.heap.size := by
        obtain ⟨c0, p1, p2, _, _⟩ := hq 0 (by omega)
        have hcell := p2 0 c0[0] (List.getElem?_eq_getElem (by omega))
        have hz : a.add (0 * s.length + 0) = a := by simp [Addr.add]
        rw [hz] at hcell
        unfold World.cell? at hcell
        split at hcell
        · rename_i cc _ _ hh
          refine ⟨?_, (Array.getElem?_eq_some_iff.1 hh).1⟩
          split at hcell
          · cases hcell
          · rename_i hs
            simpa using hs
        · cases hcell
      obtain ⟨b, o, sp⟩ := a
      obtain ⟨h1, h2⟩ := hsp
      simp only at h1 h2
      subst h1
      refine ⟨b, o, c, rfl, h2, q1, fun j u hj => ?_, q3⟩
      have := q2 j u hj
      have hadd : (⟨b, o, none⟩ : Addr).add (i * s.length + j) = ⟨b, o + (i * s.length + j), none⟩ := by unfold Addr.add; split <;> simp_all
      rw [hadd] at this
      rw [Nat.add_assoc]
      exact this
    · simp only [SK.okv]
      refine ⟨by rw [show List.length (α := Tup s) l = len from hl]; exact hm, fun y hy => ?_⟩
      obtain ⟨j, hjl, rfl⟩ := List.mem_iff_getElem.1 hy
      obtain ⟨_, _, _, _, q⟩ := hq j hjl
      exact q
/-- A value of one cell that came in. -/
theorem open_one {H : Type} {enc : TypeId × Value → H} {W : World} {t : TypeId} {k : SK} {v : Value} {y : DataW H} {p : List MemPlace} (ho : OpK P t k) (hv : v.cells = #[v]) (h : DataW.Trod enc P W 0 (fun _ => true) true t v y p) : ∃ a : k.ty, SKIs (fun b => b < W.heap.size) W k a v ∧ k.okv a := by
  obtain ⟨fuel, hf⟩ := h
  rw [hv] at hf
  obtain ⟨a, u, hu, h1, h2⟩ := ho enc W fuel _ _ hf
  have : v = u := by simpa using hu
  subst this
  exact ⟨a, h1, h2⟩
/-- A struct that came in. -/
theorem open_agg {H : Type} {enc : TypeId × Value → H} {W w : World} {r : Reach} {b0 : Nat} {t : TypeId} {fs : Array Field} {s : List SK} {v : Value} {y : DataW H} {p : List MemPlace} (hs : P.underlying t = some (.struct fs)) (ho : OpT P t s)
    (hv : Value.okWide P w r b0 t v) (h : DataW.Trod enc P W 0 (fun _ => true) true t v y p) : ∃ (a : Tup s) (vs : List Value), v = .agg vs.toArray ∧ TupIs (fun b => b < W.heap.size) W s a vs ∧ okvT s a := by
  obtain ⟨cs, rfl, _⟩ := okWide_struct hs hv
  obtain ⟨fuel, hf⟩ := h
  obtain ⟨a, h1, h2⟩ := ho enc W fuel cs.toList _ (by simpa [Value.cells] using hf)
  exact ⟨a, cs.toList, by simp, h1, h2⟩
theorem cells_slice {w : World} {r : Reach} {b0 : Nat} {t e : TypeId} {v : Value} (ht : P.underlying t = some (.slice e)) (h : Value.okWide P w r b0 t v) : v.cells = #[v] := by
  obtain ⟨a, l, c, rfl⟩ := okWide_slice ht h; rfl
theorem cells_string {w : World} {r : Reach} {b0 : Nat} {t : TypeId} {v : Value} (ht : P.underlying t = some .string) (h : Value.okWide P w r b0 t v) : v.cells = #[v] := by
  obtain ⟨s, rfl⟩ := okWide_string ht h; rfl
theorem rets_bool {w w' : World} {b : Bool} {v : Value} (h : Rets [.one (.sc .bool)] w w' b v) : v = .bool b := by
  obtain ⟨vs, rv, Fz, rfl, h, _⟩ := h.ex
  simp only [PTNew, PKNew, LKNew] at h
  obtain ⟨u, rfl, rfl, h⟩ := h
  simpa only [SKIs, retV] using h
end
end Go.Proofs.YtaknikdbnfmlfaaDoor.Ex
/- An executor of translated code on abstract states: entries out of contracts that were proved by hand. -/
namespace Go.Proofs.YtaknikdbnfmlfaaDoor.Ex
open Go Go.RowKit
set_option linter.unusedVariables false
theorem rets_str (r : ByteArray) (w w' : World) : Rets [.one (.sc .str)] w w' r (.string r) :=
  ⟨⟨[.string r], [], fun _ => False, rfl, ⟨_, rfl, rfl, by simp only [SKIs]⟩, trivial, fun u hu => (by cases hu), fun k hk => hk.elim⟩⟩
theorem rets_strs {T : TypeId} {xs : List ByteArray} {v : Value} {w w' : World} (h : w'.ownsRow w.heap.size T 1 v xs.length (xs.map Value.string)) : Rets [.one (.row T [.str])] w w' xs v :=
  ⟨⟨[v], [v], fun _ => False, rfl, ⟨v, rfl, rfl, xs.map Value.string, h, fun i x hx => by
      have hx' : xs[i]? = some (show ByteArray from x) := hx
      have hi : i < xs.length := (List.getElem?_eq_some_iff.1 hx').1
      have e : xs[i] = (show ByteArray from x) := (List.getElem?_eq_some_iff.1 hx').2
      simp only [TupIs]
      refine ⟨.string x, ?_, by simp only [SKIs]⟩
      show ((xs.map Value.string).drop (i * 1)).take 1 = _
      rw [Nat.mul_one, List.drop_eq_getElem_cons (by rw [List.length_map]; exact hi), List.getElem_map, e]
      rfl⟩, ⟨fun u hu => (by cases hu), trivial⟩, fun u hu k hk hf => hf, fun k hk => hk.elim⟩⟩
theorem rets_int_bool (n : Int) (b : Bool) (w w' : World) : Rets [.one (.sc (.int .i64)), .one (.sc .bool)] w w' (n, b) (.tuple #[.int .i64 n, .bool b]) :=
  ⟨⟨[.int .i64 n, .bool b], [], fun _ => False, rfl, ⟨_, [.bool b], [], [], rfl, rfl, ⟨rfl, by simp only [SKIs]⟩, _, rfl, rfl, by simp only [SKIs]⟩, trivial, fun u hu => (by cases hu), fun k hk => hk.elim⟩⟩
variable {P : Program} {f : FuncId}
/-- int -> string -/
theorem ok_int_str {F : Int → Option ByteArray} (h : ∀ (a : Int) (r : ByteArray) (w : World), GK w → F a = some r → Calls P f #[.int .i64 a] w fun e w' => e = .returned (.string r) ∧ Below w.heap.size w w') : CallsOk P f [.one (.sc (.int .i64))] [.one (.sc .str)] F := by
  intro x r w vals hx hargs hgk
  simp only [PTIs, PKIs, LKIs, SKIs] at hargs
  obtain ⟨u, rfl, rfl⟩ := hargs
  refine (h x r w hgk hx).mono fun e w' hh => ?_
  exact ⟨_, hh.1, rets_str r w w', hh.2⟩
/-- string -> row of strings -/
theorem ok_str_strs {T : TypeId} {F : ByteArray → Option (List ByteArray)} (h : ∀ (a : ByteArray) (r : List ByteArray) (w : World), GK w → F a = some r → Calls P f #[.string a] w fun e w' => ∃ v, e = .returned v ∧ w'.ownsRow w.heap.size T 1 v r.length (r.map Value.string) ∧ Below w.heap.size w w') : CallsOk P f [.one (.sc .str)] [.one (.row T [.str])] F := by
  intro x r w vals hx hargs hgk
  simp only [PTIs, PKIs, LKIs, SKIs] at hargs
  obtain ⟨u, rfl, rfl⟩ := hargs
  refine (h x r w hgk hx).mono fun e w' hh => ?_
  obtain ⟨v, rfl, h1, h2⟩ := hh
  exact ⟨v, rfl, rets_strs h1, h2⟩
/-- string, int -> int, bool -/
theorem ok_str_int {F : ByteArray × Int → Option (Int × Bool)} (h : ∀ (a : ByteArray) (n q : Int) (b : Bool) (w : World), GK w → F (a, n) = some (q, b) → Calls P f #[.string a, .int .i64 n] w fun e w' => e = .returned (.tuple #[.int .i64 q, .bool b]) ∧ Below w.heap.size w w') : CallsOk P f [.one (.sc .str), .one (.sc (.int .i64))] [.one (.sc (.int .i64)), .one (.sc .bool)] F := by
  intro x r w vals hx hargs hgk
  simp only [PTIs, PKIs, LKIs, SKIs] at hargs
  obtain ⟨u, us, rfl, rfl, u2, rfl, rfl⟩ := hargs
  refine (h x.1 x.2 r.1 r.2 w hgk hx).mono fun e w' hh => ?_
  exact ⟨_, hh.1, rets_int_bool r.1 r.2 w w', hh.2⟩
/-- row of strings, string -> string: strings.Join by the shelf's contract -/
def joinB (xs : List ByteArray) (sep : ByteArray) : ByteArray := ⟨(Lib.join (xs.map (·.data.toList)) sep.data.toList).toArray⟩
def joinF (x : List ByteArray × ByteArray) : Option ByteArray := bif decide (x.1.length ≤ 140737488355328) && decide ((joinB x.1 x.2).size ≤ 140737488355328) then some (joinB x.1 x.2) else none
theorem ok_join {T : TypeId} (hn : ∀ (a : Option Addr) (c : Nat) (sep : ByteArray) (w : World), Calls P f #[.slice a 0 c, .string sep] w fun e w' => e = .returned (.string ⟨#[]⟩) ∧ w' = w)
    (hj : ∀ (bk o c : Nat) (xs : List ByteArray) (sep : ByteArray) (w : World), (∀ (j : Nat) x, xs[j]? = some x → w.cell? ⟨bk, o + j, none⟩ = some (.string x)) → bk < w.heap.size → xs.length ≤ 140737488355328 → xs.length ≤ c → (Lib.join (xs.map (·.data.toList)) sep.data.toList).length ≤ 140737488355328 →
      Calls P f #[.slice (some ⟨bk, o, none⟩) xs.length c, .string sep] w fun e w' => e = .returned (.string ⟨(Lib.join (xs.map (·.data.toList)) sep.data.toList).toArray⟩) ∧ Below w.heap.size w w') :
    CallsOk P f [.one (.row T [.str]), .one (.sc .str)] [.one (.sc .str)] joinF := by
  intro x r w vals hx hargs hgk
  obtain ⟨xs, sep⟩ := x
  change List ByteArray at xs
  unfold joinF at hx
  rcases cond_some hx with ⟨hc, hr⟩ | ⟨_, hr⟩
  · simp only [Bool.and_eq_true, decide_eq_true_eq] at hc
    obtain rfl := Option.some.inj hr
    simp only [PTIs, PKIs, LKIs, SKIs] at hargs
    obtain ⟨u, us, rfl, ⟨A, c, rfl, hcap, hrow⟩, u2, rfl, rfl⟩ := hargs
    cases xs with
    | nil =>
      refine (hn A c sep w).mono fun e w' hh => ?_
      obtain ⟨rfl, rfl⟩ := hh
      exact ⟨_, rfl, rets_str _ w' w', Below.refl _ _⟩
    | cons y ys =>
      obtain ⟨b, o, cs, rfl, hok, _⟩ := hrow 0 y rfl
      have hcells : ∀ (j : Nat) x, (y :: ys)[j]? = some x → w.cell? ⟨b, o + j, none⟩ = some (.string x) := fun j x hj => by
        obtain ⟨b', o', cs', hA, _, hl, hca, ht⟩ := hrow j x hj
        cases hA
        simp only [TupIs, SKIs] at ht
        obtain ⟨q, rfl, rfl⟩ := ht
        have := hca 0 (.string x) rfl
        simpa using this
      refine (hj b o c (y :: ys) sep w hcells hok hc.1 hcap (by have := hc.2; simpa [joinB, ByteArray.size] using this)).mono fun e w' hh => ?_
      exact ⟨_, hh.1, rets_str _ w w', hh.2⟩
  · cases hr
end Go.Proofs.YtaknikdbnfmlfaaDoor.Ex
