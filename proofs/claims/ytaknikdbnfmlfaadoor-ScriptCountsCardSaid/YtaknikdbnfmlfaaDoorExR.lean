/- An executor of translated code on abstract states, eighteenth part: whole functions. -/
import Derived.Test.YtaknikdbnfmlfaaDoorExQ
import Derived.Test.YtaknikdbnfmlfaaDoorExW
namespace Go.Proofs.YtaknikdbnfmlfaaDoor.Ex
open Go Go.RowKit
set_option linter.unusedVariables false
set_option linter.unusedSimpArgs false
inductive XE : Type where
  | nrm | ex (id : Nat)
def XE.of : XE → Exit
  | .nrm => .normal
  | .ex id => .exit id
/-- What a loop is told by: the slots that it carries in and out, and a plain function. -/
structure LAn (R : List PK) where
  ex : Nat
  TI : List (Nat × TK)
  TO : List (Nat × TK)
  F : Nat → TT TI → Option (TT TO ⊕ PT R)
def nloops : Code → Nat
  | .seq a b => nloops a + nloops b
  | .cond _ a b => nloops a + nloops b
  | .block _ c => nloops c
  | .loop c => nloops c + 1
  | _ => 0
def loopsOf : Code → List Code
  | .seq a b => loopsOf a ++ loopsOf b
  | .cond _ a b => loopsOf a ++ loopsOf b
  | .block _ c => loopsOf c
  | .loop c => c :: loopsOf c
  | _ => []
theorem loopsOf_len : ∀ c, (loopsOf c).length = nloops c
  | .seq a b => by simp [loopsOf, nloops, loopsOf_len a, loopsOf_len b]
  | .cond _ a b => by simp [loopsOf, nloops, loopsOf_len a, loopsOf_len b]
  | .block _ c => by simp [loopsOf, nloops, loopsOf_len c]
  | .loop c => by simp [loopsOf, nloops, loopsOf_len c]
  | .skip | .region .. | .rangeFunc .. | .exit _ | .scope _ | .label _ | .goto _ | .ret | .refuse _ => rfl
def getL {R : List PK} : List (Option (LAn R)) → Nat → Option (LAn R)
  | [], _ => none
  | x :: r, i => match i with
    | 0 => x
    | i + 1 => getL r i
def iter {ρ : Type} (step : AS → Nat → (XE → AS → Nat → Option ρ) → Option ρ) : Nat → AS → Nat → (XE → AS → Nat → Option ρ) → Option ρ
  | 0, _, _, _ => none
  | f + 1, s, n, κ => step s n fun e s n => match e with
    | .nrm => iter step f s n κ
    | .ex id => κ (.ex id) s n
structure Cx (P : Program) (R : List PK) where
  Φ : Nat → Env P
  N : Nat
  rs : Array ResultVar
  L : List (Option (LAn R))
section
variable {P : Program} {R : List PK}
def exec {ρ : Type} (X : Cx P R) (k : Nat) : Code → Nat → AS → Nat → (XE → AS → Nat → Option ρ) → (PT R → Option ρ) → Option ρ
  | .skip, _, s, n, κ, _ => κ .nrm s n
  | .region id ops draw, _, s, n, κ, _ => bif ops.toList.all (fun o => dOk o.dst X.N) then (bif draw then (bif P.follows .mixedOrders then regO (X.Φ k) X.N ops s n (fun s n => κ .nrm s n) else none) else regP (X.Φ k) X.N ops ops.toList s n (fun s n => κ .nrm s n)) else none
  | .seq a b, i, s, n, κ, κr => exec X k a i s n (fun e s n => match e with
    | .nrm => exec X k b (i + nloops a) s n κ κr
    | .ex id => κ (.ex id) s n) κr
  | .cond c a b, i, s, n, κ, κr => match s.ev c with
    | .v v => match boolOf v with
      | some t => bif t then exec X k a i s n κ κr else exec X k b (i + nloops a) s n κ κr
      | none => none
    | _ => none
  | .block id c, i, s, n, κ, κr => exec X k c i s n (fun e s n => match e with
    | .nrm => κ .nrm s n
    | .ex id' => bif Nat.beq id' id then κ .nrm s n else κ (.ex id') s n) κr
  | .loop c, i, s, n, κ, κr => match getL X.L i with
    | some an => match deZ s an.TI with
      | some x => (an.F k x).bind fun o => match o with
        | .inl y => κ (.ex an.ex) (mkS an.TO y) (mkN an.TO y)
        | .inr r => κr r
      | none => none
    | none => iter (fun s n κ => exec X k c (i + 1) s n κ κr) 40 s n κ
  | .exit id, _, s, n, κ, _ => κ (.ex id) s n
  | .ret, _, s, _, _, κr => match reZ P s X.rs R with
    | some x => κr x
    | none => none
  | _, _, _, _, _, _ => none
/-! ### what is carried names its own blocks alone -/
theorem cellK_ids {fr : Bool} {k : SK} {x : k.ty} {p : Nat → Bool} : (cellK fr k x).ids p = true := by
  cases k <;> rfl
def lt (n : Nat) : Nat → Bool := fun k => Nat.blt k n
theorem lt_mono {a b : Nat} (h : a ≤ b) : ∀ k, lt a k = true → lt b k = true := fun k hk => Nat.ble_eq_true_of_le (Nat.le_trans (Nat.le_of_ble_eq_true hk) h)
theorem lt_of {a b : Nat} (h : a < b) : lt b a = true := Nat.ble_eq_true_of_le h
theorem mkL_ids {id n : Nat} : ∀ {k : TL} {x : k.ty}, id + (mkL id k x).2.length ≤ n → (mkL id k x).1.ids (lt n) = true ∧ ∀ b ∈ (mkL id k x).2, b.ids (lt n) = true
  | .sc k, x, h => ⟨cellK_ids, fun b hb => by cases hb⟩
  | .own T s, x, h => ⟨by simp only [mkL, PV.ids]; exact lt_of (by simp [mkL] at h; omega), fun b hb => by simp [mkL] at hb; subst hb; rfl⟩
  | .ro s, x, h => ⟨rfl, fun b hb => by cases hb⟩
theorem mkLs_ids {n : Nat} : ∀ {s : List TL} {id : Nat} {x : TLs s}, id + (mkLs id s x).2.length ≤ n → idsL (lt n) (mkLs id s x).1 = true ∧ ∀ b ∈ (mkLs id s x).2, b.ids (lt n) = true
  | [], id, x, h => by simp only [mkLs]; exact ⟨rfl, fun b hb => by cases hb⟩
  | [k], id, x, h => by
    simp only [mkLs] at h ⊢
    obtain ⟨h1, h2⟩ := mkL_ids h
    exact ⟨by simp only [idsL, h1, Bool.and_self], h2⟩
  | k :: k' :: r, id, x, h => by
    simp only [mkLs, List.length_append] at h ⊢
    obtain ⟨h1, h2⟩ := mkL_ids (id := id) (k := k) (x := x.1) (n := n) (by omega)
    obtain ⟨h3, h4⟩ := mkLs_ids (n := n) (s := k' :: r) (id := id + (mkL id k x.1).2.length) (x := x.2) (by omega)
    exact ⟨by simp only [idsL, h1, h3, Bool.and_self], fun b hb => (List.mem_append.1 hb).elim (h2 b) (h4 b)⟩
theorem capPs_ids {fr : Bool} {p : Nat → Bool} : ∀ {ss : List (List SK)} {x : Tups ss}, idsL p (capPs fr ss x) = true
  | [], _ => rfl
  | [k], _ => rfl
  | k :: k' :: r, x => by simp only [capPs, idsL, PV.ids, capPs_ids, Bool.and_self]
theorem mkK_ids {id n : Nat} : ∀ {k : TK} {x : k.ty}, id + (mkK id k x).2.length ≤ n → (mkK id k x).1.ids (lt n) = true ∧ ∀ b ∈ (mkK id k x).2, b.ids (lt n) = true
  | .one l, x, h => mkL_ids h
  | .agg ls, x, h => by
    obtain ⟨h1, h2⟩ := mkLs_ids h
    exact ⟨by simp only [mkK, PV.ids]; exact h1, h2⟩
  | .box T ls, x, h => by
    simp only [mkK, List.length_cons] at h ⊢
    obtain ⟨h1, h2⟩ := mkLs_ids (n := n) (id := id + 1) (s := ls) (x := x) (by omega)
    refine ⟨by simp only [PV.ids]; exact lt_of (by omega), fun b hb => ?_⟩
    rcases List.mem_cons.1 hb with rfl | hb
    · simp only [ABlk.ids]; exact h1
    · exact h2 b hb
  | .fnc f, x, h => ⟨rfl, fun b hb => by cases hb⟩
  | .fnp f ss, x, h => ⟨by simp only [mkK, PV.ids]; exact capPs_ids, fun b hb => by cases hb⟩
  | .mset, x, h => by
    simp only [mkK, List.length_cons, List.length_nil] at h ⊢
    exact ⟨by simp only [PV.ids]; exact lt_of (by omega), fun b hb => by simp at hb; subst hb; rfl⟩
  | .obj n, x, h => by
    simp only [mkK, List.length_cons, List.length_nil] at h ⊢
    exact ⟨by simp only [PV.ids]; exact lt_of (by omega), fun b hb => by
      simp at hb
      rcases hb with rfl | rfl
      · simp only [ABlk.ids]; exact lt_of (by omega)
      · rfl⟩
theorem mkT_ids {n : Nat} : ∀ {s : List (Nat × TK)} {id : Nat} {x : TT s}, id + (mkT id s x).2.length ≤ n → (∀ t, (slotOf (mkT id s x).1 t).ids (lt n) = true) ∧ ∀ b ∈ (mkT id s x).2, b.ids (lt n) = true
  | [], id, x, h => by simp only [mkT]; exact ⟨fun t => rfl, fun b hb => by cases hb⟩
  | [k], id, x, h => by
    simp only [mkT] at h ⊢
    obtain ⟨h1, h2⟩ := mkK_ids h
    refine ⟨fun t => ?_, h2⟩
    show (bif Nat.beq t k.1 then (mkK id k.2 x).1 else .un).ids (lt n) = true
    cases Nat.beq t k.1 with
    | true => exact h1
    | false => rfl
  | k :: k' :: r, id, x, h => by
    simp only [mkT, List.length_append] at h ⊢
    obtain ⟨h1, h2⟩ := mkK_ids (id := id) (k := k.2) (x := x.1) (n := n) (by omega)
    obtain ⟨h3, h4⟩ := mkT_ids (n := n) (s := k' :: r) (id := id + (mkK id k.2 x.1).2.length) (x := x.2) (by omega)
    refine ⟨fun t => ?_, fun b hb => (List.mem_append.1 hb).elim (h2 b) (h4 b)⟩
    show (bif Nat.beq t k.1 then (mkK id k.2 x.1).1 else slotOf _ t).ids (lt n) = true
    cases Nat.beq t k.1 with
    | true => exact h1
    | false => exact h3 t
theorem mkS_ids {t : List (Nat × TK)} {x : TT t} : Ids (mkS t x) (mkN t x) := by
  obtain ⟨h1, h2⟩ := mkT_ids (n := mkN t x) (s := t) (id := 0) (x := x) (by unfold mkN; omega)
  have hnum : ∀ (bs : List ABlk) (id : Nat), ∀ e ∈ numb id bs, e.2 ∈ bs ∧ e.1 < id + bs.length := by
    intro bs
    induction bs with
    | nil => intro id e he; cases he
    | cons b bs ih =>
      intro id e he
      rcases List.mem_cons.1 he with rfl | he
      · exact ⟨List.mem_cons_self, by simp⟩
      · have := ih (id + 1) e he
        exact ⟨List.mem_cons_of_mem _ this.1, by simp; omega⟩
  refine ⟨h1, updσ_ids (fun i => rfl) (fun e he => h2 _ (hnum _ 0 e he).1), updσ_no (fun i _ => rfl) (fun e he => by have := (hnum _ 0 e he).2; rw [Nat.zero_add] at this; exact this)⟩
/-! ### soundness -/
/-- A loop of a function, told by its annotation at fuel k. -/
def LoopOk (P : Program) (fn : Func) (w0 : Org) (N : Nat) (an : LAn R) (c : Code) (k : Nat) : Prop :=
  ∀ x o m a w, an.F k x = some o → Rep w0 N m (mkS an.TI x) a w → ∀ Q : Exit → Act → World → Prop,
    (∀ y m' a' w', o = .inl y → Rep w0 N m' (mkS an.TO y) a' w' → Q (.exit an.ex) a' w') → (∀ r a' w', o = .inr r → Ret P fn R w0 r a' w' → Q .ret a' w') → (Code.loop c).wp P Q a w
theorem c_loop {c : Code} {n : Nat} {a : Act} {w : World} {Q : Exit → Act → World → Prop} (I : Nat → Act → World → Prop) (h0 : I n a w) (hr : ∀ m a w, I m a w → c.wp P (Exit.then (fun a' w' => ∃ m', m' < m ∧ I m' a' w') Q) a w) : (Code.loop c).wp P Q a w := by
  intro b k cs
  have key : ∀ n a w, I n a w → ∃ e a' w', Q e a' w' ∧ Arrives P (lone (b.at a (.code c :: .inLoop c :: k)) cs w) b k cs e a' w' := by
    intro n
    induction n using Nat.strongRecOn with
    | _ n ih =>
      intro a w hI
      obtain ⟨e, a₁, w₁, hq, harr⟩ := hr n a w hI b (.inLoop c :: k) cs
      cases e with
      | normal =>
        obtain ⟨m', hlt, hI₁⟩ := hq
        obtain ⟨e₂, a₂, w₂, hq₂, harr₂⟩ := ih m' hlt a₁ w₁ hI₁
        exact ⟨e₂, a₂, w₂, hq₂, .of_steps (Steps.trans harr (.one step_inLoop)) harr₂⟩
      | exit id => exact ⟨_, a₁, w₁, hq, .pass (x := .inLoop c) rfl (fun _ _ => .inl (by simp)) harr⟩
      | goto l => exact ⟨_, a₁, w₁, hq, .pass (x := .inLoop c) rfl (fun _ _ => .inl (by simp)) harr⟩
      | ret => exact ⟨_, a₁, w₁, hq, .pass (x := .inLoop c) rfl (fun _ _ => .inl (by simp)) harr⟩
      | panic ch => exact ⟨_, a₁, w₁, hq, .pass (x := .inLoop c) rfl (fun _ _ => .inl (by simp)) harr⟩
      | outgrown => exact ⟨_, a₁, w₁, hq, .pass (x := .inLoop c) rfl (fun _ _ => .inl (by simp)) harr⟩
  obtain ⟨e, a', w', hq, harr⟩ := key _ a w h0
  exact ⟨e, a', w', hq, .of_steps (.one step_loop) harr⟩
theorem exec_ok {fn : Func} {X : Cx P R} {k : Nat} {w0 : Org} {all : List Code} (hfn : X.rs = fn.results) (hL : ∀ i an c, getL X.L i = some an → all[i]? = some c → LoopOk P fn w0 X.N an c k) {ρ : Type} {r : ρ} :
    ∀ {c : Code} {i : Nat} {s : AS} {n : Nat} {κ : XE → AS → Nat → Option ρ} {κr : PT R → Option ρ} {m : Nm} {a : Act} {w : World} {Q : Exit → Act → World → Prop}, exec X k c i s n κ κr = some r → Rep w0 X.N m s a w → Ids s n →
      (∀ j c', (loopsOf c)[j]? = some c' → all[i + j]? = some c') → (∀ e s' n' m' a' w', κ e s' n' = some r → Rep w0 X.N m' s' a' w' → Ids s' n' → Q e.of a' w') → (∀ x a' w', κr x = some r → Ret P fn R w0 x a' w' → Q .ret a' w') → c.wp P Q a w
  | .skip, i, s, n, κ, κr, m, a, w, Q, h, hr, hi, hl, hκ, hκr => by
    simp only [exec] at h
    exact wp_skip (hκ .nrm s n m a w h hr hi)
  | .region id ops draw, i, s, n, κ, κr, m, a, w, Q, h, hr, hi, hl, hκ, hκr => by
    simp only [exec] at h
    rcases cond_some h with ⟨hN, hh⟩ | ⟨_, h2⟩
    · have hN' : ∀ g t, guardT ops g = some t → t < X.N := fun g t hg => by
        unfold guardT at hg
        split at hg
        · rename_i og ho
          have := List.all_eq_true.1 hN og (by rw [← Array.mem_def]; exact Array.mem_of_getElem? ho)
          rw [hg] at this
          exact Nat.le_of_ble_eq_true this
        · cases hg
      rcases cond_some hh with ⟨hd, hk⟩ | ⟨hd, hk⟩
      · subst hd
        rcases cond_some hk with ⟨hm, hk⟩ | ⟨_, h2⟩
        · exact regO_ok hm hN' hk hr hi (fun S' n' m' a' w' h1 h2 h3 => hκ .nrm S' n' m' a' w' h1 h2 h3)
        · cases h2
      · subst hd
        have := regP_ok (Q := Q) hN' hk hr hi (fun S' n' m' a' w' h1 h2 h3 => hκ .nrm S' n' m' a' w' h1 h2 h3)
        have h5 : ops = ops.toList.toArray := by simp
        rw [h5]
        rw [h5] at this
        exact wp_region_lit (by simpa using this)
    · cases h2
  | .seq x y, i, s, n, κ, κr, m, a, w, Q, h, hr, hi, hl, hκ, hκr => by
    simp only [exec] at h
    refine wp_seq (exec_ok hfn hL h hr hi (fun j c' hj => hl j c' (by simp only [loopsOf]; rw [List.getElem?_append_left (List.getElem?_eq_some_iff.1 hj).1]; exact hj)) (fun e s' n' m' a' w' h1 h2 h3 => ?_) (fun x a' w' h1 h2 => hκr x a' w' h1 h2))
    cases e with
    | nrm =>
      refine exec_ok hfn hL h1 h2 h3 (fun j c' hj => ?_) hκ hκr
      have := hl (nloops x + j) c' (by
        simp only [loopsOf]
        rw [List.getElem?_append_right (by rw [loopsOf_len]; omega), loopsOf_len, show nloops x + j - nloops x = j by omega]
        exact hj)
      rwa [← Nat.add_assoc] at this
    | ex id => exact hκ (.ex id) s' n' m' a' w' h1 h2 h3
  | .cond c x y, i, s, n, κ, κr, m, a, w, Q, h, hr, hi, hl, hκ, hκr => by
    simp only [exec] at h
    split at h
    · rename_i v hc
      split at h
      · rename_i t ht
        have hv : a.eval c = .bool t := by
          rw [ev_v hr hc]
          cases v <;> simp_all [boolOf]
        rcases cond_some h with ⟨rfl, hh⟩ | ⟨rfl, hh⟩
        · exact wp_cond_true hv (exec_ok hfn hL hh hr hi (fun j c' hj => hl j c' (by simp only [loopsOf]; rw [List.getElem?_append_left (List.getElem?_eq_some_iff.1 hj).1]; exact hj)) hκ hκr)
        · refine wp_cond_false hv (exec_ok hfn hL hh hr hi (fun j c' hj => ?_) hκ hκr)
          have := hl (nloops x + j) c' (by
            simp only [loopsOf]
            rw [List.getElem?_append_right (by rw [loopsOf_len]; omega), loopsOf_len, show nloops x + j - nloops x = j by omega]
            exact hj)
          rwa [← Nat.add_assoc] at this
      · cases h
    · cases h
  | .block id c, i, s, n, κ, κr, m, a, w, Q, h, hr, hi, hl, hκ, hκr => by
    simp only [exec] at h
    refine wp_block (exec_ok hfn hL h hr hi hl (fun e s' n' m' a' w' h1 h2 h3 => ?_) (fun x a' w' h1 h2 => hκr x a' w' h1 h2))
    cases e with
    | nrm => exact hκ .nrm s' n' m' a' w' h1 h2 h3
    | ex id' =>
      rcases cond_some h1 with ⟨he, hk⟩ | ⟨he, hk⟩
      · have := Nat.eq_of_beq_eq_true he
        subst this
        show Exit.inBlock id' Q (.exit id') a' w'
        simp only [Exit.inBlock, if_true]
        exact hκ .nrm s' n' m' a' w' hk h2 h3
      · have hne : id' ≠ id := Nat.ne_of_beq_eq_false he
        show Exit.inBlock id Q (.exit id') a' w'
        simp only [Exit.inBlock, if_neg hne]
        exact hκ (.ex id') s' n' m' a' w' hk h2 h3
  | .loop c, i, s, n, κ, κr, m, a, w, Q, h, hr, hi, hl, hκ, hκr => by
    simp only [exec] at h
    split at h
    · rename_i an han
      split at h
      · rename_i x hx
        obtain ⟨o, ho, hh⟩ := Option.bind_eq_some_iff.1 h
        obtain ⟨m', hr'⟩ := deZ_ok hr hx
        refine hL i an c han (hl 0 c rfl) x o m' a w ho hr' Q (fun y m2 a2 w2 he h2 => ?_) (fun r a2 w2 he h2 => ?_)
        · subst he
          exact hκ (.ex an.ex) _ _ m2 a2 w2 hh h2 mkS_ids
        · subst he
          exact hκr r a2 w2 hh h2
      · cases h
    · refine c_loop (n := 40) (fun q a w => ∃ s n m, iter (fun s n κ => exec X k c (i + 1) s n κ κr) q s n κ = some r ∧ Rep w0 X.N m s a w ∧ Ids s n) ⟨s, n, m, h, hr, hi⟩ (fun q a w ⟨s, n, m, h, hr, hi⟩ => ?_)
      cases q with
      | zero => cases h
      | succ q =>
        refine exec_ok hfn hL h hr hi (fun j c' hj => ?_) (fun e s' n' m' a' w' h1 h2 h3 => ?_) (fun x a' w' h1 h2 => hκr x a' w' h1 h2)
        · have := hl (j + 1) c' (by simp only [loopsOf, List.getElem?_cons_succ]; exact hj)
          rwa [show i + 1 + j = i + (j + 1) by omega]
        · cases e with
          | nrm => exact ⟨q, Nat.lt_succ_self q, s', n', m', h1, h2, h3⟩
          | ex id => exact hκ (.ex id) s' n' m' a' w' h1 h2 h3
  | .exit id, i, s, n, κ, κr, m, a, w, Q, h, hr, hi, hl, hκ, hκr => by
    simp only [exec] at h
    exact wp_exit (hκ (.ex id) s n m a w h hr hi)
  | .ret, i, s, n, κ, κr, m, a, w, Q, h, hr, hi, hl, hκ, hκr => by
    simp only [exec] at h
    split at h
    · rename_i x hx
      rw [hfn] at hx
      exact wp_ret (hκr x a w h (reZ_ok hr hx))
    · cases h
  | .rangeFunc .., i, s, n, κ, κr, m, a, w, Q, h, hr, hi, hl, hκ, hκr => by simp [exec] at h
  | .scope _, i, s, n, κ, κr, m, a, w, Q, h, hr, hi, hl, hκ, hκr => by simp [exec] at h
  | .label _, i, s, n, κ, κr, m, a, w, Q, h, hr, hi, hl, hκ, hκr => by simp [exec] at h
  | .goto _, i, s, n, κ, κr, m, a, w, Q, h, hr, hi, hl, hκ, hκr => by simp [exec] at h
  | .refuse _, i, s, n, κ, κr, m, a, w, Q, h, hr, hi, hl, hκ, hκr => by simp [exec] at h
end
end Go.Proofs.YtaknikdbnfmlfaaDoor.Ex
/- An executor of translated code on abstract states, nineteenth part: loops and functions, from the equations that the executor gives. -/
namespace Go.Proofs.YtaknikdbnfmlfaaDoor.Ex
open Go Go.RowKit
set_option linter.unusedVariables false
set_option linter.unusedSimpArgs false
section
variable {P : Program} {R : List PK}
/-- One round of a loop. -/
def roundF (X : Cx P R) (k : Nat) (an : LAn R) (i : Nat) (c : Code) (x : TT an.TI) : Option (TT an.TO ⊕ PT R) :=
  exec X k c (i + 1) (mkS an.TI x) (mkN an.TI x) (fun e s _ => match e with
    | .nrm => match deZ s an.TI with
      | some x' => an.F k x'
      | none => none
    | .ex id => bif Nat.beq id an.ex then match deZ s an.TO with
        | some y => some (.inl y)
        | none => none
      else none) (fun r => some (.inr r))
theorem sub_loops : ∀ (b : Code) (i : Nat) (c : Code), (loopsOf b)[i]? = some c → ∀ (j : Nat) (c' : Code), (loopsOf c)[j]? = some c' → (loopsOf b)[i + 1 + j]? = some c'
  | .seq x y, i, c, h, j, c', hj => by
    simp only [loopsOf] at h ⊢
    by_cases hi : i < (loopsOf x).length
    · rw [List.getElem?_append_left hi] at h
      have := sub_loops x i c h j c' hj
      rw [List.getElem?_append_left (List.getElem?_eq_some_iff.1 this).1]
      exact this
    · rw [List.getElem?_append_right (by omega)] at h
      have := sub_loops y _ c h j c' hj
      rw [List.getElem?_append_right (by omega), show i + 1 + j - (loopsOf x).length = i - (loopsOf x).length + 1 + j by omega]
      exact this
  | .cond _ x y, i, c, h, j, c', hj => by
    simp only [loopsOf] at h ⊢
    by_cases hi : i < (loopsOf x).length
    · rw [List.getElem?_append_left hi] at h
      have := sub_loops x i c h j c' hj
      rw [List.getElem?_append_left (List.getElem?_eq_some_iff.1 this).1]
      exact this
    · rw [List.getElem?_append_right (by omega)] at h
      have := sub_loops y _ c h j c' hj
      rw [List.getElem?_append_right (by omega), show i + 1 + j - (loopsOf x).length = i - (loopsOf x).length + 1 + j by omega]
      exact this
  | .block _ x, i, c, h, j, c', hj => by
    simp only [loopsOf] at h ⊢
    exact sub_loops x i c h j c' hj
  | .loop x, i, c, h, j, c', hj => by
    simp only [loopsOf] at h ⊢
    cases i with
    | zero =>
      simp only [List.getElem?_cons_zero, Option.some.injEq] at h
      subst h
      rw [Nat.zero_add, Nat.add_comm, List.getElem?_cons_succ]
      exact hj
    | succ i =>
      rw [List.getElem?_cons_succ] at h
      rw [show i + 1 + 1 + j = (i + 1 + j) + 1 by omega, List.getElem?_cons_succ]
      exact sub_loops x i c h j c' hj
  | .skip, i, c, h, _, _, _ => by simp [loopsOf] at h
  | .region .., i, c, h, _, _, _ => by simp [loopsOf] at h
  | .rangeFunc .., i, c, h, _, _, _ => by simp [loopsOf] at h
  | .exit _, i, c, h, _, _, _ => by simp [loopsOf] at h
  | .scope _, i, c, h, _, _, _ => by simp [loopsOf] at h
  | .label _, i, c, h, _, _, _ => by simp [loopsOf] at h
  | .goto _, i, c, h, _, _, _ => by simp [loopsOf] at h
  | .ret, i, c, h, _, _, _ => by simp [loopsOf] at h
  | .refuse _, i, c, h, _, _, _ => by simp [loopsOf] at h
/-- What is owed for each loop that is told. -/
def LoopEq (X : Cx P R) (b : Code) : Prop := ∀ i an c, getL X.L i = some an → (loopsOf b)[i]? = some c → (∀ x, an.F 0 x = none) ∧ ∀ k x, an.F (k + 1) x = roundF X k an i c x
theorem loops_ok {fn : Func} {X : Cx P R} {b : Code} {w0 : Org} (hfn : X.rs = fn.results) (hE : LoopEq X b) : ∀ (k i : Nat) (an : LAn R) (c : Code), getL X.L i = some an → (loopsOf b)[i]? = some c → LoopOk P fn w0 X.N an c k := by
  intro k
  induction k using Nat.strongRecOn with
  | _ k ih =>
    intro i an c han hc x o m a w hF hr Q h1 h2
    refine c_loop (n := k) (fun q a w => q ≤ k ∧ ∃ x m, an.F q x = some o ∧ Rep w0 X.N m (mkS an.TI x) a w) ⟨Nat.le_refl _, x, m, hF, hr⟩ (fun q a w ⟨hq, x, m, hF, hr⟩ => ?_)
    obtain ⟨e0, e1⟩ := hE i an c han hc
    cases q with
    | zero => rw [e0] at hF; cases hF
    | succ q =>
      rw [e1] at hF
      refine exec_ok hfn (fun i an c h h' => ih q (by omega) i an c h h') hF hr mkS_ids (fun j c' hj => sub_loops b i c hc j c' hj) (fun e s' n' m' a' w' h3 h4 h5 => ?_) (fun x a' w' h3 h4 => h2 x a' w' (Option.some.inj h3).symm h4)
      cases e with
      | nrm =>
        simp only at h3
        split at h3
        · rename_i x' hx
          obtain ⟨m2, hr2⟩ := deZ_ok h4 hx
          exact ⟨q, Nat.lt_succ_self q, by omega, x', m2, h3, hr2⟩
        · cases h3
      | ex id =>
        simp only at h3
        rcases cond_some h3 with ⟨he, hk⟩ | ⟨_, h6⟩
        · have := Nat.eq_of_beq_eq_true he
          subst this
          split at hk
          · rename_i y hy
            obtain ⟨m2, hr2⟩ := deZ_ok h4 hy
            exact h1 y m2 a' w' (Option.some.inj hk).symm hr2
          · cases hk
        · cases h6
/-! ### a function's beginning -/
def arL : (k : LK) → k.ty → PV
  | .sc k, x => cellK false k x
  | .row _ s, l => .row false s l
  | .ptr s, x => .rptr false s x 0
  | .fnc f ss, x => .fn f (capPs false ss x)
def arLs : (s : List LK) → LT s → List PV
  | [] => fun _ => []
  | k :: r => match r with
    | [] => fun x => [arL k x]
    | k' :: r' => fun x => arL k x.1 :: arLs (k' :: r') x.2
def arP : (p : PK) → p.ty → PV
  | .one l, x => arL l x
  | .agg ls, x => .agg (arLs ls x)
def arPs : (s : List PK) → PT s → List PV
  | [] => fun _ => []
  | k :: r => match r with
    | [] => fun x => [arP k x]
    | k' :: r' => fun x => arP k x.1 :: arPs (k' :: r') x.2
def atPV : List PV → Nat → PV
  | [], _ => .un
  | p :: r, t => match t with
    | 0 => p
    | t + 1 => atPV r t
def inS (A : List PK) (x : PT A) : AS := ⟨atPV (arPs A x), fun _ => .no⟩
/-- A function run by the executor. -/
def runF (X : Cx P R) (k : Nat) (c : Code) (A : List PK) (x : PT A) : Option (PT R) := exec X k c 0 (inS A x) 0 (fun e s _ => match e with
  | .nrm => reZ P s X.rs R
  | .ex _ => none) some
section
variable {m : Nm} {B0 : Nat} {w : World}
theorem arL_ok {k : LK} {x : k.ty} {v : Value} (h : LKIs (okOf m B0 false) w k x v) : RepV m B0 w (arL k x) v ∧ ∀ p, (arL k x).ids p = true := by
  cases k with
  | sc k => exact ⟨cellK_ok h, fun p => cellK_ids⟩
  | row T s => exact ⟨.row h, fun p => rfl⟩
  | fnc f ss =>
    obtain ⟨cs, rfl, h⟩ := h
    obtain ⟨h1, h2⟩ := capPs_ok h
    exact ⟨.fn h1, fun p => by simp only [arL, PV.ids]; exact h2 p⟩
  | ptr s =>
    have h0 := h
    simp only [LKIs, SKIs] at h
    obtain ⟨b, o, cs, rfl, _⟩ := h
    exact ⟨.rptr h0, fun p => rfl⟩
theorem arLs_ok : ∀ {s : List LK} {x : LT s} {vs : List Value}, LTIs (okOf m B0 false) w s x vs → RepVs m B0 w (arLs s x) vs ∧ ∀ p, idsL p (arLs s x) = true
  | [], x, vs, h => by
    simp only [LTIs] at h
    subst h
    exact ⟨.nil, fun p => rfl⟩
  | [k], x, vs, h => by
    simp only [LTIs] at h
    obtain ⟨u, rfl, h⟩ := h
    obtain ⟨h1, h2⟩ := arL_ok h
    exact ⟨.cons h1 .nil, fun p => by simp only [arLs, idsL, h2, Bool.and_self]⟩
  | k :: k' :: r, x, vs, h => by
    simp only [LTIs] at h
    obtain ⟨u, us, rfl, h1, h2⟩ := h
    obtain ⟨a1, a2⟩ := arL_ok h1
    obtain ⟨a3, a4⟩ := arLs_ok h2
    exact ⟨.cons a1 a3, fun p => by simp only [arLs, idsL, a2, a4, Bool.and_self]⟩
theorem arP_ok {k : PK} {x : k.ty} {v : Value} (h : PKIs (okOf m B0 false) w k x v) : RepV m B0 w (arP k x) v ∧ ∀ p, (arP k x).ids p = true := by
  cases k with
  | one l => exact arL_ok h
  | agg ls =>
    obtain ⟨vs, rfl, h⟩ := h
    obtain ⟨h1, h2⟩ := arLs_ok h
    exact ⟨.agg h1, fun p => h2 p⟩
theorem arPs_ok : ∀ {s : List PK} {x : PT s} {vs : List Value}, PTIs (okOf m B0 false) w s x vs → RepVs m B0 w (arPs s x) vs ∧ ∀ p, idsL p (arPs s x) = true
  | [], x, vs, h => by
    simp only [PTIs] at h
    subst h
    exact ⟨.nil, fun p => rfl⟩
  | [k], x, vs, h => by
    simp only [PTIs] at h
    obtain ⟨u, rfl, h⟩ := h
    obtain ⟨h1, h2⟩ := arP_ok h
    exact ⟨.cons h1 .nil, fun p => by simp only [arPs, idsL, h2, Bool.and_self]⟩
  | k :: k' :: r, x, vs, h => by
    simp only [PTIs] at h
    obtain ⟨u, us, rfl, h1, h2⟩ := h
    obtain ⟨a1, a2⟩ := arP_ok h1
    obtain ⟨a3, a4⟩ := arPs_ok h2
    exact ⟨.cons a1 a3, fun p => by simp only [arPs, idsL, a2, a4, Bool.and_self]⟩
theorem atPV_ok : ∀ {ps : List PV} {vs : List Value}, RepVs m B0 w ps vs → ∀ t, RepV m B0 w (atPV ps t) ((vs[t]?).getD undef)
  | [], _, .nil, t => .un
  | p :: ps, v :: vs, .cons h hs, t => by
    cases t with
    | zero => exact h
    | succ t => simpa [atPV] using atPV_ok hs t
theorem atPV_ids {p : Nat → Bool} : ∀ {ps : List PV}, idsL p ps = true → ∀ t, (atPV ps t).ids p = true
  | [], _, t => rfl
  | q :: ps, h, t => by
    simp only [idsL, Bool.and_eq_true] at h
    cases t with
    | zero => exact h.1
    | succ t => exact atPV_ids h.2 t
end
/-- A FUNCTION's CONTRACT: what the executor hands back is what the call does. -/
theorem calls_ofL {f : FuncId} {fn : Func} {c : Code} {A : List PK} {X : Cx P R} {k : Nat} {F : PT A → Option (PT R)} (hf : P.funcs[f]? = some fn) (hb : fn.body = some c) (hN : A.length + (fn.ntmps - A.length) = X.N) (hrs : X.rs = fn.results) (hE : ∀ (w0 : Org) i an c', getL X.L i = some an → (loopsOf c)[i]? = some c' → LoopOk P fn w0 X.N an c' k) (hF : ∀ x, F x = runF X k c A x) : CallsOk P f A R F := by
  intro x r w vals hx hargs hgk
  rw [hF] at hx
  have hlen : ∀ {s : List PK} {x : PT s} {vs : List Value} {ok : Nat → Prop}, PTIs ok w s x vs → vs.length = s.length := by
    intro s
    induction s with
    | nil => intro x vs ok h; simp only [PTIs] at h; simp [h]
    | cons k r ih =>
      intro x vs ok h
      cases r with
      | nil => simp only [PTIs] at h; obtain ⟨u, rfl, _⟩ := h; rfl
      | cons k' r' =>
        simp only [PTIs] at h
        obtain ⟨u, us, rfl, _, h2⟩ := h
        rw [List.length_cons, ih h2]; rfl
  let m : Nm := ⟨fun _ => undef, fun _ => 0, fun b => b < w.heap.size⟩
  have hargs' : PTIs (okOf m w.heap.size false) w A x vals := PTIs.le (fun b hb => ⟨hb, fun h => by cases h⟩) hargs
  obtain ⟨h1, h2⟩ := arPs_ok hargs'
  have hl := hlen hargs
  refine calls_of_wp hf hb ?_
  have hr : Rep ⟨w, fun _ => none, hgk⟩ X.N m (inS A x) { tmps := vals.toArray ++ Array.replicate (fn.ntmps - vals.toArray.size) undef, defers := [] } w := by
    refine ⟨by simp [hl]; exact hN, rfl, fun t => ?_, ⟨fun i => trivial, fun i j k _ h => (by cases h), fun k hk => hk, Below.refl _ _, fun k ob hk => (by cases hk)⟩⟩
    have := atPV_ok h1 t
    show RepV m _ w (atPV (arPs A x) t) _
    by_cases ht : t < vals.length
    · have e : (vals.toArray ++ Array.replicate (fn.ntmps - vals.toArray.size) undef).getD t undef = (vals[t]?).getD undef := by
        rw [Array.getD_eq_getD_getElem?, Array.getElem?_append_left (by simpa using ht)]
        simp
      show RepV m _ w _ ((vals.toArray ++ Array.replicate (fn.ntmps - vals.toArray.size) undef).getD t undef)
      rw [e]
      exact this
    · have hun : atPV (arPs A x) t = .un := by
        have hpl : (arPs A x).length = vals.length := h1.len
        have key : ∀ (ps : List PV) (t : Nat), ps.length ≤ t → atPV ps t = .un := by
          intro ps
          induction ps with
          | nil => intro t _; rfl
          | cons p ps ih =>
            intro t ht
            cases t with
            | zero => simp at ht
            | succ t => exact ih t (by simpa using ht)
        exact key _ _ (by omega)
      rw [hun]
      exact .un
  have hi : Ids (inS A x) 0 := ⟨fun t => atPV_ids (h2 _) t, fun i => rfl, fun i _ => rfl⟩
  refine exec_ok hrs (fun i an c' h h' => hE _ i an c' h h') hx hr hi (fun j c' hj => by rw [Nat.zero_add]; exact hj) (fun e s' n' m' a' w' h3 h4 h5 => ?_) (fun y a' w' h3 h4 => ?_)
  · cases e with
    | nrm =>
      simp only at h3
      rw [hrs] at h3
      have := reZ_ok h4 h3
      obtain ⟨v, hv1, hv2⟩ := this.ex
      exact ⟨this.nodef, v, hv1, v, rfl, hv2, this.below⟩
    | ex id => cases h3
  · cases h3
    obtain ⟨v, hv1, hv2⟩ := h4.ex
    exact ⟨h4.nodef, v, hv1, v, rfl, hv2, h4.below⟩
theorem calls_of {f : FuncId} {fn : Func} {c : Code} {A : List PK} {X : Cx P R} {k : Nat} {F : PT A → Option (PT R)} (hf : P.funcs[f]? = some fn) (hb : fn.body = some c) (hN : A.length + (fn.ntmps - A.length) = X.N) (hrs : X.rs = fn.results) (hE : LoopEq X c) (hF : ∀ x, F x = runF X k c A x) : CallsOk P f A R F :=
  calls_ofL hf hb hN hrs (fun w0 i an c' h h' => loops_ok hrs hE k i an c' h h') hF
end
end Go.Proofs.YtaknikdbnfmlfaaDoor.Ex
/- An executor of translated code on abstract states, twenty-first part: loops' equations as one list. -/
namespace Go.Proofs.YtaknikdbnfmlfaaDoor.Ex
open Go Go.RowKit
section
variable {P : Program} {R : List PK}
abbrev w64 (n : Int) : Int := IntKind.i64.wrap n
def lp (b : Code) (i : Nat) : Code := (loopsOf b).getD i .skip
def LoopEqs (X : Cx P R) (b : Code) : List (Option (LAn R)) → Nat → Prop
  | [], _ => True
  | none :: r, i => LoopEqs X b r (i + 1)
  | some an :: r, i => ((∀ x, an.F 0 x = none) ∧ ∀ k x, an.F (k + 1) x = roundF X k an i (lp b i) x) ∧ LoopEqs X b r (i + 1)
theorem LoopEqs.get {X : Cx P R} {b : Code} : ∀ {L : List (Option (LAn R))} {j : Nat}, LoopEqs X b L j → ∀ i an c, getL L i = some an → (loopsOf b)[j + i]? = some c → (∀ x, an.F 0 x = none) ∧ ∀ k x, an.F (k + 1) x = roundF X k an (j + i) c x
  | [], j, h, i, an, c, hi, hc => by cases hi
  | none :: r, j, h, i, an, c, hi, hc => by
    cases i with
    | zero => cases hi
    | succ i =>
      have := LoopEqs.get (L := r) h i an c hi (by rwa [show j + 1 + i = j + (i + 1) by omega])
      rwa [show j + 1 + i = j + (i + 1) by omega] at this
  | some an' :: r, j, h, i, an, c, hi, hc => by
    cases i with
    | zero =>
      cases hi
      have : lp b j = c := by
        unfold lp
        rw [List.getD_eq_getElem?_getD]
        rw [Nat.add_zero] at hc
        rw [hc]; rfl
      rw [← this]
      exact h.1
    | succ i =>
      have := LoopEqs.get (L := r) h.2 i an c hi (by rwa [show j + 1 + i = j + (i + 1) by omega])
      rwa [show j + 1 + i = j + (i + 1) by omega] at this
theorem LoopEqs.all {X : Cx P R} {b : Code} (h : LoopEqs X b X.L 0) : LoopEq X b := fun i an c hi hc => by
  have := h.get i an c hi (by rwa [Nat.zero_add])
  rwa [Nat.zero_add] at this
end
end Go.Proofs.YtaknikdbnfmlfaaDoor.Ex
