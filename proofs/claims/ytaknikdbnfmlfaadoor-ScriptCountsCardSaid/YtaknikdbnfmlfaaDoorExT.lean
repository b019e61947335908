/- An executor of translated code on abstract states, twentieth part: regions whose order is open. -/
import Derived.Test.YtaknikdbnfmlfaaDoorExO
import Derived.Orders
namespace Go.Proofs.YtaknikdbnfmlfaaDoor.Ex
open Go Go.RowKit
set_option linter.unusedVariables false
set_option linter.unusedSimpArgs false
def tb (m n : Nat) : Bool := Nat.beq (Nat.mod (Nat.div m (Nat.pow 2 n)) 2) 1
/-- What may turn a block that was there. -/
def mutB : Op → Bool
  | .store _ _ _ => true
  | .mapUpdate .. => true
  | .call c => match c.callee with
    | .builtin b => match b with
      | .len => false
      | .cap => false
      | .min => false
      | .max => false
      | _ => true
    | _ => false
  | _ => false
def appB : List Oper → List Eff → List Bool → AS → AS
  | o :: os, E :: Es, b :: bs, S => appB os Es bs (bif b then S.app o.dst E else S)
  | _, _, _, S => S
def eraE (E : Eff) : Eff := ⟨.un, E.upd.map fun e => (e.1, .no)⟩
def appP (B : Nat) : List Oper → List Eff → Nat → AS → AS
  | o :: os, E :: Es, j, S => appP B os Es (j + 1) (S.app o.dst (bif tb B j then E else eraE E))
  | _, _, _, S => S
def laterD (i : Nat) : List Oper → List Nat → Nat → Bool
  | o :: os, B :: Bs, t => (bif tb B i then false else (match o.dst with | some d => Nat.beq d t | none => false)) || laterD i os Bs t
  | _, _, _ => false
def laterM (hit : Oper → Nat → Bool) (i k : Nat) : List Oper → List Nat → Bool
  | o :: os, B :: Bs => (bif tb B i then false else hit o k) || laterM hit i k os Bs
  | _, _ => false
def defAt (t : Nat) : List Oper → Nat → Option (Nat × Op)
  | [], _ => none
  | o :: r, j => match o.dst with
    | some d => bif Nat.beq d t then some (j, o.op) else defAt t r (j + 1)
    | none => defAt t r (j + 1)
/-- Which block a slot is going to point to. -/
def tgtT (S0 : AS) (n : Nat) (all : List Oper) : Nat → Nat → Option Nat
  | 0, _ => none
  | d + 1, t => match defAt t all 0 with
    | none => match S0.fr t with
      | .ptr i _ => some i
      | _ => none
    | some (j, op) => match op with
      | .alloc _ => some (n + 8 * j)
      | .box _ _ => some (n + 8 * j)
      | .fieldAddr _ (.tmp x) _ => tgtT S0 n all d x
      | .nilCheck (.tmp x) => tgtT S0 n all d x
      | .move (.tmp x) => tgtT S0 n all d x
      | .assign (.tmp x) => tgtT S0 n all d x
      | _ => none
/-- Which blocks an operation may turn. -/
def hitB (P : Program) (S0 : AS) (n : Nat) (all : List Oper) (o : Oper) (k : Nat) : Bool := mutB o.op && (match o.op with
  | .store T (.tmp x) _ => match skOf P 40 T with
    | some s => bif s.all flatK then (match tgtT S0 n all 8 x with
      | some b => Nat.beq b k
      | none => true) else true
    | none => true
  | _ => true)
/-- What operation i may lean on: what it waits for, and what nobody beside it turns. -/
def know (P : Program) (S0 : AS) (B i n : Nat) (all : List Oper) (Es : List Eff) (os : List Oper) (Bs : List Nat) : AS :=
  ⟨fun t => bif laterD i os Bs t then .un else (appP B all Es 0 S0).fr t, fun k => bif laterM (hitB P S0 n all) i k os Bs || Nat.ble (n + 8 * i) k then .no else (appP B all Es 0 S0).σ k⟩
def inP (n B i k : Nat) : Bool := Nat.blt k n || (Nat.beq ((k - n) / 8) i || tb B ((k - n) / 8))
def dstApart (d d' : Option Nat) : Bool := match d with
  | none => true
  | some t => match d' with
    | none => true
    | some t' => !Nat.beq t t'
def keysApart (u u' : List (Nat × ABlk)) : Bool := u.all fun e => u'.all fun e' => !Nat.beq e.1 e'.1
def chkP (B : Nat) (d : Option Nat) (E : Eff) : List Oper → List Eff → Nat → Bool
  | o :: os, E' :: Es, j => (tb B j || (dstApart o.dst d && keysApart E'.upd E.upd)) && chkP B d E os Es (j + 1)
  | _, _, _ => true
def chkE (P : Program) (S0 : AS) (n i B : Nat) (o : Oper) (E : Eff) (all : List Oper) (Es : List Eff) : Bool :=
  (E.v.ids (inP n B i) && E.upd.all fun e => inP n B i e.1 && e.2.ids (inP n B i)) && ((E.upd.all fun e => hitB P S0 n all o e.1 || Nat.ble (n + 8 * i) e.1) && chkP B o.dst E all Es 0)
def rowB (Bs : List Nat) : List Edge → Nat
  | [] => 0
  | e :: es => bif Region.binds .any e then Nat.lor (Nat.lor (Nat.pow 2 e.on) (Bs.getD e.on 0)) (rowB Bs es) else rowB Bs es
def mkB : List Oper → List Nat → List Nat
  | [], acc => acc
  | o :: os, acc => mkB os (acc ++ [rowB acc o.after.toList])
def okB (AB : List Nat) : List Oper → List Nat → Nat → Bool
  | o :: os, B :: Bs, i => Nat.beq B (rowB AB o.after.toList) && Nat.blt B (Nat.pow 2 i) && okB AB os Bs (i + 1)
  | [], [], _ => true
  | _, _, _ => false
section
variable {P : Program} {w0 : Org} {w : World} {N : Nat} {S : AS} {o : Oper} {ρ : Type} {r : ρ} {id0 : Nat}
def regD (Φ : Env P) (N : Nat) (ops : Array Oper) (S0 : AS) (n : Nat) (all : List Oper) : List Oper → List Nat → Nat → List Eff → (List Eff → Option ρ) → Option ρ
  | o :: os, B :: Bs, i, Es, κ => bif dOk o.dst N then stepG Φ ops (know P S0 B i n all Es os Bs) (n + 8 * i) o (splitE fun E => bif chkE P S0 n i B o E all Es then regD Φ N ops S0 n all os Bs (i + 1) (Es ++ [E]) κ else none) else none
  | [], [], _, Es, κ => κ Es
  | _, _, _, _, _ => none
def regO (Φ : Env P) (N : Nat) (ops : Array Oper) (S0 : AS) (n : Nat) (κ : AS → Nat → Option ρ) : Option ρ :=
  bif okB (mkB ops.toList []) ops.toList (mkB ops.toList []) 0 then regD Φ N ops S0 n ops.toList ops.toList (mkB ops.toList []) 0 [] fun Es => κ (appB ops.toList Es (List.replicate ops.toList.length true) S0) (n + 8 * ops.toList.length) else none
/-! ### what is known of the effects -/
structure Good (P : Program) (w0 : Org) (N : Nat) (ops : Array Oper) (S0 : AS) (n : Nat) (all : List Oper) (AB : List Nat) (Es : List Eff) (i : Nat) (o : Oper) (B : Nat) (E : Eff) : Prop where
  d : dOk o.dst N = true
  step : GStep P w0 N ops (know P S0 B i n all (Es.take i) (all.drop (i + 1)) (AB.drop (i + 1))) (n + 8 * i) o E
  chk : chkE P S0 n i B o E all (Es.take i) = true
theorem regD_good {Φ : Env P} {ops : Array Oper} {S0 : AS} {n : Nat} {all : List Oper} {AB : List Nat} (hN : ∀ g t, guardT ops g = some t → t < N) (hAB : AB.length = all.length) :
    ∀ {os : List Oper} {Bs : List Nat} {i : Nat} {Es : List Eff} {κ : List Eff → Option ρ}, regD Φ N ops S0 n all os Bs i Es κ = some r → os = all.drop i → Bs = AB.drop i → Es.length = i → i ≤ all.length →
      ∃ Es', κ Es' = some r ∧ Es'.length = all.length ∧ Es'.take i = Es ∧ ∀ j o B E, i ≤ j → all[j]? = some o → AB[j]? = some B → Es'[j]? = some E → Good P w0 N ops S0 n all AB Es' j o B E
  | o :: os, B :: Bs, i, Es, κ, h, ho, hb, hl, hi => by
    rcases cond_some h with ⟨hd, hh⟩ | ⟨_, h2⟩
    · obtain ⟨E, h1, h2⟩ := stepG_ok (w0 := w0) (N := N) (fun g want t _ hg => hN g t hg) hh
      rcases cond_some (splitE_ok h1) with ⟨hc, hk⟩ | ⟨_, h3⟩
      · have hlt : i < all.length := by
          rcases Nat.lt_or_ge i all.length with h4 | h4
          · exact h4
          · rw [List.drop_eq_nil_of_le h4] at ho; cases ho
        have hlb : i < AB.length := by
          rcases Nat.lt_or_ge i AB.length with h4 | h4
          · exact h4
          · rw [List.drop_eq_nil_of_le h4] at hb; cases hb
        rw [List.drop_eq_getElem_cons hlt] at ho
        rw [List.drop_eq_getElem_cons hlb] at hb
        cases ho; cases hb
        obtain ⟨Es', k1, k2, k4, k5⟩ := regD_good hN hAB hk rfl rfl (by simp [hl]) hlt
        have hE : Es'.take i = Es := by
          have := congrArg (List.take i) k4
          rw [List.take_take, Nat.min_eq_left (Nat.le_succ i)] at this
          rw [this, List.take_append_of_le_length (by omega), List.take_of_length_le (by omega)]
        refine ⟨Es', k1, k2, hE, fun j o' B' E' hj h5 h6 h7 => ?_⟩
        rcases Nat.eq_or_lt_of_le hj with rfl | hj
        · rw [List.getElem?_eq_getElem hlt] at h5
          rw [List.getElem?_eq_getElem hlb] at h6
          cases h5; cases h6
          have h8 : E' = E := by
            have h9 : (Es'.take (i + 1))[i]? = some E' := by rw [List.getElem?_take_of_lt (Nat.lt_succ_self i)]; exact h7
            rw [k4, List.getElem?_append_right (by omega)] at h9
            simpa [hl] using h9.symm
          subst h8
          exact ⟨hd, by rw [hE]; exact h2, by rw [hE]; exact hc⟩
        · exact k5 j o' B' E' hj h5 h6 h7
      · cases h3
    · cases h2
  | [], [], i, Es, κ, h, ho, hb, hl, hi => by
    have h1 : all.length ≤ i := by
      have := congrArg List.length ho
      simp at this; omega
    exact ⟨Es, h, by omega, List.take_of_length_le (by omega), fun j o B E hj h5 _ _ => by have := (List.getElem?_eq_some_iff.1 h5).1; omega⟩
  | [], _ :: _, _, _, _, h, _, _, _, _ => by cases h
  | _ :: _, [], _, _, _, h, _, _, _, _ => by cases h
/-! ### what is told of the effects, one by one -/
theorem tb_eq (m n : Nat) : tb m n = m.testBit n := by
  unfold tb
  rw [Nat.testBit_eq_decide_div_mod_eq]
  show Nat.beq (m / 2 ^ n % 2) 1 = _
  cases h : Nat.beq (m / 2 ^ n % 2) 1 with
  | true => simp [Nat.eq_of_beq_eq_true h]
  | false => simp [Nat.ne_of_beq_eq_false h]
theorem rowB_bit {Bs : List Nat} {l : Nat} : ∀ {es : List Edge}, tb (rowB Bs es) l = true → ∃ e ∈ es, Region.binds .any e = true ∧ (l = e.on ∨ tb (Bs.getD e.on 0) l = true)
  | [], h => by rw [tb_eq] at h; simp [rowB] at h
  | e :: es, h => by
    unfold rowB at h
    cases hb : Region.binds .any e with
    | false =>
      rw [hb] at h
      obtain ⟨x, hx, h2⟩ := rowB_bit (es := es) h
      exact ⟨x, List.mem_cons_of_mem _ hx, h2⟩
    | true =>
      rw [hb, tb_eq] at h
      change Nat.testBit ((2 ^ e.on ||| Bs.getD e.on 0) ||| rowB Bs es) l = true at h
      rw [Nat.testBit_or, Nat.testBit_or, Bool.or_eq_true, Bool.or_eq_true] at h
      rcases h with (h | h) | h
      · rw [Nat.testBit_two_pow] at h
        exact ⟨e, List.mem_cons_self, hb, .inl (of_decide_eq_true h).symm⟩
      · exact ⟨e, List.mem_cons_self, hb, .inr (by rw [tb_eq]; exact h)⟩
      · obtain ⟨x, hx, h2⟩ := rowB_bit (es := es) (by rw [tb_eq]; exact h)
        exact ⟨x, List.mem_cons_of_mem _ hx, h2⟩
theorem tb_lt {B i l : Nat} (h : Nat.blt B (Nat.pow 2 i) = true) (hl : tb B l = true) : l < i := by
  have h1 : B < 2 ^ i := Nat.le_of_ble_eq_true h
  rcases Nat.lt_or_ge l i with h2 | h2
  · exact h2
  · rw [tb_eq, Nat.testBit_lt_two_pow (Nat.lt_of_lt_of_le h1 (Nat.pow_le_pow_right (by omega) h2))] at hl
    cases hl
theorem okB_get {AB : List Nat} : ∀ {os : List Oper} {Bs : List Nat} {i : Nat}, okB AB os Bs i = true → Bs.length = os.length ∧ ∀ j o B, os[j]? = some o → Bs[j]? = some B → B = rowB AB o.after.toList ∧ Nat.blt B (Nat.pow 2 (i + j)) = true
  | [], [], _, _ => ⟨rfl, fun j o B h => by simp at h⟩
  | o :: os, B :: Bs, i, h => by
    simp only [okB, Bool.and_eq_true] at h
    obtain ⟨h1, h2⟩ := okB_get h.2
    refine ⟨by simp [h1], fun j o' B' h3 h4 => ?_⟩
    cases j with
    | zero => cases h3; cases h4; exact ⟨Nat.eq_of_beq_eq_true h.1.1, h.1.2⟩
    | succ j =>
      have := h2 j o' B' h3 h4
      rwa [show i + 1 + j = i + (j + 1) by omega] at this
  | [], _ :: _, _, h => by cases h
  | _ :: _, [], _, h => by cases h
/-! ### states out of effects -/
theorem appB_inv {A : AS → Prop} : ∀ {os : List Oper} {Es : List Eff} {bs : List Bool} {S : AS}, (∀ (q : Nat) (o : Oper) (E : Eff), os[q]? = some o → Es[q]? = some E → bs[q]? = some true → ∀ S, A S → A (S.app o.dst E)) → A S → A (appB os Es bs S)
  | o :: os, E :: Es, b :: bs, S, h, hA => by
    unfold appB
    refine appB_inv (fun q o' E' h1 h2 h3 => h (q + 1) o' E' h1 h2 h3) ?_
    cases b with
    | true => exact h 0 o E rfl rfl rfl S hA
    | false => exact hA
  | [], _, _, _, _, hA => by unfold appB; exact hA
  | _ :: _, [], _, _, _, hA => by unfold appB; exact hA
  | _ :: _, _ :: _, [], _, _, hA => by unfold appB; exact hA
theorem appB_app : ∀ {o1 o2 : List Oper} {e1 e2 : List Eff} {b1 b2 : List Bool} {S : AS}, o1.length = e1.length → e1.length = b1.length → appB (o1 ++ o2) (e1 ++ e2) (b1 ++ b2) S = appB o2 e2 b2 (appB o1 e1 b1 S)
  | [], _, [], _, [], _, S, _, _ => by simp [appB]
  | o :: os, o2, e :: es, e2, b :: bs, b2, S, h1, h2 => by
    simp only [List.cons_append, appB]
    exact appB_app (by simpa using h1) (by simpa using h2)
  | [], _, _ :: _, _, _, _, _, h1, _ => by simp at h1
  | [], _, [], _, _ :: _, _, _, _, h2 => by simp at h2
  | _ :: _, _, [], _, _, _, _, h1, _ => by simp at h1
  | _ :: _, _, _ :: _, _, [], _, _, _, h2 => by simp at h2
def look : List (Nat × ABlk) → Nat → Option ABlk
  | [], _ => none
  | e :: r, k => match look r k with
    | some b => some b
    | none => bif Nat.beq k e.1 then some e.2 else none
theorem updσ_look : ∀ {l : List (Nat × ABlk)} {σ : Nat → ABlk} {k : Nat}, updσ σ l k = (look l k).getD (σ k)
  | [], σ, k => rfl
  | e :: r, σ, k => by
    unfold updσ look
    rw [updσ_look (l := r)]
    cases look r k with
    | some b => rfl
    | none => cases Nat.beq k e.1 <;> rfl
theorem look_mem : ∀ {l : List (Nat × ABlk)} {k : Nat} {b : ABlk}, look l k = some b → ∃ e ∈ l, e.1 = k ∧ e.2 = b
  | [], _, _, h => by cases h
  | e :: r, k, b, h => by
    unfold look at h
    cases h1 : look r k with
    | some b' =>
      rw [h1] at h; cases h
      obtain ⟨x, hx, h2⟩ := look_mem h1
      exact ⟨x, List.mem_cons_of_mem _ hx, h2⟩
    | none =>
      rw [h1] at h
      simp only at h
      cases hq : Nat.beq k e.1 with
      | true => rw [hq] at h; cases h; exact ⟨e, List.mem_cons_self, (Nat.eq_of_beq_eq_true hq).symm, rfl⟩
      | false => rw [hq] at h; cases h
theorem look_era : ∀ {l : List (Nat × ABlk)} {k : Nat}, look (l.map fun e => (e.1, ABlk.no)) k = (look l k).map fun _ => .no
  | [], _ => rfl
  | e :: r, k => by
    simp only [List.map_cons, look]
    rw [look_era (l := r)]
    cases look r k with
    | some b => rfl
    | none => cases Nat.beq k e.1 <;> rfl
theorem le_app {S S' : AS} {d : Option Nat} {E : Eff} (h : Le S S') : Le (S.app d E) (S'.app d E) := by
  refine ⟨fun t => ?_, fun k => ?_⟩
  · simp only [AS.app, updf_get]
    split
    · exact .inr rfl
    · exact h.fr t
  · simp only [AS.app, updσ_look]
    cases look E.upd k with
    | some b => exact .inr rfl
    | none => exact h.σ k
theorem le_era {S S' : AS} {d : Option Nat} {E : Eff} (h : Le S S') : Le (S.app d (eraE E)) S' := by
  refine ⟨fun t => ?_, fun k => ?_⟩
  · simp only [AS.app, updf_get, eraE]
    split
    · exact .inl rfl
    · exact h.fr t
  · simp only [AS.app, updσ_look, eraE, look_era]
    cases look E.upd k with
    | some b => exact .inl rfl
    | none => exact h.σ k
theorem le_era_app {S S' : AS} {d : Option Nat} {E : Eff} (h : Le S S') : Le (S.app d (eraE E)) (S'.app d E) := by
  refine ⟨fun t => ?_, fun k => ?_⟩
  · simp only [AS.app, updf_get, eraE]
    split
    · exact .inl rfl
    · exact h.fr t
  · simp only [AS.app, updσ_look, eraE, look_era]
    cases look E.upd k with
    | some b => exact .inl rfl
    | none => exact h.σ k
theorem le_pre {B : Nat} : ∀ {os o2 : List Oper} {Es : List Eff} {bs : List Bool} {j : Nat} {S S' : AS}, os.length = Es.length → Es.length = bs.length → Le S S' → (∀ q x, bs[q]? = some x → tb B (j + q) = true → x = true) → Le (appP B (os ++ o2) Es j S) (appB os Es bs S')
  | [], [], [], [], j, S, S', _, _, h, _ => by simpa [appP, appB] using h
  | [], o :: os, [], [], j, S, S', _, _, h, _ => by simpa [appP, appB] using h
  | o :: os, o2, E :: Es, b :: bs, j, S, S', h1, h2, h, hb => by
    simp only [List.cons_append, appP, appB]
    refine le_pre (by simpa using h1) (by simpa using h2) ?_ (fun q x h3 h4 => hb (q + 1) x h3 (by rwa [show j + (q + 1) = j + 1 + q by omega]))
    cases ht : tb B j with
    | true =>
      have := hb 0 b rfl ht
      subst this
      exact le_app h
    | false => cases b with
      | true => exact le_era_app h
      | false => exact le_era h
  | [], _, _ :: _, _, _, _, _, h1, _, _, _ => by simp at h1
  | [], _, [], _ :: _, _, _, _, _, h2, _, _ => by simp at h2
  | _ :: _, _, [], _, _, _, _, h1, _, _, _ => by simp at h1
  | _ :: _, _, _ :: _, [], _, _, _, _, h2, _, _ => by simp at h2
theorem le_off {T S : AS} {d : Option Nat} {E : Eff} (h : Le T S) (hd : ∀ t, d = some t → T.fr t = .un) (hk : ∀ e ∈ E.upd, T.σ e.1 = .no) : Le T (S.app d E) := by
  refine ⟨fun t => ?_, fun k => ?_⟩
  · simp only [AS.app, updf_get]
    split
    · rename_i he; exact .inl (hd t he)
    · exact h.fr t
  · simp only [AS.app, updσ_look]
    cases hq : look E.upd k with
    | some b =>
      obtain ⟨e, he, h1, _⟩ := look_mem hq
      exact .inl (h1 ▸ hk e he)
    | none => exact h.σ k
theorem app_comm {S : AS} {d d' : Option Nat} {E E' : Eff} (hd : dstApart d d' = true) (hk : keysApart E.upd E'.upd = true) : (S.app d E).app d' E' = (S.app d' E').app d E := by
  unfold AS.app
  congr 1
  · funext t
    show updf (updf S.fr d E.v) d' E'.v t = updf (updf S.fr d' E'.v) d E.v t
    rw [updf_get, updf_get, updf_get, updf_get]
    by_cases h1 : d = some t
    · by_cases h2 : d' = some t
      · subst h1; subst h2
        simp [dstApart] at hd
      · simp [h1, h2]
    · by_cases h2 : d' = some t <;> simp [h1, h2]
  · funext k
    show updσ (updσ S.σ E.upd) E'.upd k = updσ (updσ S.σ E'.upd) E.upd k
    rw [updσ_look, updσ_look, updσ_look, updσ_look]
    cases h1 : look E.upd k with
    | none => rfl
    | some b =>
      cases h2 : look E'.upd k with
      | none => rfl
      | some b' =>
        obtain ⟨e, he, h3, _⟩ := look_mem h1
        obtain ⟨e', he', h4, _⟩ := look_mem h2
        have := List.all_eq_true.1 (List.all_eq_true.1 hk e he) e' he'
        rw [h3, h4] at this
        have h5 : Nat.beq k k = true := Nat.beq_refl k
        rw [h5] at this
        cases this
theorem appB_comm {d : Option Nat} {E : Eff} : ∀ {os : List Oper} {Es : List Eff} {bs : List Bool} {S : AS}, (∀ (q : Nat) (o : Oper) (E' : Eff), os[q]? = some o → Es[q]? = some E' → bs[q]? = some true → dstApart d o.dst = true ∧ keysApart E.upd E'.upd = true) → appB os Es bs (S.app d E) = (appB os Es bs S).app d E
  | o :: os, E' :: Es, b :: bs, S, h => by
    simp only [appB]
    rw [← appB_comm (fun q o' E'' h1 h2 h3 => h (q + 1) o' E'' h1 h2 h3)]
    cases b with
    | true =>
      have := h 0 o E' rfl rfl rfl
      simp only [cond_true]
      rw [app_comm this.1 this.2]
    | false => rfl
  | [], _, _, _, _ => by simp [appB]
  | _ :: _, [], _, _, _ => by simp [appB]
  | _ :: _, _ :: _, [], _, _ => by simp [appB]
theorem chkP_get {B : Nat} {d : Option Nat} {E : Eff} : ∀ {os : List Oper} {Es : List Eff} {j : Nat}, chkP B d E os Es j = true → ∀ (q : Nat) (o : Oper) (E' : Eff), os[q]? = some o → Es[q]? = some E' → tb B (j + q) = false → dstApart o.dst d = true ∧ keysApart E'.upd E.upd = true
  | o :: os, E' :: Es, j, h, q, o', E'', h1, h2, h3 => by
    simp only [chkP, Bool.and_eq_true] at h
    cases q with
    | zero =>
      cases h1; cases h2
      have := h.1
      rw [Nat.add_zero] at h3
      rw [h3, Bool.false_or, Bool.and_eq_true] at this
      exact this
    | succ q => exact chkP_get h.2 q o' E'' h1 h2 (by rwa [show j + 1 + q = j + (q + 1) by omega])
  | [], _, _, _, q, _, _, h1, _, _ => by simp at h1
  | _ :: _, [], _, _, q, _, _, _, h2, _ => by simp at h2
theorem laterD_get {i : Nat} {t : Nat} : ∀ {os : List Oper} {Bs : List Nat}, ∀ (q : Nat) (o : Oper) (B : Nat), os[q]? = some o → Bs[q]? = some B → tb B i = false → o.dst = some t → laterD i os Bs t = true
  | o :: os, B :: Bs, q, o', B', h1, h2, h3, h4 => by
    unfold laterD
    cases q with
    | zero =>
      cases h1; cases h2
      rw [h3, h4]
      simp
    | succ q =>
      rw [laterD_get q o' B' h1 h2 h3 h4]
      simp
  | [], _, q, _, _, h1, _, _, _ => by simp at h1
  | _ :: _, [], q, _, _, _, h2, _, _ => by simp at h2
theorem laterM_get {hit : Oper → Nat → Bool} {i k : Nat} : ∀ {os : List Oper} {Bs : List Nat}, ∀ (q : Nat) (o : Oper) (B : Nat), os[q]? = some o → Bs[q]? = some B → tb B i = false → hit o k = true → laterM hit i k os Bs = true
  | o :: os, B :: Bs, q, o', B', h1, h2, h3, h4 => by
    unfold laterM
    cases q with
    | zero =>
      cases h1; cases h2
      rw [h3, h4]
      simp
    | succ q =>
      rw [laterM_get q o' B' h1 h2 h3 h4]
      simp
  | [], _, q, _, _, h1, _, _, _ => by simp at h1
  | _ :: _, [], q, _, _, _, h2, _, _ => by simp at h2
/-! ### the region, whatever its order -/
theorem split_at {α : Type} : ∀ {l : List α} {i : Nat} {x : α}, l[i]? = some x → l = l.take i ++ x :: l.drop (i + 1) ∧ (l.take i).length = i
  | a :: l, 0, x, h => by cases h; simp
  | a :: l, i + 1, x, h => by
    obtain ⟨h1, h2⟩ := split_at (l := l) h
    refine ⟨?_, by simp [h2]⟩
    simp only [List.take_succ_cons, List.drop_succ_cons, List.cons_append]
    rw [← h1]
  | [], i, x, h => by simp at h
theorem inP_old {n B i j k : Nat} (h : inP n B i k = true) (hi : i ≠ j) (hb : tb B j = false) : old (n + 8 * j) k = true := by
  unfold old
  rw [Bool.or_eq_true]
  unfold inP at h
  rw [Bool.or_eq_true, Bool.or_eq_true] at h
  by_cases hlt : k < n + 8 * j
  · exact .inl (Nat.ble_eq_true_of_le hlt)
  · by_cases hge : n + 8 * j + 8 ≤ k
    · exact .inr (Nat.ble_eq_true_of_le hge)
    · exfalso
      have hq : (k - n) / 8 = j := by omega
      rw [hq] at h
      rcases h with h | h | h
      · have : k < n := Nat.le_of_ble_eq_true h
        omega
      · exact hi (Nat.eq_of_beq_eq_true h).symm
      · rw [hb] at h; cases h
theorem inP_lt {n B i len k : Nat} (h : inP n B i k = true) (hB : Nat.blt B (Nat.pow 2 i) = true) (hi : i < len) : Nat.blt k (n + 8 * len) = true := by
  refine Nat.ble_eq_true_of_le ?_
  unfold inP at h
  rw [Bool.or_eq_true, Bool.or_eq_true] at h
  rcases h with h | h | h
  · have : k < n := Nat.le_of_ble_eq_true h
    omega
  · have := Nat.eq_of_beq_eq_true h
    omega
  · have := tb_lt hB h
    omega
theorem ids_all {x : PV} : x.ids (fun _ => true) = true :=
  PV.rec (motive_1 := fun x => x.ids (fun _ => true) = true) (motive_2 := fun l => idsL (fun _ => true) l = true) rfl (fun _ => rfl) (fun _ _ _ => rfl) (fun _ => rfl) (fun _ _ => rfl) (fun _ _ _ _ => rfl) (fun _ _ _ _ => rfl) (fun _ => rfl) (fun _ _ _ => rfl) (fun _ _ => rfl) (fun _ _ => rfl) (fun ks vs h => by simpa [PV.ids] using h)
    (fun f caps h => by simpa [PV.ids] using h) (fun cs h => by simpa [PV.ids] using h) (fun vs h => by simpa [PV.ids] using h) rfl (fun x r h1 h2 => by simp [idsL, h1, h2]) x
theorem Rep.same {m : Nm} {a : Act} {w' : World} (h : Rep w0 N m S a w) (hh : w'.heap = w.heap) (ho : w'.os = w.os) (ht : w'.tape = w.tape) (hu : w'.output = w.output) : Rep w0 N m S a w' := by
  have hg : Grows (fun _ => true) m m w w' := ⟨fun _ _ => rfl, fun _ _ => rfl, fun b hb => ⟨hb, by rw [hh]⟩⟩
  have all : ∀ {x : PV}, x.ids (fun _ => true) = true := ids_all
  refine ⟨h.size, h.nodef, fun t => RepV.move hg (h.get t) all, ⟨fun i => ?_, h.heap.apart, fun k hk => by rw [hh]; exact h.heap.flt k hk, ⟨ho.trans h.heap.below.os, ht.trans h.heap.below.tape, hu.trans h.heap.below.output, by rw [hh]; exact h.heap.below.size, fun k hk => by rw [hh]; exact h.heap.below.block k hk⟩, fun k ob hk => by rw [hh]; exact h.heap.kept k ob hk⟩⟩
  have hb := h.heap.blk i
  cases hs : S.σ i with
  | no => trivial
  | box T cs =>
    rw [hs] at hb
    obtain ⟨h1, h2, vs, h3, h4⟩ := hb
    exact ⟨h1, h2, vs, RepVs.move hg h3 (by have := all (x := .agg cs); simpa [PV.ids] using this), by rw [hh]; exact h4⟩
  | own fr T s l =>
    rw [hs] at hb
    obtain ⟨xs, h1, h2, h3⟩ := hb
    refine ⟨xs, ?_, fun i x hx => TupIs.move (hg.ok _ _) (h2 i x hx), h3⟩
    obtain ⟨h4, h5⟩ := h1
    refine ⟨h4, ?_⟩
    rw [hh]
    exact h5
  | mset l =>
    rw [hs] at hb
    obtain ⟨h1, h2, es, cl, h3, h4⟩ := hb
    exact ⟨h1, h2, es, cl, by rw [hh]; exact h3, h4⟩
  | obj n x j =>
    rw [hs] at hb
    obtain ⟨h1, h2⟩ := hb
    exact ⟨fun k hk => by rw [hh]; exact h1 k hk, OIs_move h2 (fun k _ => by rw [hh]) (fun k hk => ⟨hk, by rw [hh]⟩)⟩
section
variable {ops : Array Oper} {S0 : AS} {n : Nat} {AB : List Nat} {Es : List Eff} {Q : Exit → Act → World → Prop}
structure Reg (P : Program) (w0 : Org) (N : Nat) (ops : Array Oper) (S0 : AS) (n : Nat) (AB : List Nat) (Es : List Eff) : Prop where
  len : Es.length = ops.toList.length
  ab : AB.length = ops.toList.length
  row : ∀ i o B, ops.toList[i]? = some o → AB[i]? = some B → B = rowB AB o.after.toList ∧ Nat.blt B (Nat.pow 2 i) = true
  good : ∀ i o B E, ops.toList[i]? = some o → AB[i]? = some B → Es[i]? = some E → Good P w0 N ops S0 n ops.toList AB Es i o B E
  ids : Ids S0 n
def Closed (AB : List Nat) (L : List Bool) : Prop := ∀ (j B : Nat), AB[j]? = some B → L[j]? = some true → ∀ l : Nat, tb B l = true → L[l]? = some true
theorem Reg.le (h : Reg P w0 N ops S0 n AB Es) {L : List Bool} (hL : L.length = ops.toList.length) (hc : Closed AB L) {i : Nat} {o : Oper} {B : Nat} (hi : L[i]? = some false) (ho : ops.toList[i]? = some o) (hB : AB[i]? = some B) (hb : ∀ l, tb B l = true → L[l]? = some true) :
    Le (know P S0 B i n ops.toList (Es.take i) (ops.toList.drop (i + 1)) (AB.drop (i + 1))) (appB ops.toList Es L S0) := by
  have hil : i < ops.toList.length := (List.getElem?_eq_some_iff.1 ho).1
  obtain ⟨E, hE⟩ : ∃ E, Es[i]? = some E := ⟨_, List.getElem?_eq_getElem (by rw [h.len]; exact hil)⟩
  obtain ⟨o1, o2⟩ := split_at ho
  obtain ⟨e1, e2⟩ := split_at hE
  obtain ⟨l1, l2⟩ := split_at hi
  have hsp : appB ops.toList Es L S0 = appB (ops.toList.drop (i + 1)) (Es.drop (i + 1)) (L.drop (i + 1)) (appB (ops.toList.take i) (Es.take i) (L.take i) S0) := by
    conv => lhs; rw [o1, e1, l1]
    rw [appB_app (by rw [o2, e2]) (by rw [e2, l2])]
    rfl
  rw [hsp]
  have hpre : Le (appP B ops.toList (Es.take i) 0 S0) (appB (ops.toList.take i) (Es.take i) (L.take i) S0) := by
    have := le_pre (B := B) (os := ops.toList.take i) (o2 := ops.toList.drop i) (Es := Es.take i) (bs := L.take i) (j := 0) (S := S0) (S' := S0) (by rw [o2, e2]) (by rw [e2, l2]) (Le.refl _) (fun q x h3 h4 => by
      rw [Nat.zero_add] at h4
      have h5 := hb q h4
      rw [List.getElem?_take] at h3
      split at h3
      · rw [h5] at h3; cases h3; rfl
      · cases h3)
    rwa [List.take_append_drop] at this
  have hk : Le (know P S0 B i n ops.toList (Es.take i) (ops.toList.drop (i + 1)) (AB.drop (i + 1))) (appB (ops.toList.take i) (Es.take i) (L.take i) S0) := by
    refine ⟨fun t => ?_, fun k => ?_⟩
    · simp only [know]
      cases laterD i (ops.toList.drop (i + 1)) (AB.drop (i + 1)) t with
      | true => exact .inl rfl
      | false => exact hpre.fr t
    · simp only [know]
      cases (laterM (hitB P S0 n ops.toList) i k (ops.toList.drop (i + 1)) (AB.drop (i + 1)) || Nat.ble (n + 8 * i) k) with
      | true => exact .inl rfl
      | false => exact hpre.σ k
  refine appB_inv (A := Le _) (fun q oq Eq h1 h2 h3 S hS => ?_) hk
  rw [List.getElem?_drop] at h1 h2 h3
  obtain ⟨Bq, hBq⟩ : ∃ Bq, AB[i + 1 + q]? = some Bq := ⟨_, List.getElem?_eq_getElem (by rw [h.ab]; exact (List.getElem?_eq_some_iff.1 h1).1)⟩
  have hni : tb Bq i = false := by
    cases ht : tb Bq i with
    | false => rfl
    | true =>
      have := hc _ _ hBq h3 i ht
      rw [hi] at this; cases this
  have hg := h.good _ _ _ _ h1 hBq h2
  refine le_off hS (fun t ht => ?_) (fun e he => ?_)
  · simp only [know]
    rw [laterD_get q oq Bq (by rw [List.getElem?_drop]; exact h1) (by rw [List.getElem?_drop]; exact hBq) hni ht]
    rfl
  · simp only [know]
    have hc := hg.chk
    simp only [chkE, Bool.and_eq_true] at hc
    have hme := List.all_eq_true.1 hc.2.1 e he
    rw [Bool.or_eq_true] at hme
    rcases hme with hm | hm
    · rw [laterM_get q oq Bq (by rw [List.getElem?_drop]; exact h1) (by rw [List.getElem?_drop]; exact hBq) hni hm]
      rfl
    · have h5 := Nat.le_of_ble_eq_true hm
      have h6 : Nat.ble (n + 8 * i) e.1 = true := Nat.ble_eq_true_of_le (by omega)
      rw [h6, Bool.or_true]
      rfl
theorem Fresh.app {d : Option Nat} {E : Eff} (h : Fresh id0 S) (hv : E.v.ids (old id0) = true) (hu : ∀ e ∈ E.upd, old id0 e.1 = true ∧ e.2.ids (old id0) = true) : Fresh id0 (S.app d E) := by
  refine ⟨fun t => ?_, updσ_ids h.σ (fun e he => (hu e he).2), fun k hk => ?_⟩
  · show (updf S.fr d E.v t).ids _ = true
    rw [updf_get]
    split
    · exact hv
    · exact h.fr t
  · show updσ S.σ E.upd k = .no
    rw [updσ_look]
    cases hq : look E.upd k with
    | some b =>
      obtain ⟨e, he, h1, _⟩ := look_mem hq
      have := (hu e he).1
      rw [h1, hk] at this
      cases this
    | none => exact h.no k hk
theorem Reg.fresh (h : Reg P w0 N ops S0 n AB Es) {L : List Bool} (hL : L.length = ops.toList.length) (hc : Closed AB L) {i : Nat} (hi : L[i]? = some false) : Fresh (n + 8 * i) (appB ops.toList Es L S0) := by
  have hm : ∀ k, Nat.blt k n = true → old (n + 8 * i) k = true := fun k hk => by
    unfold old
    rw [show Nat.blt k (n + 8 * i) = true from Nat.ble_eq_true_of_le (Nat.le_trans (Nat.le_of_ble_eq_true hk) (by omega))]
    rfl
  refine appB_inv (A := Fresh _) (fun q oq Eq h1 h2 h3 S hS => ?_) ⟨fun t => ids_mono hm (h.ids.fr t), fun k => blk_ids_mono hm (h.ids.σ k), fun k hk => ?_⟩
  · obtain ⟨Bq, hBq⟩ : ∃ Bq, AB[q]? = some Bq := ⟨_, List.getElem?_eq_getElem (by rw [h.ab]; exact (List.getElem?_eq_some_iff.1 h1).1)⟩
    have hni : tb Bq i = false := by
      cases ht : tb Bq i with
      | false => rfl
      | true =>
        have := hc _ _ hBq h3 i ht
        rw [hi] at this; cases this
    have hqi : q ≠ i := fun e => by subst e; rw [hi] at h3; cases h3
    have hg := h.good _ _ _ _ h1 hBq h2
    have hck := hg.chk
    simp only [chkE, Bool.and_eq_true] at hck
    refine hS.app (ids_mono (fun k hk => inP_old hk hqi hni) hck.1.1) (fun e he => ?_)
    have h5 := List.all_eq_true.1 hck.1.2 e he
    rw [Bool.and_eq_true] at h5
    exact ⟨inP_old h5.1 hqi hni, blk_ids_mono (fun k hk => inP_old hk hqi hni) h5.2⟩
  · refine h.ids.no k ?_
    unfold old at hk
    rw [Bool.or_eq_false_iff] at hk
    rcases Nat.lt_or_ge k (n + 8 * i) with h1 | h1
    · have h2 : Nat.blt k (n + 8 * i) = true := Nat.ble_eq_true_of_le h1
      rw [h2] at hk; cases hk.1
    · omega
theorem Reg.up (h : Reg P w0 N ops S0 n AB Es) {L : List Bool} (hL : L.length = ops.toList.length) (hc : Closed AB L) {i : Nat} {o : Oper} {E : Eff} (hi : L[i]? = some false) (ho : ops.toList[i]? = some o) (hE : Es[i]? = some E) : appB ops.toList Es (L.set i true) S0 = (appB ops.toList Es L S0).app o.dst E := by
  obtain ⟨o1, o2⟩ := split_at ho
  obtain ⟨e1, e2⟩ := split_at hE
  obtain ⟨l1, l2⟩ := split_at hi
  have hil : i < L.length := (List.getElem?_eq_some_iff.1 hi).1
  have hs : L.set i true = L.take i ++ true :: L.drop (i + 1) := List.set_eq_take_append_cons_drop .. |>.trans (if_pos hil)
  have hx : ∀ b, appB ops.toList Es (L.take i ++ b :: L.drop (i + 1)) S0 = appB (ops.toList.drop (i + 1)) (Es.drop (i + 1)) (L.drop (i + 1)) (bif b then (appB (ops.toList.take i) (Es.take i) (L.take i) S0).app o.dst E else appB (ops.toList.take i) (Es.take i) (L.take i) S0) := fun b => by
    conv => lhs; rw [o1, e1]
    rw [appB_app (by rw [o2, e2]) (by rw [e2, l2])]
    rfl
  have hx2 := hx false
  rw [← l1] at hx2
  rw [hs, hx true, hx2]
  simp only [cond_true, cond_false]
  refine appB_comm (fun q oq Eq h1 h2 h3 => ?_)
  rw [List.getElem?_drop] at h1 h2 h3
  obtain ⟨Bq, hBq⟩ : ∃ Bq, AB[i + 1 + q]? = some Bq := ⟨_, List.getElem?_eq_getElem (by rw [h.ab]; exact (List.getElem?_eq_some_iff.1 h1).1)⟩
  have hni : tb Bq i = false := by
    cases ht : tb Bq i with
    | false => rfl
    | true =>
      have := hc _ _ hBq h3 i ht
      rw [hi] at this; cases this
  have hck := (h.good _ _ _ _ h1 hBq h2).chk
  simp only [chkE, Bool.and_eq_true] at hck
  exact chkP_get hck.2.2 i o E ho (by rw [List.getElem?_take_of_lt (by omega)]; exact hE) (by rw [Nat.zero_add]; exact hni)
theorem ready_get {L : List Bool} {i : Nat} (hL : L.length = ops.toList.length) : i ∈ Region.ready .any ops L.toArray ↔ L[i]? = some false ∧ ∃ o, ops.toList[i]? = some o ∧ ∀ e ∈ o.after.toList, Region.binds .any e = true → L[e.on]? = some true := by
  have hget : ∀ (j : Nat) (d : Bool), L.toArray.getD j d = (L[j]?).getD d := fun j d => by simp [Array.getD_eq_getD_getElem?]
  have hsz : ops.size = L.length := by rw [hL]; simp
  unfold Region.ready
  rw [List.mem_filter, List.mem_range, Bool.and_eq_true, hget]
  constructor
  · rintro ⟨h1, h2, h3⟩
    obtain ⟨o, ho⟩ : ∃ o, ops.toList[i]? = some o := ⟨_, List.getElem?_eq_getElem (by simpa using h1)⟩
    have hli : i < L.length := by omega
    have ho' : ops[i]? = some o := by simpa using ho
    rw [List.getElem?_eq_getElem hli] at h2 ⊢
    refine ⟨by simpa using h2, o, ho, fun e he hb => ?_⟩
    rw [ho'] at h3
    simp only [Option.map_some, Option.getD_some, Array.all_eq_true'] at h3
    have := h3 e (by simpa using he)
    rw [hb, hget] at this
    cases hq : L[e.on]? with
    | none => rw [hq] at this; simp at this
    | some x => rw [hq] at this; simpa using this
  · rintro ⟨h1, o, h2, h3⟩
    have hli : i < L.length := (List.getElem?_eq_some_iff.1 h1).1
    have ho' : ops[i]? = some o := by simpa using h2
    refine ⟨by omega, by rw [h1]; rfl, ?_⟩
    rw [ho']
    simp only [Option.map_some, Option.getD_some, Array.all_eq_true']
    intro e he
    cases hb : Region.binds .any e with
    | false => rfl
    | true =>
      rw [hget, h3 e (by simpa using he) hb]
      rfl
theorem Reg.wp (h : Reg P w0 N ops S0 n AB Es) (hQ : ∀ m a w, Rep w0 N m (appB ops.toList Es (List.replicate ops.toList.length true) S0) a w → Q .normal a w) :
    ∀ (fuel : Nat) (L : List Bool) (m : Nm) (a : Act) (w : World), L.length = ops.toList.length → L.count false = fuel → Closed AB L → Rep w0 N m (appB ops.toList Es L S0) a w → wpAny P .any ops Q fuel L.toArray a w
  | 0, L, m, a, w, hL, hf, hc, hr => by
    have hall : ∀ i : Nat, L[i]? ≠ some false := fun i hi => by
      rw [List.count_eq_zero] at hf
      exact hf (List.mem_of_getElem? hi)
    have hrep : L = List.replicate ops.toList.length true := by
      refine List.eq_replicate_iff.2 ⟨hL, fun b hb => ?_⟩
      obtain ⟨i, hi⟩ := List.mem_iff_getElem?.1 hb
      cases b with
      | true => rfl
      | false => exact absurd hi (hall i)
    refine ⟨?_, hQ m a w (hrep ▸ hr)⟩
    refine List.eq_nil_iff_forall_not_mem.2 (fun i hi => ?_)
    exact hall i ((ready_get hL).1 hi).1
  | fuel + 1, L, m, a, w, hL, hf, hc, hr => by
    refine ⟨fun hnil => ?_, fun i hi => ?_⟩
    · exfalso
      have hex : ∃ i : Nat, L[i]? = some false := by
        have : false ∈ L := List.count_pos_iff.1 (by omega)
        exact List.mem_iff_getElem?.1 this
      have hmin : ∀ k : Nat, (∃ i : Nat, i ≤ k ∧ L[i]? = some false) → ∃ i : Nat, L[i]? = some false ∧ ∀ j : Nat, j < i → L[j]? ≠ some false := by
        intro k
        induction k with
        | zero =>
          rintro ⟨i, hi, h1⟩
          exact ⟨i, h1, fun j hj => by omega⟩
        | succ k ihk =>
          rintro ⟨i, hi, h1⟩
          by_cases hlow : ∃ j : Nat, j ≤ k ∧ L[j]? = some false
          · exact ihk hlow
          · exact ⟨i, h1, fun j hj hq => hlow ⟨j, by omega, hq⟩⟩
      obtain ⟨i0, h1⟩ := hex
      obtain ⟨i, hi, hlow⟩ := hmin i0 ⟨i0, Nat.le_refl _, h1⟩
      have hil : i < ops.toList.length := by rw [← hL]; exact (List.getElem?_eq_some_iff.1 hi).1
      have ho := List.getElem?_eq_getElem hil
      obtain ⟨B, hB⟩ : ∃ B, AB[i]? = some B := ⟨_, List.getElem?_eq_getElem (by rw [h.ab]; exact hil)⟩
      obtain ⟨k1, k2⟩ := h.row _ _ _ ho hB
      have hin : i ∈ Region.ready .any ops L.toArray := (ready_get hL).2 ⟨hi, _, ho, fun e he hb => ?_⟩
      · rw [hnil] at hin; cases hin
      · have hlt : e.on < i := by
          refine tb_lt k2 ?_
          rw [k1]
          have key : ∀ es : List Edge, e ∈ es → tb (rowB AB es) e.on = true := by
            intro es
            induction es with
            | nil => intro hx; cases hx
            | cons x es ih =>
              intro hx
              unfold rowB
              rcases List.mem_cons.1 hx with rfl | hx
              · rw [hb, tb_eq]
                show Nat.testBit ((2 ^ e.on ||| AB.getD e.on 0) ||| rowB AB es) e.on = true
                simp [Nat.testBit_or, Nat.testBit_two_pow_self]
              · have h9 := ih hx
                cases Region.binds .any x with
                | false => exact h9
                | true =>
                  rw [tb_eq] at h9 ⊢
                  show Nat.testBit ((2 ^ x.on ||| AB.getD x.on 0) ||| rowB AB es) e.on = true
                  simp [Nat.testBit_or, h9]
          exact key _ he
        have hle : e.on < L.length := by rw [hL]; omega
        have := hlow _ hlt
        rw [List.getElem?_eq_getElem hle] at this ⊢
        cases hq : L[e.on] with
        | true => rfl
        | false => rw [hq] at this; exact absurd rfl this
    · obtain ⟨hLi, o, ho, hon⟩ := (ready_get hL).1 hi
      have hil : i < ops.toList.length := (List.getElem?_eq_some_iff.1 ho).1
      obtain ⟨B, hB⟩ : ∃ B, AB[i]? = some B := ⟨_, List.getElem?_eq_getElem (by rw [h.ab]; exact hil)⟩
      obtain ⟨E, hE⟩ : ∃ E, Es[i]? = some E := ⟨_, List.getElem?_eq_getElem (by rw [h.len]; exact hil)⟩
      obtain ⟨k1, k2⟩ := h.row _ _ _ ho hB
      have hbits : ∀ l, tb B l = true → L[l]? = some true := fun l hl => by
        rw [k1] at hl
        obtain ⟨e, he, hb, h4⟩ := rowB_bit hl
        have h5 := hon e he hb
        rcases h4 with rfl | h4
        · exact h5
        · rw [List.getD_eq_getElem?_getD] at h4
          have h6 : e.on < AB.length := by rw [h.ab, ← hL]; exact (List.getElem?_eq_some_iff.1 h5).1
          rw [List.getElem?_eq_getElem h6, Option.getD_some] at h4
          exact hc _ _ (List.getElem?_eq_getElem h6) h5 l h4
      have hg := h.good _ _ _ _ ho hB hE
      have ho' : ops[i]? = some o := by simpa using ho
      have hset : L.toArray.setIfInBounds i true = (L.set i true).toArray := by simp
      unfold wpOp
      rw [ho', hset]
      have hfr := h.fresh hL hc hLi
      have hstep := hg.step (appB ops.toList Es L S0) m a w (h.le hL hc hLi ho hB hbits) hfr hr (wpAny P .any ops Q fuel (L.set i true).toArray) Q (fun m' w' v hgr hh' hv => by
        have hput := hr.put hg.d hgr hfr.fr hv hh'
        rw [← h.up hL hc hLi ho hE] at hput
        refine Reg.wp h hQ fuel (L.set i true) m' _ w' (by simp [hL]) ?_ ?_ hput
        · have hiL : i < L.length := by rw [hL]; exact hil
          rw [List.count_set hiL]
          have : L[i] = false := by rw [List.getElem?_eq_getElem hiL] at hLi; simpa using hLi
          simp [this, hf]
        · intro j B' hj hlj l hl
          have hset1 : ∀ q, L[q]? = some true → (L.set i true)[q]? = some true := fun q hq => by
            rw [List.getElem?_set]
            split
            · rename_i e
              subst e
              rw [hq] at hLi; cases hLi
            · exact hq
          by_cases hji : i = j
          · subst hji
            rw [hB] at hj; cases hj
            exact hset1 l (hbits l hl)
          · rw [List.getElem?_set_ne hji] at hlj
            exact hset1 l (hc j B' hj hlj l hl))
      by_cases hw : Region.wanted o (yielded ops a.tmps) = true
      · simp only [hw, if_true] at hstep ⊢
        exact .inl hstep
      · simp only [hw] at hstep ⊢
        exact hstep
theorem regO_ok {Φ : Env P} {κ : AS → Nat → Option ρ} {m : Nm} {a : Act} {id : Nat} (hm : P.follows .mixedOrders = true) (hN : ∀ g t, guardT ops g = some t → t < N) (h : regO Φ N ops S0 n κ = some r) (hr : Rep w0 N m S0 a w) (hi : Ids S0 n)
    (hQ : ∀ S' n' m' a' w', κ S' n' = some r → Rep w0 N m' S' a' w' → Ids S' n' → Q .normal a' w') : (Code.region id ops true).wp P Q a w := by
  unfold regO at h
  rcases cond_some h with ⟨hok, hh⟩ | ⟨_, h2⟩
  · obtain ⟨hl, hrow⟩ := okB_get hok
    obtain ⟨Es, k1, k2, k3, k4⟩ := regD_good (w0 := w0) hN hl hh rfl rfl rfl (Nat.zero_le _)
    have hreg : Reg P w0 N ops S0 n (mkB ops.toList []) Es := ⟨k2, hl, fun i o B h1 h2 => by have := hrow i o B h1 h2; rwa [Nat.zero_add] at this, fun i o B E h1 h2 h3 => k4 i o B E (Nat.zero_le _) h1 h2 h3, hi⟩
    refine wp_region_any hm ?_
    have hr' : Rep w0 N m S0 a { w with drawn := w.drawn + 1 } := hr.same rfl rfl rfl rfl
    have hids : Ids (appB ops.toList Es (List.replicate ops.toList.length true) S0) (n + 8 * ops.toList.length) := by
      refine appB_inv (A := fun S => Ids S (n + 8 * ops.toList.length)) (fun q oq Eq h1 h2 h3 S hS => ?_) ?_
      · have hql : q < ops.toList.length := (List.getElem?_eq_some_iff.1 h1).1
        have hBq : (mkB ops.toList [])[q]? = some (mkB ops.toList [])[q] := List.getElem?_eq_getElem (by rw [hl]; exact hql)
        have hck := (hreg.good _ _ _ _ h1 hBq h2).chk
        have hB2 := (hreg.row _ _ _ h1 hBq).2
        simp only [chkE, Bool.and_eq_true] at hck
        refine hS.app (Nat.le_refl _) ?_
        simp only [Eff.idsOk, Bool.and_eq_true, List.all_eq_true]
        refine ⟨ids_mono (fun k hk => inP_lt hk hB2 hql) hck.1.1, fun e he => ?_⟩
        have h5 := List.all_eq_true.1 hck.1.2 e he
        rw [Bool.and_eq_true] at h5
        exact ⟨inP_lt h5.1 hB2 hql, blk_ids_mono (fun k hk => inP_lt hk hB2 hql) h5.2⟩
      · have hm : ∀ k, Nat.blt k n = true → Nat.blt k (n + 8 * ops.toList.length) = true := fun k hk => Nat.ble_eq_true_of_le (Nat.le_trans (Nat.le_of_ble_eq_true hk) (by omega))
        exact ⟨fun t => ids_mono hm (hi.fr t), fun k => blk_ids_mono hm (hi.σ k), fun k hk => hi.no k (by omega)⟩
    have h0 : appB ops.toList Es (List.replicate ops.toList.length false) S0 = S0 := by
      have key : ∀ (os : List Oper) (Es : List Eff) (S : AS) (q : Nat), appB os Es (List.replicate q false) S = S := by
        intro os
        induction os with
        | nil => intro Es S q; simp [appB]
        | cons o os ih =>
          intro Es S q
          cases Es with
          | nil => simp [appB]
          | cons E Es =>
            cases q with
            | zero => simp [appB]
            | succ q => simp only [List.replicate_succ, appB, cond_false]; exact ih Es S q
      exact key _ _ _ _
    have := hreg.wp (Q := Q) (fun m' a' w' h1 => hQ _ _ m' a' w' k1 h1 hids) ops.toList.length (List.replicate ops.toList.length false) m a _ (by simp) (by simp) (fun j B _ hj => by
      rw [List.getElem?_replicate] at hj
      split at hj <;> cases hj) (by rw [h0]; exact hr')
    have hsz : ops.toList.length = ops.size := by simp
    rw [hsz] at this
    have harr : Array.replicate ops.size false = (List.replicate ops.size false).toArray := by simp
    rw [harr]
    exact this
  · cases h2
end
end
end Go.Proofs.YtaknikdbnfmlfaaDoor.Ex
