/- An executor of translated code on abstract states, twelfth part: append. -/
import Derived.Test.YtggikacbelogcaaGreatExK
namespace Go.Proofs.YtggikacbelogcaaGreat.Ex
open Go Go.RowKit
set_option linter.unusedVariables false
set_option linter.unusedSimpArgs false
mutual
theorem SKIs.flat {ok ok' : Nat → Prop} {w : World} : ∀ {k : SK} {x : k.ty} {v : Value}, flatK k = true → SKIs ok w k x v → SKIs ok' w k x v
  | .int _, _, _, _, h => by simpa only [SKIs] using h
  | .bool, _, _, _, h => by simpa only [SKIs] using h
  | .str, _, _, _, h => by simpa only [SKIs] using h
  | .row s, _, _, hf, _ => by simp [flatK] at hf
  | .ptr s, _, _, hf, _ => by simp [flatK] at hf
  | .adr, _, _, _, h => by simpa only [SKIs] using h
  | .fnc _, _, _, _, h => by simpa only [SKIs] using h
theorem TupIs.flat {ok ok' : Nat → Prop} {w : World} : ∀ {s : List SK} {x : Tup s} {cs : List Value}, s.all flatK = true → TupIs ok w s x cs → TupIs ok' w s x cs
  | [], _, _, _, h => by simpa only [TupIs] using h
  | [k], x, cs, hf, h => by
    simp only [TupIs] at h ⊢
    obtain ⟨u, rfl, h⟩ := h
    exact ⟨u, rfl, SKIs.flat (by simpa using hf) h⟩
  | k :: k' :: r, x, cs, hf, h => by
    simp only [TupIs] at h ⊢
    obtain ⟨u, us, rfl, h1, h2⟩ := h
    simp only [List.all_cons, Bool.and_eq_true] at hf
    exact ⟨u, us, rfl, SKIs.flat hf.1 h1, TupIs.flat (by simp [hf.2.1, hf.2.2]) h2⟩
end
mutual
theorem SKIs.one {ok : Nat → Prop} {w : World} : ∀ {k : SK} {x : k.ty} {v : Value}, SKIs ok w k x v → v.oneCell' = true
  | .int _, _, _, h => by simp only [SKIs] at h; subst h; rfl
  | .bool, _, _, h => by simp only [SKIs] at h; subst h; rfl
  | .str, _, _, h => by simp only [SKIs] at h; subst h; rfl
  | .row s, _, _, h => by simp only [SKIs] at h; obtain ⟨A, c, rfl, _⟩ := h; rfl
  | .ptr s, _, _, h => by simp only [SKIs] at h; obtain ⟨b, o, cs, rfl, _⟩ := h; rfl
  | .adr, _, _, h => by simp only [SKIs] at h; subst h; rfl
  | .fnc _, _, _, h => by simp only [SKIs] at h; subst h; rfl
theorem TupIs.one {ok : Nat → Prop} {w : World} : ∀ {s : List SK} {x : Tup s} {cs : List Value}, TupIs ok w s x cs → ∀ u ∈ cs, u.oneCell' = true
  | [], _, _, h => by simp only [TupIs] at h; subst h; intro u hu; cases hu
  | [k], x, cs, h => by
    simp only [TupIs] at h
    obtain ⟨u, rfl, h⟩ := h
    intro v hv
    simp at hv
    subst hv
    exact SKIs.one h
  | k :: k' :: r, x, cs, h => by
    simp only [TupIs] at h
    obtain ⟨u, us, rfl, h1, h2⟩ := h
    intro v hv
    rcases List.mem_cons.1 hv with rfl | hv
    · exact SKIs.one h1
    · exact TupIs.one h2 v hv
end
theorem RowsIs.one {ok : Nat → Prop} {w : World} {s : List SK} {l : List (Tup s)} {xs : List Value} (h : RowsIs ok w s l xs) (hl : xs.length = l.length * s.length) : ∀ u ∈ xs, u.oneCell' = true := fun u hu => by
  obtain ⟨q, hq, rfl⟩ := List.mem_iff_getElem.1 hu
  rw [hl] at hq
  have hs : 0 < s.length := Nat.pos_of_ne_zero (fun e => by rw [e] at hq; omega)
  have hi : q / s.length < l.length := Nat.div_lt_of_lt_mul (by rw [Nat.mul_comm]; exact hq)
  have ht := h (q / s.length) _ (List.getElem?_eq_getElem hi)
  refine TupIs.one ht _ (List.mem_iff_getElem?.2 ⟨q % s.length, ?_⟩)
  rw [List.getElem?_take_of_lt (Nat.mod_lt _ hs), List.getElem?_drop]
  have : q / s.length * s.length + q % s.length = q := by rw [Nat.mul_comm]; exact Nat.div_add_mod q s.length
  rw [this]
  exact List.getElem?_eq_getElem _
theorem RowsIs.app {ok : Nat → Prop} {w : World} {s : List SK} {l l' : List (Tup s)} {xs ys : List Value} (h : RowsIs ok w s l xs) (h' : RowsIs ok w s l' ys) (hl : xs.length = l.length * s.length) : RowsIs ok w s (l ++ l') (xs ++ ys) := fun i x hx => by
  by_cases hi : i < l.length
  · rw [List.getElem?_append_left hi] at hx
    have := h i x hx
    have hm : (i + 1) * s.length ≤ l.length * s.length := Nat.mul_le_mul_right _ hi
    rw [Nat.add_mul, Nat.one_mul] at hm
    rw [List.drop_append_of_le_length (by omega), List.take_append_of_le_length (by rw [List.length_drop]; omega)]
    exact this
  · rw [List.getElem?_append_right (by omega)] at hx
    have := h' _ x hx
    rw [Nat.sub_mul, ← hl] at this
    rw [List.drop_append, List.drop_of_length_le (by rw [hl]; exact Nat.mul_le_mul_right _ (by omega)), List.nil_append]
    exact this
/-- The cells of a row that is read, one behind the other. -/
theorem row_flat {ok : Nat → Prop} {w : World} {s : List SK} {l : List (Tup s)} {A : Option Addr} {c : Nat} (h : SKIs ok w (.row s) l (.slice A l.length c)) : ∀ n, n ≤ l.length → ∃ news : List Value, news.length = n * s.length ∧ RowsIs ok w s (l.take n) news ∧ ∀ b o, A = some ⟨b, o, none⟩ → CellsAt w b o news := by
  simp only [SKIs] at h
  obtain ⟨A', c', he, hc, hr⟩ := h
  cases he
  intro n
  induction n with
  | zero => exact fun _ => ⟨[], by simp, RowsIs.nil, fun b o _ j u hu => by simp at hu⟩
  | succ n ih =>
    intro hn
    obtain ⟨news, h1, h2, h3⟩ := ih (by omega)
    obtain ⟨b, o, cs, rfl, hok, hlen, hcs, ht⟩ := hr n l[n] (List.getElem?_eq_getElem (by omega))
    have hln : (l.take n).length = n := by rw [List.length_take]; omega
    refine ⟨news ++ cs, by rw [List.length_append, h1, hlen, Nat.add_mul, Nat.one_mul], ?_, fun b' o' he j u hu => ?_⟩
    · rw [List.take_succ_eq_append_getElem (by omega)]
      refine h2.app (RowsIs.cons ?_ RowsIs.nil) (by rw [hln]; exact h1)
      rw [List.take_of_length_le (by omega)]
      exact ht
    · cases he
      by_cases hj : j < news.length
      · rw [List.getElem?_append_left hj] at hu
        exact h3 b o rfl j u hu
      · rw [List.getElem?_append_right (by omega)] at hu
        have := hcs _ u hu
        rw [h1] at this hj
        rwa [show o + n * s.length + (j - n * s.length) = o + j by omega] at this
def srcRow (S : AS) (s : List SK) (x : PV) : Option (List (Tup s) × Bool) := match x with
  | .row fr s' l => match asRows s' s l with
    | some l' => some (l', fr)
    | none => none
  | .own j => match S.σ j with
    | .own fr _ s' l => match asRows s' s l with
      | some l' => some (l', fr)
      | none => none
    | _ => none
  | .v (.slice none 0 _) => some ([], true)
  | _ => none
/-- What holds of a row whose elements are taken. -/
theorem srcRow_ok {w0 : Org} {N : Nat} {m : Nm} {S : AS} {a : Act} {w : World} (hr : Rep w0 N m S a w) {s : List SK} {x : PV} {v : Value} {l : List (Tup s)} {f : Bool} (h : srcRow S s x = some (l, f)) (hx : RepV m w0.heap.size w x v) :
    ∃ A c news, v = .slice A l.length c ∧ (A = none → l = []) ∧ (∀ ad, A = some ad → ∀ j u, news[j]? = some u → w.cell? (ad.add j) = some u) ∧ news.length = l.length * s.length ∧ RowsIs (okOf m w0.heap.size f) w s l news := by
  unfold srcRow at h
  split at h
  · rename_i fr s' l'
    split at h
    · rename_i l2 hl
      cases h
      obtain ⟨rfl, rfl⟩ := asRows_some hl
      cases hx with | row hx =>
      have h4 := hx
      simp only [SKIs] at h4
      obtain ⟨A, c, rfl, hc, hr4⟩ := h4
      obtain ⟨news, h1, h2, h3⟩ := row_flat hx l.length (Nat.le_refl _)
      rw [List.take_length] at h2
      refine ⟨A, c, news, rfl, fun hA => ?_, fun ad hA j u hu => ?_, h1, h2⟩
      · cases l with
        | nil => rfl
        | cons y l' => obtain ⟨b, o, cs, he, _⟩ := hr4 0 y rfl; rw [hA] at he; cases he
      · cases l with
        | nil => simp at h1; subst h1; simp at hu
        | cons y l' =>
          obtain ⟨b, o, cs, he, _⟩ := hr4 0 y rfl
          rw [hA] at he
          cases he
          rw [Addr.add_mid]
          exact h3 b o hA j u hu
    · cases h
  · rename_i j
    split at h
    · rename_i fr T s' l' hσ
      split at h
      · rename_i l2 hl
        cases h
        obtain ⟨rfl, rfl⟩ := asRows_some hl
        cases hx with | own hx =>
        have hb := hr.heap.blk j
        rw [hσ] at hb
        obtain ⟨xs, b1, b2, b3⟩ := hb
        rcases b1.2 with ⟨hn, hn0⟩ | ⟨g', cap, cur, hv', hg', hh, _⟩
        · rw [hn] at hx
          cases hx
          have : l = [] := List.eq_nil_of_length_eq_zero hn0
          subst this
          exact ⟨none, 0, [], rfl, fun _ => rfl, (by intro ad hA; cases hA), by simp, RowsIs.nil⟩
        · rw [hv'] at hx
          cases hx
          refine ⟨some ⟨g', 0, none⟩, _, xs, rfl, (by intro hA; cases hA), fun ad hA j u hu => ?_, b1.1, b2⟩
          cases hA
          exact b1.cells (by rw [hv']; rfl) j u hu
      · cases h
    · cases h
  · cases h
    cases hx
    exact ⟨none, _, [], rfl, fun _ => rfl, (by intro ad hA; cases hA), by simp, RowsIs.nil⟩
  · cases h
section
variable {P : Program} {w0 : Org} {w : World} {N : Nat} {S : AS} {o : Oper} {ρ : Type} {r : ρ} {id0 : Nat}
/-- What append to l1 of what x holds does. -/
def appTo (P : Program) (S : AS) (id0 : Nat) (e : TypeId) (dl : List Nat) (fr : Bool) (s : List SK) (l : List (Tup s)) (x : PV) (κ : Eff → Option ρ) : Option ρ := match P.info? e with
  | some inf => match inf.zero with
    | some z => bif Nat.beq inf.size s.length && (Nat.beq z.cells.size s.length && (Nat.blt 0 s.length && Nat.blt 0 inf.bytes)) then match srcRow S s x with
      | some (l2, f2) => bif decide ((l.length + l2.length) * inf.bytes ≤ 140737488355328) then κ ⟨.own id0, outs (dl ++ []) ++ [(id0, .own (fr && (f2 || s.all flatK)) e s (l ++ l2))]⟩ else none
      | none => none else none
    | none => none
  | none => none
def opAppend (P : Program) (S : AS) (id0 : Nat) (ts : Array TypeId) (b x : PV) (κ : Eff → Option ρ) : Option ρ := match ts.toList with
  | [t, t'] => bif Nat.beq t t' then match P.underlying t with
    | some (.slice e) => match b with
      | .own i => match S.σ i with
        | .own fr T s l => bif Nat.beq T e then appTo P S id0 e [i] fr s l x κ else none
        | _ => none
      | .v (.slice none 0 0) => match skOf P 12 e with
        | some s => appTo P S id0 e [] true s [] x κ
        | none => none
      | _ => none
    | _ => none else none
  | _ => none
theorem run_append_nil {t ty e : TypeId} {inf : TypeInfo} {A : Option Addr} {n c c' : Nat} (hu : P.underlying t = some (.slice e)) (hi : P.info? e = some inf) (hc : n ≤ c) : (Builtin.append_ #[t, t] ty #[.slice A n c, .slice none 0 c']).run P w = .ok (.slice A n c) w := by
  cases A with
  | none => simp [Builtin.append_, run_underlying hu, sizeOf, typeInfo, hi, Builtin.lenOf, Builtin.firstCells, hc]
  | some ad => simp [Builtin.append_, run_underlying hu, sizeOf, typeInfo, hi, Builtin.lenOf, Builtin.firstCells, hc, storeCells]
theorem appTo_ok {t e : TypeId} {b x : Operand} {dl : List Nat} {fr : Bool} {s : List SK} {l : List (Tup s)} {κ : Eff → Option ρ} (ho : o.op = .call { callee := .builtin .append, args := #[b, x], argTypes := #[t, t] }) (hu : P.underlying t = some (.slice e))
    (hb : ∀ m a w, Rep w0 N m S a w → ∃ xs, w.ownsRow w0.heap.size e s.length (a.eval b) l.length xs ∧ RowsIs (okOf m w0.heap.size fr) w s l xs ∧ ∀ k, (a.eval b).ownBlock = some k → ∃ i ∈ dl, blkOf m i (S.σ i) = some k)
    (h : appTo P S id0 e dl fr s l (S.ev x) κ = some r) : Sound P w0 N S id0 o κ r := by
  unfold appTo at h
  split at h
  · rename_i inf hi
    split at h
    · rename_i z hz
      rcases cond_some h with ⟨hsz, hh⟩ | ⟨_, h2⟩
      · clear h
        simp only [Bool.and_eq_true] at hsz
        have e1 := Nat.eq_of_beq_eq_true hsz.1
        have e2 := Nat.eq_of_beq_eq_true hsz.2.1
        have e3 : 0 < s.length := Nat.le_of_ble_eq_true hsz.2.2.1
        have e4 : 0 < inf.bytes := Nat.le_of_ble_eq_true hsz.2.2.2
        split at hh
        · rename_i l2 f2 hsrc
          rcases cond_some hh with ⟨hlim, hk⟩ | ⟨_, h2⟩
          · clear hh
            have hbytes := of_decide_eq_true hlim
            have hmax : l.length + l2.length ≤ maxLen := by
              have h1 : l.length + l2.length ≤ (l.length + l2.length) * inf.bytes := Nat.le_mul_of_pos_right _ e4
              exact Nat.le_trans (Nat.le_trans h1 hbytes) (by decide)
            refine ⟨_, hk, ?_⟩
            intro S' m a w hl hf hr K Q hK
            have hr0 := hr.le hl
            obtain ⟨xs, o1, o2, o3⟩ := hb m a w hr0
            obtain ⟨A, c, news, hv, hA, hcell, hnl, hnr⟩ := srcRow_ok hr0 hsrc (hr0.ev x)
            have hbase : w0.heap.size ≤ w.heap.size := hr.heap.below.size
            have run : ∃ v' w', (Builtin.append_ #[t, t] o.type #[a.eval b, a.eval x]).run P w = .ok v' w' ∧ w'.ownsRow w0.heap.size e s.length v' (l.length + l2.length) (xs ++ news) ∧ w.grownBy w' (a.eval b).ownBlock ∧ (v'.ownBlock = (a.eval b).ownBlock ∨ v'.ownBlock = some w.heap.size) := by
              cases A with
              | none =>
                have hl2 := hA rfl
                subst hl2
                have hn0 : news = [] := by simpa using hnl
                subst hn0
                rw [hv]
                rcases o1.2 with ⟨hn, hn0⟩ | ⟨g, cap, cur, hv', hg', hh, hle, _⟩
                · refine ⟨a.eval b, w, ?_, by simpa using o1, ⟨rfl, rfl, rfl, Nat.le_refl _, fun _ _ _ => rfl⟩, .inl rfl⟩
                  rw [hn]; exact run_append_nil hu hi (Nat.le_refl _)
                · refine ⟨a.eval b, w, ?_, by simpa using o1, ⟨rfl, rfl, rfl, Nat.le_refl _, fun _ _ _ => rfl⟩, .inl rfl⟩
                  rw [hv']; exact run_append_nil hu hi hle
              | some ad =>
                rw [hv]
                obtain ⟨v', w', h1, h2, h3, _, h5⟩ := run_append_own_at (P := P) w w0.heap.size t o.type e inf z s.length inf.bytes hu hi hz e1 rfl e2 e3 (a.eval b) l.length xs o1 ad l2.length c news hnl (hcell ad rfl) (hnr.one hnl) hmax hbytes hbase
                exact ⟨v', w', h1, h2, h3, h5⟩
            obtain ⟨v', w', hrun, hown, hgr, hat⟩ := run
            have hrow : ∀ k, (a.eval b).ownBlock = some k → ∃ i ∈ dl, blkOf m i (S'.σ i) = some k := fun k hk => by
              obtain ⟨i, hi, hib⟩ := o3 k hk
              refine ⟨i, hi, ?_⟩
              rcases hl.σ i with h1 | h1
              · rw [h1] at hib; cases hib
              · rw [h1]; exact hib
            have hnF : ∀ k, (a.eval b).ownBlock = some k → ¬ m.F k := fun k hk => by
              obtain ⟨i, _, hib⟩ := hrow k hk
              exact (blk_lt hr.heap hib).2.1
            have hstay : ∀ f g : Bool, (g = true → f = true) → Stays (okOf m w0.heap.size f) (okOf ⟨m.v, m.b, frz m []⟩ w0.heap.size g) w w' := fun f g hfg k hk => ⟨⟨.inl hk.1, fun hg => hk.2 (hfg hg)⟩, hgr.block k (hr.heap.flt k hk.1) (fun e => hnF k e.symm hk.1)⟩
            obtain ⟨m', hg, hh', hv'⟩ := Heap.newrow (dl := dl) (fl := []) (row := (a.eval b).ownBlock) (fr := fr && (f2 || s.all flatK)) (T := e) (s := s) (l := l ++ l2) (xs := xs ++ news) (v' := v') hr.heap hf hgr hrow (fun i hi => by cases hi) (fun i hi => by cases hi)
              (fun k hk => by
                rcases hat with h1 | h1
                · exact .inl (h1 ▸ hk)
                · rw [h1] at hk; cases hk; exact .inr (Nat.le_refl _))
              (by rw [List.length_append]; exact hown)
              (by
                refine RowsIs.app (RowsIs.move (hstay _ _ (fun h => by simp at h; exact h.1)) o2) ?_ o1.1
                by_cases hfl : s.all flatK = true
                · intro i y hy
                  have := hnr i y hy
                  exact TupIs.flat hfl (TupIs.move (hstay f2 false (fun h => by cases h)) this)
                · refine RowsIs.move (hstay f2 _ (fun h => ?_)) hnr
                  simp only [Bool.and_eq_true, Bool.or_eq_true] at h
                  exact h.2.resolve_right hfl)
            unfold Oper.wp execOp
            simp only [ho, resolve, invoke, builtin, Sem.run_bind, Sem.run_pure, Result.andThen_ok, List.map_toArray, List.map_cons, List.map_nil, hrun]
            have hsl : ∃ A n c, v' = .slice A n c := by
              rcases hown.2 with ⟨h1, _⟩ | ⟨g, cap, cur, h1, _⟩ <;> exact ⟨_, _, _, h1⟩
            obtain ⟨A', n', c', rfl⟩ := hsl
            exact hK m' _ _ hg hh' (.own hv')
          · cases h2
        · cases hh
      · cases h2
    · cases h
  · cases h
theorem append_ok {ts : Array TypeId} {b x : Operand} {κ : Eff → Option ρ} (ho : o.op = .call { callee := .builtin .append, args := #[b, x], argTypes := ts }) (h : opAppend P S id0 ts (S.ev b) (S.ev x) κ = some r) : Sound P w0 N S id0 o κ r := by
  unfold opAppend at h
  split at h
  · rename_i t t' hts
    have hts' : ts = #[t, t'] := by
      apply Array.ext'
      exact hts
    subst hts'
    rcases cond_some h with ⟨htt, hh⟩ | ⟨_, h2⟩
    · clear h
      have := Nat.eq_of_beq_eq_true htt
      subst this
      split at hh
      · rename_i e hu
        split at hh
        · rename_i i hbv
          split at hh
          · rename_i fr T s l hσ
            rcases cond_some hh with ⟨hT, hk⟩ | ⟨_, h2⟩
            · have := Nat.eq_of_beq_eq_true hT
              subst this
              refine appTo_ok ho hu (fun m a w hr => ?_) hk
              have h3 := hr.ev b
              rw [hbv] at h3
              generalize hz : a.eval b = z at h3
              cases h3 with | own h3 =>
              have hbk := hr.heap.blk i
              rw [hσ] at hbk
              obtain ⟨xs, b1, b2, b3⟩ := hbk
              rw [← h3]
              exact ⟨xs, b1, b2, fun k hk => ⟨i, by simp, by rw [hσ]; exact hk⟩⟩
            · cases h2
          · cases hh
        · rename_i hbv
          split at hh
          · rename_i s hs
            refine appTo_ok ho hu (fun m a w hr => ?_) hh
            rw [ev_v hr hbv]
            exact ⟨[], World.ownsRow_nil _ _ _ _, RowsIs.nil, fun k hk => by cases hk⟩
          · cases hh
        · cases hh
      · cases hh
    · cases h2
  · cases h
end
end Go.Proofs.YtggikacbelogcaaGreat.Ex
