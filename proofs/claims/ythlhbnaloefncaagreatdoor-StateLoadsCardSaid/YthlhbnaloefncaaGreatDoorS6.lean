/- Part 6 of what the statements' rows lean on: the executor, the functions' trees, and what they come to in plain words. -/
import Derived.Test.YthlhbnaloefncaaGreatDoorS5
import Derived.Test.YthlhbnaloefncaaGreatDoorProg
namespace Go.Proofs.YthlhbnaloefncaaGreatDoor.Ex
open Go Go.RowKit Go.Proofs.YthlhbnaloefncaaGreatDoor.Wrd
set_option linter.unusedVariables false
set_option linter.unusedSimpArgs false
theorem right_rng {d : GDirective} (h : Tx.dR d = true) : rngD d := by
  obtain ⟨h1, h2, h3⟩ := Tx.dR_shape h
  have hp := Tx.dR_pair h
  obtain ⟨o, q, i, f, t, s, e, r, p, u, v, x, y⟩ := d
  simp only [fKsG, List.mem_cons, List.not_mem_nil, or_false, Prod.mk.injEq] at hp
  rcases hp with ⟨rfl, rfl⟩ | ⟨rfl, rfl⟩ | ⟨rfl, rfl⟩ | ⟨rfl, rfl⟩ | ⟨rfl, rfl⟩ | ⟨rfl, rfl⟩ <;>
    simp [Tx.vals, Tx.mkD] at h1 h2 <;> refine ⟨⟨⟨?_, ?_⟩, ⟨?_, ?_⟩⟩, ⟨⟨?_, ?_⟩, ⟨?_, ?_⟩⟩⟩ <;> simp only [dC, dR] <;> omega
theorem parseS_ok : ∀ (A : List (Int × List ByteArray)) (acc : List GDirective), (∀ d ∈ acc, Tx.dR d = true) → match Tx.parseS A acc with
    | .inl o => o.1 = (0, 0) ∧ o.2.length = acc.length + A.length ∧ ∀ d ∈ o.2, Tx.dR d = true
    | .inr o => o.2.2 ≠ 0
  | [], acc, ha => ⟨rfl, rfl, ha⟩
  | x :: r, acc, ha => by
    rw [Tx.parseS]
    rcases Tx.parse_cases x.2 with h | h | ⟨d, h, hd, _⟩
    · rw [h]; exact (by decide : (2 : Int) ≠ 0)
    · rw [h]; exact (by decide : (1 : Int) ≠ 0)
    · rw [h]
      have ih := parseS_ok r (acc ++ [d]) (fun y hy => by
        rcases List.mem_append.1 hy with hy | hy
        · exact ha y hy
        · rw [List.mem_singleton.1 hy]; exact hd)
      show match Tx.parseS r (acc ++ [d]) with | .inl o => _ | .inr o => _
      generalize Tx.parseS r (acc ++ [d]) = z at ih ⊢
      cases z with
      | inl o => exact ⟨ih.1, by rw [ih.2.1, List.length_append, List.length_singleton, List.length_cons]; omega, ih.2.2⟩
      | inr o => exact ih
theorem parseT_good {s : List UInt8} (h : (Tx.parseT s).2.2 = 0) : (Tx.parseT s).1.length = (Tx.rowsT s).length ∧ ∀ d ∈ (Tx.parseT s).1, Tx.dR d = true := by
  have := parseS_ok (Tx.rowsT s) [] (fun d hd => by cases hd)
  unfold Tx.parseT Tx.parseR at *
  generalize Tx.parseS (Tx.rowsT s) [] = z at this h ⊢
  cases z with
  | inl o => exact ⟨by simpa using this.2.1, this.2.2⟩
  | inr o => exact absurd h this
theorem rows_few (t : ByteArray) (ht : t.size ≤ 1000) : (Tx.rowsT t.data.toList).length ≤ 1001 := by
  have h1 := Tx.rowsF_len 1 (linesL t.data.toList)
  have h2 := Tx.lines_len t.data.toList
  have h3 : t.data.toList.length = t.size := by simp
  have h4 : (Tx.rowsT t.data.toList).length ≤ (linesL t.data.toList).length := h1
  omega
theorem getD_dir {l : List GDirective} {i : Nat} (h : i < l.length) : l.getD i (0, 0, 0, 0, 0, 0, 0, 0, 0, 0, 0, 0, 0) ∈ l := by rw [List.getD_eq_getElem?_getD, List.getElem?_eq_getElem h]; exact List.getElem_mem h
theorem Load_L0 {s : GState} (h : RightS s) (t : ByteArray) (ht : t.size ≤ 1000) (l : List GDirective) (hd : ∀ d ∈ l, rngD d) (hll : l.length = (Tx.rowsT t.data.toList).length) : ∀ (m i k : Nat) (x : GState), RightS x → s.2.2.1 ≤ x.2.2.1 → l.length - i = m → m + 30000 < k →
    (∃ f, state_Load_L0 k (t, s, zS, (0, 0), x, l, Int.ofNat l.length, (i : Int)) = some (.inr (s, f)) ∧ f.2 ≠ 0) ∨ ∃ q, state_Load_L0 k (t, s, zS, (0, 0), x, l, Int.ofNat l.length, (i : Int)) = some (.inl (zS, (0, 0), q)) ∧ RightS q ∧ s.2.2.1 ≤ q.2.2.1
  | 0, i, k + 1, x, hx, hc, hm, hk => by
    refine .inr ⟨x, ?_, hx, hc⟩
    simp only [state_Load_L0]
    rw [i_lt, decide_eq_false (by omega)]
    rfl
  | m + 1, i, k + 1, x, hx, hc, hm, hk => by
    have hf := rows_few t ht
    have hi : i < l.length := by omega
    obtain ⟨o, ho, hkp⟩ := Edit21_cases hx _ (hd _ (getD_dir hi)) k (by omega)
    simp only [state_Load_L0]
    rw [i_lt, decide_eq_true hi, decide_eq_true (Int.natCast_nonneg i), Int.toNat_natCast]
    simp only [cond_true, ho, Option.bind_some, h.copied k (by omega), Tx.text_Lines_sp k (s := t) (by omega) (by omega), i_lt, List.length_map, decide_eq_true (show i < (Tx.rowsT t.data.toList).length by omega)]
    rcases hkp with ⟨he, _⟩ | ⟨he, hq, hcl⟩
    · rw [decide_eq_false he]
      exact .inl ⟨_, rfl, he⟩
    · rw [decide_eq_true he, w64_succ (by omega)]
      exact Load_L0 h t ht l hd hll m (i + 1) k o.1 hq (by omega) (by omega) (by omega)
def KeepsF (s : GState) (o : GState × (Int × Int)) : Prop := (o.2.2 ≠ 0 ∧ o.1 = s) ∨ (o.2.2 = 0 ∧ RightS o.1 ∧ s.2.2.1 ≤ o.1.2.2.1)
theorem Load21_cases {s : GState} (h : RightS s) (t : ByteArray) (ht : t.size ≤ 1000) (k : Nat) (hk : 35000 < k) : ∃ o, state_Load k (s, t) = some o ∧ KeepsF s o := by
  unfold state_Load
  simp only [Tx.text_Parse_sp k (s := t) (by omega) (by omega), Option.bind_some, h.copied k (by omega)]
  by_cases he : (Tx.parseT t.data.toList).2.2 = 0
  · rw [decide_eq_true he]
    obtain ⟨g1, g2⟩ := parseT_good he
    have hf := rows_few t ht
    simp only [Bool.not_true, cond_false]
    rcases Load_L0 h t ht _ (fun d hd => right_rng (g2 d hd)) g1 _ 0 k s h (Int.le_refl _) rfl (by omega) with ⟨f, e, hf⟩ | ⟨q, e, hq, hc⟩
    · rw [Int.natCast_zero] at e
      exact ⟨(s, f), by rw [e]; rfl, .inl ⟨hf, rfl⟩⟩
    · rw [Int.natCast_zero] at e
      exact ⟨(q, 0, 0), by rw [e]; rfl, .inr ⟨rfl, hq, hc⟩⟩
  · rw [decide_eq_false he]
    exact ⟨_, rfl, .inl ⟨he, rfl⟩⟩
abbrev GAct := GFeluccalaw21Act
abbrev zA : GAct := (0, 0, 0, 0, 0, 0, 0, 0, 0, 0, 0, 0, 0, 0, (⟨#[]⟩ : ByteArray), 0, [], 0, 0)
def dA (x : GAct) : GDirective := (x.2.1, x.2.2.1, x.2.2.2.1, x.2.2.2.2.1, x.2.2.2.2.2.1, x.2.2.2.2.2.2.1, x.2.2.2.2.2.2.2.1, x.2.2.2.2.2.2.2.2.1, x.2.2.2.2.2.2.2.2.2.1, x.2.2.2.2.2.2.2.2.2.2.1, x.2.2.2.2.2.2.2.2.2.2.2.1, x.2.2.2.2.2.2.2.2.2.2.2.2.1, x.2.2.2.2.2.2.2.2.2.2.2.2.2.1)
def tA (x : GAct) : ByteArray := x.2.2.2.2.2.2.2.2.2.2.2.2.2.2.1
def iA (x : GAct) : List Int := x.2.2.2.2.2.2.2.2.2.2.2.2.2.2.2.2.1
theorem rngA {x : GAct} (h : okvT kGFeluccalaw21Act x) : rngD (dA x) := by
  simp only [okvT, SK.okv, Lit.wf, Bool.and_eq_true, decide_eq_true_eq] at h
  obtain ⟨_, _, _, _, _, _, h6, h7, _, _, _, h11, h12, _, _⟩ := h
  have e1 : IntKind.i64.min = -9223372036854775808 := by decide
  have e2 : IntKind.i64.max = 9223372036854775807 := by decide
  rw [e1, e2] at h6 h7 h11 h12
  exact ⟨⟨h6, h7⟩, ⟨h11, h12⟩⟩
theorem done_keeps {s : GState} (h : RightS s) {a : GAct} (ha : rngD (dA a)) (h1 : (tA a).size ≤ 1000) (h2 : (iA a).length ≤ 50) (k : Nat) (hk : 36000 < k) : ∃ o, feluccalaw21_done k (s, a) = some o ∧ KeepsF s o := by
  obtain ⟨o1, e1, k1⟩ := Edit21_cases h (dA a) ha k (by omega)
  obtain ⟨o2, e2, k2⟩ := Load21_cases h (tA a) h1 k (by omega)
  have e1' : state_Edit k (s, a.2.1, a.2.2.1, a.2.2.2.1, a.2.2.2.2.1, a.2.2.2.2.2.1, a.2.2.2.2.2.2.1, a.2.2.2.2.2.2.2.1, a.2.2.2.2.2.2.2.2.1, a.2.2.2.2.2.2.2.2.2.1, a.2.2.2.2.2.2.2.2.2.2.1, a.2.2.2.2.2.2.2.2.2.2.2.1, a.2.2.2.2.2.2.2.2.2.2.2.2.1, a.2.2.2.2.2.2.2.2.2.2.2.2.2.1) = some o1 := e1
  have e2' : state_Load k (s, a.2.2.2.2.2.2.2.2.2.2.2.2.2.2.1) = some o2 := e2
  have e3 : state_Advance k (s, a.2.2.2.2.2.2.2.2.2.2.2.2.2.2.2.1) = _ := Advance21_spec h _ k (by omega)
  have e4 : state_Book k (s, a.2.2.2.2.2.2.2.2.2.2.2.2.2.2.2.2) = _ := Book21_spec h (iA a) _ _ h2 k (by omega)
  have e5 : state_Release k (s, a.2.2.2.2.2.2.2.2.2.2.2.2.2.2.2.2) = _ := Release21_spec h (iA a) _ _ h2 k (by omega)
  have k3 := adv_keeps h a.2.2.2.2.2.2.2.2.2.2.2.2.2.2.2.1
  have k4 := book_keeps h (iA a) a.2.2.2.2.2.2.2.2.2.2.2.2.2.2.2.2.2.1 a.2.2.2.2.2.2.2.2.2.2.2.2.2.2.2.2.2.2
  have k5 := free_keeps h (iA a) a.2.2.2.2.2.2.2.2.2.2.2.2.2.2.2.2.2.1 a.2.2.2.2.2.2.2.2.2.2.2.2.2.2.2.2.2.2
  have up : ∀ {o : GState × Int}, Keeps s o → KeepsF s (o.1, 0, o.2) := fun hk => hk
  unfold feluccalaw21_done
  simp only [e1', e2', e3, e4, e5, Option.bind_some]
  by_cases c1 : a.1 = 1
  · rw [decide_eq_true c1]; exact ⟨_, rfl, up k1⟩
  rw [decide_eq_false c1]
  by_cases c2 : a.1 = 2
  · rw [decide_eq_true c2]; exact ⟨_, rfl, k2⟩
  rw [decide_eq_false c2]
  by_cases c3 : a.1 = 3
  · rw [decide_eq_true c3]; exact ⟨_, rfl, up k3⟩
  rw [decide_eq_false c3]
  by_cases c4 : a.1 = 4
  · rw [decide_eq_true c4]; exact ⟨_, rfl, up k4⟩
  rw [decide_eq_false c4]
  exact ⟨_, rfl, up k5⟩
theorem getD_act {l : List GAct} {i : Nat} (h : i < l.length) : l.getD i zA ∈ l := by rw [List.getD_eq_getElem?_getD, List.getElem?_eq_getElem h]; exact List.getElem_mem h
end Go.Proofs.YthlhbnaloefncaaGreatDoor.Ex
namespace Go.Proofs.YthlhbnaloefncaaGreatDoor.Ex
open Go
set_option linter.unusedVariables false
set_option maxHeartbeats 0
def feluccalaw21_StateRight_L0 : Nat → ((List GFeluccalaw21Act) × GState × Bool × Int) → Option ((Bool) ⊕ (Bool))
  | 0, _ => none
  | k + 1, (acts, s, head, i) =>
  bif decide (i < Int.ofNat (List.length acts)) then
  bif decide (0 ≤ i) then
   bif decide (i < Int.ofNat (List.length acts)) then
    bif decide (1000 < Int.ofNat (ByteArray.size (List.getD acts (Int.toNat i) (0, 0, 0, 0, 0, 0, 0, 0, 0, 0, 0, 0, 0, 0, (⟨#[]⟩ : ByteArray), 0, [], 0, 0)).2.2.2.2.2.2.2.2.2.2.2.2.2.2.1)) then
     bif head then
      some (Sum.inr true)
     else
      some (Sum.inr false)
    else
     bif decide (0 ≤ i) then
      bif decide (i < Int.ofNat (List.length acts)) then
       bif decide (50 < Int.ofNat (List.length (List.getD acts (Int.toNat i) (0, 0, 0, 0, 0, 0, 0, 0, 0, 0, 0, 0, 0, 0, (⟨#[]⟩ : ByteArray), 0, [], 0, 0)).2.2.2.2.2.2.2.2.2.2.2.2.2.2.2.2.1)) then
        bif head then
         some (Sum.inr true)
        else
         some (Sum.inr false)
       else
        bif decide (0 ≤ i) then
         bif decide (i < Int.ofNat (List.length acts)) then
          (feluccalaw21_done k (s, List.getD acts (Int.toNat i) (0, 0, 0, 0, 0, 0, 0, 0, 0, 0, 0, 0, 0, 0, (⟨#[]⟩ : ByteArray), 0, [], 0, 0))).bind fun o_10 =>
           (state_Right k o_10.1).bind fun o_11 =>
            bif o_11 then
             bif !decide (o_10.2.2 = 0) then
              (state_Same k (o_10.1, s)).bind fun o_14 =>
               bif o_14 then
                bif decide (o_10.1.2.2.1 < s.2.2.1) then
                 some (Sum.inr false)
                else
                 feluccalaw21_StateRight_L0 k (acts, o_10.1, head, w64 (i + 1))
               else
                some (Sum.inr false)
             else
              bif decide (o_10.1.2.2.1 < s.2.2.1) then
               some (Sum.inr false)
              else
               feluccalaw21_StateRight_L0 k (acts, o_10.1, head, w64 (i + 1))
            else
             some (Sum.inr false)
         else
          none
        else
         none
      else
       none
     else
      none
   else
    none
  else
   none
 else
  some (Sum.inl head)
def feluccalaw21_StateRight (k : Nat) : (GState × (List GFeluccalaw21Act)) → Option (Bool) := fun (s, acts) =>
  (feluccalaw21_small k ()).bind fun o_1 =>
  bif o_1 then
   (feluccalaw21_Few k s).bind fun o_3 =>
    bif o_3 then
     bif decide (50 < Int.ofNat (List.length acts)) then
      some (true)
     else
      (state_Right k s).bind fun o_6 =>
       bif o_6 then
        (feluccalaw21_StateRight_L0 k (acts, s, true, 0)).bind fun o_8 =>
         match o_8 with
         | .inl o_9 =>
          bif o_9 then
           some (true)
          else
           some (false)
         | .inr o_9 =>
          some (o_9)
       else
        some (true)
    else
     some (true)
  else
   (feluccalaw21_Few k s).bind fun o_3 =>
    bif o_3 then
     bif decide (50 < Int.ofNat (List.length acts)) then
      some (false)
     else
      (state_Right k s).bind fun o_6 =>
       bif o_6 then
        (feluccalaw21_StateRight_L0 k (acts, s, false, 0)).bind fun o_8 =>
         match o_8 with
         | .inl o_9 =>
          bif o_9 then
           some (true)
          else
           some (false)
         | .inr o_9 =>
          some (o_9)
       else
        some (false)
    else
     some (false)
noncomputable def feluccalaw21_StateRight_e := entOf (P := Tryz.prog) (A := [.agg lGState, .one (.row 41 kGFeluccalaw21Act)]) (R := [.one (.sc (.bool))]) Tryz.f4 feluccalaw21_StateRight (fun k => ⟨[feluccalaw21_small_e k, feluccalaw21_Few_e k, state_Right_e k, state_Same_e k, feluccalaw21_done_e k], [], [hkStr Tryz.prog]⟩) [some ⟨0, [(1, .one (.ro kGFeluccalaw21Act)), (2, .box 28 trGState), (5, .one (.sc (.bool))), (7, .one (.sc (.int .i64)))], [(5, .one (.sc (.bool)))], feluccalaw21_StateRight_L0⟩] Tryz.func4 (by kernel_rfl) (by kernel_rfl) ⟨⟨fun _ => rfl, fun k x => by kernel_rfl⟩, trivial⟩ (fun k x => by kernel_rfl) fun _ _ => by kernel_rfl
end Go.Proofs.YthlhbnaloefncaaGreatDoor.Ex
namespace Go.Proofs.YthlhbnaloefncaaGreatDoor.Ex
open Go
set_option linter.unusedVariables false
set_option linter.unusedSimpArgs false
theorem lt1000 (a : GAct) : decide (1000 < Int.ofNat (ByteArray.size (tA a))) = decide (1000 < (tA a).size) := by
  rw [Bool.eq_iff_iff]; simp only [decide_eq_true_eq]; show ((1000 : Int) < ((tA a).size : Int)) ↔ _; omega
theorem lt50 (l : List Int) : decide (50 < Int.ofNat l.length) = decide (50 < l.length) := by
  rw [Bool.eq_iff_iff]; simp only [decide_eq_true_eq]; show ((50 : Int) < (l.length : Int)) ↔ _; omega
theorem Right_L0 (acts : List GAct) (ha : ∀ a ∈ acts, okvT kGFeluccalaw21Act a) (hl : acts.length ≤ 50) : ∀ (m i k : Nat) (s : GState), RightS s → acts.length - i = m → m + 40000 < k → (feluccalaw21_StateRight_L0 k (acts, s, true, (i : Int)) = some (.inl true) ∨ feluccalaw21_StateRight_L0 k (acts, s, true, (i : Int)) = some (.inr true))
  | 0, i, k + 1, s, h, hm, hk => by
    left
    simp only [feluccalaw21_StateRight_L0]
    rw [i_lt, decide_eq_false (by omega)]
    rfl
  | m + 1, i, k + 1, s, h, hm, hk => by
    have hi : i < acts.length := by omega
    have ha1 := ha _ (getD_act hi)
    have et : ∀ a : GAct, a.2.2.2.2.2.2.2.2.2.2.2.2.2.2.1 = tA a := fun _ => rfl
    have ei : ∀ a : GAct, a.2.2.2.2.2.2.2.2.2.2.2.2.2.2.2.2.1 = iA a := fun _ => rfl
    simp only [feluccalaw21_StateRight_L0]
    rw [i_lt, decide_eq_true hi, decide_eq_true (Int.natCast_nonneg i), Int.toNat_natCast]
    simp only [cond_true, et, ei, lt1000, lt50]
    by_cases g1 : 1000 < (tA (acts.getD i zA)).size
    · rw [decide_eq_true g1]; exact .inr rfl
    rw [decide_eq_false g1]
    by_cases g2 : 50 < (iA (acts.getD i zA)).length
    · rw [decide_eq_true g2]; exact .inr rfl
    rw [decide_eq_false g2]
    obtain ⟨o, ho, hkp⟩ := done_keeps h (rngA ha1) (by omega) (by omega) k (by omega)
    simp only [cond_false, ho, Option.bind_some]
    rcases hkp with ⟨he, e⟩ | ⟨he, hq, hc⟩
    · rw [e]
      simp only [h.true k (by omega), h.same s k (by omega), Option.bind_some, cond_true, decide_eq_false he, Bool.not_false, decide_true, decide_eq_false (show ¬ s.2.2.1 < s.2.2.1 by omega), cond_false]
      rw [w64_succ (by omega)]
      exact Right_L0 acts ha hl m (i + 1) k s h (by omega) (by omega)
    · simp only [hq.true k (by omega), Option.bind_some, cond_true, decide_eq_true he, Bool.not_true, cond_false, decide_eq_false (show ¬ o.1.2.2.1 < s.2.2.1 by omega)]
      rw [w64_succ (by omega)]
      exact Right_L0 acts ha hl m (i + 1) k o.1 hq (by omega) (by omega)
theorem StateRight_pure (s : GState) (g1 : ∀ c ∈ s.1, okvT kGContact c) (g2 : ∀ r ∈ s.2.1, okvT kGRange r) (acts : List GAct) (g3 : ∀ a ∈ acts, okvT kGFeluccalaw21Act a) : ∃ k, feluccalaw21_StateRight k (s, acts) = some true := by
  refine ⟨45000, ?_⟩
  unfold feluccalaw21_StateRight
  simp only [small21, Few21_spec, Option.bind_some, cond_true]
  by_cases few : s.1.length ≤ 50 ∧ s.2.1.length ≤ 50 ∧ (bk s).length ≤ 50
  · rw [decide_eq_true few]
    simp only [cond_true]
    by_cases hi : acts.length ≤ 50
    · have c1 : decide (50 < Int.ofNat acts.length) = false := decide_eq_false (by show ¬ (50 : Int) < (acts.length : Int); omega)
      rw [c1]
      obtain ⟨b, hb, hr⟩ := StateRight_spec s 45000 (by omega) (by omega) (by omega) (fun c hc => rng_of (g1 c hc)) (fun r hr => rngR_of (g2 r hr)) (by omega)
      simp only [cond_false, hb, Option.bind_some]
      cases b with
      | false => rfl
      | true =>
        have := Right_L0 acts g3 hi acts.length 0 45000 s (hr.1 rfl) rfl (by omega)
        rw [Int.natCast_zero] at this
        rcases this with e | e <;> simp only [cond_true, e, Option.bind_some]
    · have c1 : decide (50 < Int.ofNat acts.length) = true := decide_eq_true (by show (50 : Int) < (acts.length : Int); omega)
      rw [c1]; rfl
  · rw [decide_eq_false few]; rfl
end Go.Proofs.YthlhbnaloefncaaGreatDoor.Ex
namespace Go.Proofs.YthlhbnaloefncaaGreatDoor.Ex
open Go
set_option linter.unusedVariables false
set_option maxHeartbeats 0
def feluccalaw21_StateBounds_L0 : Nat → ((List GFeluccalaw21Act) × Int × GState × Bool × Int) → Option ((Bool) ⊕ (Bool))
  | 0, _ => none
  | k + 1, (acts, id, s, head, i) =>
  bif decide (i < Int.ofNat (List.length acts)) then
  bif decide (0 ≤ i) then
   bif decide (i < Int.ofNat (List.length acts)) then
    bif decide (1000 < Int.ofNat (ByteArray.size (List.getD acts (Int.toNat i) (0, 0, 0, 0, 0, 0, 0, 0, 0, 0, 0, 0, 0, 0, (⟨#[]⟩ : ByteArray), 0, [], 0, 0)).2.2.2.2.2.2.2.2.2.2.2.2.2.2.1)) then
     bif head then
      some (Sum.inr true)
     else
      some (Sum.inr false)
    else
     bif decide (0 ≤ i) then
      bif decide (i < Int.ofNat (List.length acts)) then
       bif decide (50 < Int.ofNat (List.length (List.getD acts (Int.toNat i) (0, 0, 0, 0, 0, 0, 0, 0, 0, 0, 0, 0, 0, 0, (⟨#[]⟩ : ByteArray), 0, [], 0, 0)).2.2.2.2.2.2.2.2.2.2.2.2.2.2.2.2.1)) then
        bif head then
         some (Sum.inr true)
        else
         some (Sum.inr false)
       else
        bif decide (0 ≤ i) then
         bif decide (i < Int.ofNat (List.length acts)) then
          (feluccalaw21_done k (s, List.getD acts (Int.toNat i) (0, 0, 0, 0, 0, 0, 0, 0, 0, 0, 0, 0, 0, 0, (⟨#[]⟩ : ByteArray), 0, [], 0, 0))).bind fun o_10 =>
           (contacts_Find k (o_10.1.1, id)).bind fun o_11 =>
            bif o_11.2 then
             (ledger_Used k (o_10.1.2.2.2.2, id)).bind fun o_13 =>
              (check_Volume k o_11.1).bind fun o_14 =>
               bif decide (o_14 < o_13.1) then
                some (Sum.inr false)
               else
                bif decide (o_14 < o_13.2.1) then
                 some (Sum.inr false)
                else
                 bif decide (o_14 < o_13.2.2) then
                  some (Sum.inr false)
                 else
                  bif decide (o_13.1 < 0) then
                   some (Sum.inr false)
                  else
                   bif decide (o_13.2.1 < 0) then
                    some (Sum.inr false)
                   else
                    bif decide (o_13.2.2 < 0) then
                     some (Sum.inr false)
                    else
                     (ledger_Room k (o_10.1.2.2.2.2, o_11.1, 2)).bind fun o_21 =>
                      bif !decide (o_21 = w64 (o_14 - o_13.2.2)) then
                       some (Sum.inr false)
                      else
                       feluccalaw21_StateBounds_L0 k (acts, id, o_10.1, head, w64 (i + 1))
            else
             (ledger_Used k (o_10.1.2.2.2.2, id)).bind fun o_13 =>
              (check_Volume k o_11.1).bind fun o_14 =>
               bif !(o_13.1 == 0 && (o_13.2.1 == 0 && o_13.2.2 == 0)) then
                some (Sum.inr false)
               else
                bif decide (o_14 < o_13.1) then
                 some (Sum.inr false)
                else
                 bif decide (o_14 < o_13.2.1) then
                  some (Sum.inr false)
                 else
                  bif decide (o_14 < o_13.2.2) then
                   some (Sum.inr false)
                  else
                   bif decide (o_13.1 < 0) then
                    some (Sum.inr false)
                   else
                    bif decide (o_13.2.1 < 0) then
                     some (Sum.inr false)
                    else
                     bif decide (o_13.2.2 < 0) then
                      some (Sum.inr false)
                     else
                      (ledger_Room k (o_10.1.2.2.2.2, o_11.1, 2)).bind fun o_22 =>
                       bif !decide (o_22 = w64 (o_14 - o_13.2.2)) then
                        some (Sum.inr false)
                       else
                        feluccalaw21_StateBounds_L0 k (acts, id, o_10.1, head, w64 (i + 1))
         else
          none
        else
         none
      else
       none
     else
      none
   else
    none
  else
   none
 else
  some (Sum.inl head)
def feluccalaw21_StateBounds (k : Nat) : (GState × (List GFeluccalaw21Act) × Int) → Option (Bool) := fun (s, acts, id) =>
  (feluccalaw21_small k ()).bind fun o_1 =>
  bif o_1 then
   (feluccalaw21_Few k s).bind fun o_3 =>
    bif o_3 then
     bif decide (50 < Int.ofNat (List.length acts)) then
      some (true)
     else
      (state_Right k s).bind fun o_6 =>
       bif o_6 then
        (feluccalaw21_StateBounds_L0 k (acts, id, s, true, 0)).bind fun o_8 =>
         match o_8 with
         | .inl o_9 =>
          bif o_9 then
           some (true)
          else
           some (false)
         | .inr o_9 =>
          some (o_9)
       else
        some (true)
    else
     some (true)
  else
   (feluccalaw21_Few k s).bind fun o_3 =>
    bif o_3 then
     bif decide (50 < Int.ofNat (List.length acts)) then
      some (false)
     else
      (state_Right k s).bind fun o_6 =>
       bif o_6 then
        (feluccalaw21_StateBounds_L0 k (acts, id, s, false, 0)).bind fun o_8 =>
         match o_8 with
         | .inl o_9 =>
          bif o_9 then
           some (true)
          else
           some (false)
         | .inr o_9 =>
          some (o_9)
       else
        some (false)
    else
     some (false)
noncomputable def feluccalaw21_StateBounds_e := entOf (P := Tryz.prog) (A := [.agg lGState, .one (.row 41 kGFeluccalaw21Act), .one (.sc (.int .i64))]) (R := [.one (.sc (.bool))]) Tryz.f7 feluccalaw21_StateBounds (fun k => ⟨[feluccalaw21_small_e k, feluccalaw21_Few_e k, state_Right_e k, feluccalaw21_done_e k, contacts_Find_e k, ledger_Room_e k, ledger_Used_e k, check_Volume_e k], [], [hkStr Tryz.prog]⟩) [some ⟨0, [(1, .one (.ro kGFeluccalaw21Act)), (2, .one (.sc (.int .i64))), (3, .box 28 trGState), (7, .one (.sc (.bool))), (9, .one (.sc (.int .i64)))], [(7, .one (.sc (.bool)))], feluccalaw21_StateBounds_L0⟩] Tryz.func7 (by kernel_rfl) (by kernel_rfl) ⟨⟨fun _ => rfl, fun k x => by kernel_rfl⟩, trivial⟩ (fun k x => by kernel_rfl) fun _ _ => by kernel_rfl
end Go.Proofs.YthlhbnaloefncaaGreatDoor.Ex
namespace Go.Proofs.YthlhbnaloefncaaGreatDoor.Ex
open Go
set_option linter.unusedVariables false
set_option linter.unusedSimpArgs false
theorem keepsF_right {s : GState} (h : RightS s) {o : GState × (Int × Int)} (hk : KeepsF s o) : RightS o.1 := by
  rcases hk with ⟨_, e⟩ | ⟨_, e, _⟩
  · rw [e]; exact h
  · exact e
theorem used_0 {l : List GBooked} (h : RightL l) : usedL l 0 = z3 := usedL_none fun b hb e => by have := (h.1 b hb).1; omega
theorem room_2 {u : T48} (hu : okU u) {c : GContact} (hw : withinU u c) : roomL u c 2 = volC c - u.2.2 := by
  obtain ⟨_, _, u3⟩ := hu
  obtain ⟨_, _, w3⟩ := hw
  have hv := vol_62 c
  have hc : clsB 2 = true := by decide
  unfold roomL
  rw [if_pos hc]
  unfold In62 at *
  unfold backL satB
  simp only [show ¬ (2 : Int) = 0 by omega, show ¬ (2 : Int) = 1 by omega, if_false]
  omega
theorem Bounds_L0 (acts : List GAct) (id : Int) (ha : ∀ a ∈ acts, okvT kGFeluccalaw21Act a) (hl : acts.length ≤ 50) : ∀ (m i k : Nat) (s : GState), RightS s → acts.length - i = m → m + 40000 < k → (feluccalaw21_StateBounds_L0 k (acts, id, s, true, (i : Int)) = some (.inl true) ∨ feluccalaw21_StateBounds_L0 k (acts, id, s, true, (i : Int)) = some (.inr true))
  | 0, i, k + 1, s, h, hm, hk => by
    left
    simp only [feluccalaw21_StateBounds_L0]
    rw [i_lt, decide_eq_false (by omega)]
    rfl
  | m + 1, i, k + 1, s, h, hm, hk => by
    have hi : i < acts.length := by omega
    have ha1 := ha _ (getD_act hi)
    have et : ∀ a : GAct, a.2.2.2.2.2.2.2.2.2.2.2.2.2.2.1 = tA a := fun _ => rfl
    have ei : ∀ a : GAct, a.2.2.2.2.2.2.2.2.2.2.2.2.2.2.2.2.1 = iA a := fun _ => rfl
    simp only [feluccalaw21_StateBounds_L0]
    rw [i_lt, decide_eq_true hi, decide_eq_true (Int.natCast_nonneg i), Int.toNat_natCast]
    simp only [cond_true, et, ei, lt1000, lt50]
    by_cases g1 : 1000 < (tA (acts.getD i zA)).size
    · rw [decide_eq_true g1]; exact .inr rfl
    rw [decide_eq_false g1]
    by_cases g2 : 50 < (iA (acts.getD i zA)).length
    · rw [decide_eq_true g2]; exact .inr rfl
    rw [decide_eq_false g2]
    obtain ⟨o, ho, hkp⟩ := done_keeps h (rngA ha1) (by omega) (by omega) k (by omega)
    have hq := keepsF_right h hkp
    have hlen := hq.len
    have ih := Bounds_L0 acts id ha hl m (i + 1) k o.1 hq (by omega) (by omega)
    have hcr := find_rng hq.t.rng id
    have hu := usedL_ok hq.2.1 id
    have hfd := contacts_Find_spec o.1.1 id k (by omega) (by omega)
    have hus : ledger_Used k (o.1.2.2.2.2, id) = some (usedL (bk o.1) id) := Used_spec (bk o.1) id k (by omega) hq.2.1.2 (by omega)
    have hvo := Volume_spec k (findC o.1.1 id).1 hcr
    have hrm : ledger_Room k (o.1.2.2.2.2, (findC o.1.1 id).1, 2) = some (roomL (usedL (bk o.1) (findC o.1.1 id).1.1) (findC o.1.1 id).1 2) := Room_spec (bk o.1) _ 2 k (by omega) hq.2.1 hcr (by omega)
    have hv := vol_62 (findC o.1.1 id).1
    obtain ⟨u1, u2, u3⟩ := hu
    have hw := covers_within hq.2.2 id
    obtain ⟨w1, w2, w3⟩ := hw
    unfold In62 at u1 u2 u3 hv
    simp only [cond_false, ho, Option.bind_some, hfd, hus, hvo, hrm, w64_succ (show i < 4611686018427387904 by omega),
      decide_eq_false (show ¬ volC (findC o.1.1 id).1 < (usedL (bk o.1) id).1 by omega), decide_eq_false (show ¬ volC (findC o.1.1 id).1 < (usedL (bk o.1) id).2.1 by omega), decide_eq_false (show ¬ volC (findC o.1.1 id).1 < (usedL (bk o.1) id).2.2 by omega),
      decide_eq_false (show ¬ (usedL (bk o.1) id).1 < 0 by omega), decide_eq_false (show ¬ (usedL (bk o.1) id).2.1 < 0 by omega), decide_eq_false (show ¬ (usedL (bk o.1) id).2.2 < 0 by omega), w64_id (show -9223372036854775808 ≤ volC (findC o.1.1 id).1 - (usedL (bk o.1) id).2.2 by omega) (show volC (findC o.1.1 id).1 - (usedL (bk o.1) id).2.2 ≤ 9223372036854775807 by omega), nz_spec]
    cases hf : (findC o.1.1 id).2 with
    | true =>
      rw [findC_id hf, room_2 (usedL_ok hq.2.1 id) ⟨w1, w2, w3⟩, decide_eq_true rfl]
      exact ih
    | false =>
      have hz : usedL (bk o.1) id = z3 := Decidable.byContradiction fun hne => by
        have := (hq.2.2 id hne).1
        rw [hf] at this
        cases this
      have hz0 : (findC o.1.1 id).1 = z28 := by rw [(findC_false hf).1]
      have e0 : (findC o.1.1 id).1.1 = 0 := by rw [hz0]
      have hw0 : withinU z3 (findC o.1.1 id).1 := within_z3 _
      rw [e0, used_0 hq.2.1, room_2 (by unfold okU In62; simp only; omega) hw0, hz, decide_eq_true rfl, decide_eq_true rfl]
      exact ih
theorem StateBounds_pure (s : GState) (g1 : ∀ c ∈ s.1, okvT kGContact c) (g2 : ∀ r ∈ s.2.1, okvT kGRange r) (acts : List GAct) (g3 : ∀ a ∈ acts, okvT kGFeluccalaw21Act a) (id : Int) : ∃ k, feluccalaw21_StateBounds k (s, acts, id) = some true := by
  refine ⟨45000, ?_⟩
  unfold feluccalaw21_StateBounds
  simp only [small21, Few21_spec, Option.bind_some, cond_true]
  by_cases few : s.1.length ≤ 50 ∧ s.2.1.length ≤ 50 ∧ (bk s).length ≤ 50
  · rw [decide_eq_true few]
    simp only [cond_true]
    by_cases hi : acts.length ≤ 50
    · have c1 : decide (50 < Int.ofNat acts.length) = false := decide_eq_false (by show ¬ (50 : Int) < (acts.length : Int); omega)
      rw [c1]
      obtain ⟨b, hb, hr⟩ := StateRight_spec s 45000 (by omega) (by omega) (by omega) (fun c hc => rng_of (g1 c hc)) (fun r hr => rngR_of (g2 r hr)) (by omega)
      simp only [cond_false, hb, Option.bind_some]
      cases b with
      | false => rfl
      | true =>
        have := Bounds_L0 acts id g3 hi acts.length 0 45000 s (hr.1 rfl) rfl (by omega)
        rw [Int.natCast_zero] at this
        rcases this with e | e <;> simp only [cond_true, e, Option.bind_some]
    · have c1 : decide (50 < Int.ofNat acts.length) = true := decide_eq_true (by show (50 : Int) < (acts.length : Int); omega)
      rw [c1]; rfl
  · rw [decide_eq_false few]; rfl
end Go.Proofs.YthlhbnaloefncaaGreatDoor.Ex
namespace Go.Proofs.YthlhbnaloefncaaGreatDoor.Ex
open Go
set_option linter.unusedVariables false
set_option maxHeartbeats 0
def feluccalaw21_StateLoads_L0 : Nat → (GState × Bool × GState × (Int × Int) × (List GDirective) × (List Int) × GState × Int) → Option ((Bool × GState × (Int × Int) × GState) ⊕ (Bool))
  | 0, _ => none
  | k + 1, (s, head, a, f, l, n, x12, i) =>
  bif decide (i < Int.ofNat (List.length l)) then
  bif decide (0 ≤ i) then
   bif decide (i < Int.ofNat (List.length l)) then
    (state_Edit k (x12, List.getD l (Int.toNat i) (0, 0, 0, 0, 0, 0, 0, 0, 0, 0, 0, 0, 0))).bind fun o_4 =>
     bif !decide (o_4.2 = 0) then
      bif head then
       bif decide (0 ≤ i) then
        bif decide (i < Int.ofNat (List.length n)) then
         bif f.1 == List.getD n (Int.toNat i) 0 && f.2 == o_4.2 then
          (state_Same k (a, s)).bind fun o_10 =>
           bif o_10 then
            some (Sum.inr true)
           else
            some (Sum.inr false)
         else
          some (Sum.inr false)
        else
         none
       else
        none
      else
       some (Sum.inr false)
     else
      feluccalaw21_StateLoads_L0 k (s, head, a, f, l, n, o_4.1, w64 (i + 1))
   else
    none
  else
   none
 else
  some (Sum.inl (head, a, f, x12))
def feluccalaw21_StateLoads (k : Nat) : (GState × ByteArray) → Option (Bool) := fun (s, t) =>
  (feluccalaw21_small k ()).bind fun o_1 =>
  bif o_1 then
   (feluccalaw21_Few k s).bind fun o_3 =>
    bif o_3 then
     bif decide (1000 < Int.ofNat (ByteArray.size t)) then
      some (true)
     else
      (state_Right k s).bind fun o_6 =>
       bif o_6 then
        (state_Load k (s, t)).bind fun o_8 =>
         (text_Parse k t).bind fun o_9 =>
          (text_Lines k t).bind fun o_10 =>
           bif !decide (o_9.2.2 = 0) then
            bif o_8.2.1 == o_9.2.1 && o_8.2.2 == o_9.2.2 then
             (state_Same k (o_8.1, s)).bind fun o_13 =>
              bif o_13 then
               some (true)
              else
               some (false)
            else
             some (false)
           else
            bif !decide (Int.ofNat (List.length o_9.1) = Int.ofNat (List.length o_10)) then
             some (false)
            else
             (feluccalaw21_StateLoads_L0 k (s, true, o_8.1, o_8.2, o_9.1, o_10, s, 0)).bind fun o_13 =>
              match o_13 with
              | .inl o_14 =>
               bif o_14.1 then
                bif o_14.2.2.1.1 == 0 && o_14.2.2.1.2 == 0 then
                 (state_Same k (o_14.2.1, o_14.2.2.2)).bind fun o_17 =>
                  bif o_17 then
                   some (true)
                  else
                   some (false)
                else
                 some (false)
               else
                some (false)
              | .inr o_14 =>
               some (o_14)
       else
        some (true)
    else
     some (true)
  else
   (feluccalaw21_Few k s).bind fun o_3 =>
    bif o_3 then
     bif decide (1000 < Int.ofNat (ByteArray.size t)) then
      some (false)
     else
      (state_Right k s).bind fun o_6 =>
       bif o_6 then
        (state_Load k (s, t)).bind fun o_8 =>
         (text_Parse k t).bind fun o_9 =>
          (text_Lines k t).bind fun o_10 =>
           bif !decide (o_9.2.2 = 0) then
            some (false)
           else
            bif !decide (Int.ofNat (List.length o_9.1) = Int.ofNat (List.length o_10)) then
             some (false)
            else
             (feluccalaw21_StateLoads_L0 k (s, false, o_8.1, o_8.2, o_9.1, o_10, s, 0)).bind fun o_13 =>
              match o_13 with
              | .inl o_14 =>
               bif o_14.1 then
                bif o_14.2.2.1.1 == 0 && o_14.2.2.1.2 == 0 then
                 (state_Same k (o_14.2.1, o_14.2.2.2)).bind fun o_17 =>
                  bif o_17 then
                   some (true)
                  else
                   some (false)
                else
                 some (false)
               else
                some (false)
              | .inr o_14 =>
               some (o_14)
       else
        some (false)
    else
     some (false)
noncomputable def feluccalaw21_StateLoads_e := entOf (P := Tryz.prog) (A := [.agg lGState, .one (.sc (.str))]) (R := [.one (.sc (.bool))]) Tryz.f6 feluccalaw21_StateLoads (fun k => ⟨[feluccalaw21_small_e k, feluccalaw21_Few_e k, state_Right_e k, state_Same_e k, state_Load_e k, text_Parse_e k, text_Lines_e k, state_Edit_e k], [], [hkStr Tryz.prog]⟩) [some ⟨0, [(2, .box 28 trGState), (5, .one (.sc (.bool))), (7, .box 28 toGState), (8, .box 45 [.sc (.int .i64), .sc (.int .i64)]), (9, .one (.own 38 kGDirective)), (11, .one (.own 3 [.int .i64])), (12, .box 28 trGState), (13, .one (.sc (.int .i64)))], [(5, .one (.sc (.bool))), (7, .box 28 toGState), (8, .box 45 [.sc (.int .i64), .sc (.int .i64)]), (12, .box 28 trGState)], feluccalaw21_StateLoads_L0⟩] Tryz.func6 (by kernel_rfl) (by kernel_rfl) ⟨⟨fun _ => rfl, fun k x => by kernel_rfl⟩, trivial⟩ (fun k x => by kernel_rfl) fun _ _ => by kernel_rfl
end Go.Proofs.YthlhbnaloefncaaGreatDoor.Ex
namespace Go.Proofs.YthlhbnaloefncaaGreatDoor.Ex
open Go
set_option linter.unusedVariables false
set_option linter.unusedSimpArgs false
theorem Loads_L0 {s : GState} (h : RightS s) (t : ByteArray) (ht : t.size ≤ 1000) (l : List GDirective) (hd : ∀ d ∈ l, rngD d) (hll : l.length = (Tx.rowsT t.data.toList).length) : ∀ (m i k : Nat) (x : GState), RightS x → l.length - i = m → m + 30000 < k →
    (∃ f, state_Load_L0 k (t, s, zS, (0, 0), x, l, Int.ofNat l.length, (i : Int)) = some (.inr (s, f)) ∧ feluccalaw21_StateLoads_L0 k (s, true, s, f, l, (Tx.rowsT t.data.toList).map (·.1), x, (i : Int)) = some (.inr true)) ∨
    ∃ q, state_Load_L0 k (t, s, zS, (0, 0), x, l, Int.ofNat l.length, (i : Int)) = some (.inl (zS, (0, 0), q)) ∧ RightS q ∧ feluccalaw21_StateLoads_L0 k (s, true, q, (0, 0), l, (Tx.rowsT t.data.toList).map (·.1), x, (i : Int)) = some (.inl (true, q, (0, 0), q))
  | 0, i, k + 1, x, hx, hm, hk => by
    refine .inr ⟨x, ?_, hx, ?_⟩
    · simp only [state_Load_L0]
      rw [i_lt, decide_eq_false (by omega)]
      rfl
    · simp only [feluccalaw21_StateLoads_L0]
      rw [i_lt, decide_eq_false (by omega)]
      rfl
  | m + 1, i, k + 1, x, hx, hm, hk => by
    have hf := rows_few t ht
    have hi : i < l.length := by omega
    obtain ⟨o, ho, hkp⟩ := Edit21_cases hx _ (hd _ (getD_dir hi)) k (by omega)
    simp only [state_Load_L0, feluccalaw21_StateLoads_L0]
    rw [i_lt, decide_eq_true hi, decide_eq_true (Int.natCast_nonneg i), Int.toNat_natCast]
    simp only [cond_true, ho, Option.bind_some, h.copied k (by omega), Tx.text_Lines_sp k (s := t) (by omega) (by omega), i_lt, List.length_map, decide_eq_true (show i < (Tx.rowsT t.data.toList).length by omega), h.same s k (by omega), decide_true]
    rcases hkp with ⟨he, _⟩ | ⟨he, hq, hcl⟩
    · rw [decide_eq_false he]
      exact .inl ⟨_, rfl, by simp⟩
    · rw [decide_eq_true he, w64_succ (by omega)]
      exact Loads_L0 h t ht l hd hll m (i + 1) k o.1 hq (by omega) (by omega)
theorem StateLoads_pure (s : GState) (g1 : ∀ c ∈ s.1, okvT kGContact c) (g2 : ∀ r ∈ s.2.1, okvT kGRange r) (t : ByteArray) : ∃ k, feluccalaw21_StateLoads k (s, t) = some true := by
  refine ⟨45000, ?_⟩
  unfold feluccalaw21_StateLoads
  simp only [small21, Few21_spec, Option.bind_some, cond_true]
  by_cases few : s.1.length ≤ 50 ∧ s.2.1.length ≤ 50 ∧ (bk s).length ≤ 50
  · rw [decide_eq_true few]
    simp only [cond_true]
    by_cases hi : t.size ≤ 1000
    · have c1 : decide (1000 < Int.ofNat t.size) = false := decide_eq_false (by show ¬ (1000 : Int) < (t.size : Int); omega)
      rw [c1]
      obtain ⟨b, hb, hr⟩ := StateRight_spec s 45000 (by omega) (by omega) (by omega) (fun c hc => rng_of (g1 c hc)) (fun r hr => rngR_of (g2 r hr)) (by omega)
      simp only [cond_false, hb, Option.bind_some]
      cases b with
      | false => rfl
      | true =>
        have h := hr.1 rfl
        have hp := Tx.text_Parse_sp 45000 (s := t) (by omega) (by omega)
        have hn := Tx.text_Lines_sp 45000 (s := t) (by omega) (by omega)
        simp only [cond_true, hp, hn, Option.bind_some]
        by_cases he : (Tx.parseT t.data.toList).2.2 = 0
        · obtain ⟨e1, e2⟩ := parseT_good he
          have hlen : decide (Int.ofNat (Tx.parseT t.data.toList).1.length = Int.ofNat ((Tx.rowsT t.data.toList).map (·.1)).length) = true := decide_eq_true (by rw [List.length_map, e1])
          have hf := rows_few t hi
          have hL := Loads_L0 h t hi _ (fun d hd => right_rng (e2 d hd)) e1 _ 0 45000 s h rfl (by omega)
          rw [Int.natCast_zero] at hL
          have hload : state_Load 45000 (s, t) = (state_Load_L0 45000 (t, s, zS, (0, 0), s, (Tx.parseT t.data.toList).1, Int.ofNat (Tx.parseT t.data.toList).1.length, 0)).bind fun o_4 => match o_4 with
              | .inl o_5 => some (o_5.2.2, 0, 0)
              | .inr o_5 => some o_5 := by
            unfold state_Load
            simp only [hp, Option.bind_some, h.copied 45000 (by omega), decide_eq_true he, Bool.not_true, cond_false]
            all_goals rfl
          rcases hL with ⟨f, l1, l2⟩ | ⟨q, l1, hq, l2⟩
          · rw [l1] at hload
            have hload' : state_Load 45000 (s, t) = some (s, f) := hload
            simp only [hload', Option.bind_some, decide_eq_true he, Bool.not_true, cond_false, hlen, l2]
          · rw [l1] at hload
            have hload' : state_Load 45000 (s, t) = some (q, (0, 0)) := hload
            simp only [hload', Option.bind_some, decide_eq_true he, Bool.not_true, cond_false, hlen, l2, hq.same q 45000 (by omega), decide_true, cond_true]
            rfl
        · have hload : state_Load 45000 (s, t) = some (s, (Tx.parseT t.data.toList).2) := by
            unfold state_Load
            simp only [hp, Option.bind_some, h.copied 45000 (by omega), decide_eq_false he, Bool.not_false, cond_true]
          simp only [hload, Option.bind_some, decide_eq_false he, Bool.not_false, cond_true, beq_self_eq_true, Bool.and_self, h.same s 45000 (by omega), decide_true]
    · have c1 : decide (1000 < Int.ofNat t.size) = true := decide_eq_true (by show (1000 : Int) < (t.size : Int); omega)
      rw [c1]; rfl
  · rw [decide_eq_false few]; rfl
end Go.Proofs.YthlhbnaloefncaaGreatDoor.Ex
