/- The document's answer on what words say in plain words: ref04.Parse is parseB. -/
import Derived.Test.YtaknikdbnfmlfaaDoorTf
namespace Go.Proofs.YtaknikdbnfmlfaaDoor.Ex
open Go Go.RowKit Go.Lib Go.Proofs.YtaknikdbnfmlfaaDoor.Wrd Go.Proofs.YtaknikdbnfmlfaaDoor.Dig
set_option linter.unusedVariables false
set_option linter.unusedSimpArgs false
theorem pn_L2 (l : List ByteArray) (hl : l.length ≤ 1000000) (hs : ∀ a ∈ l, a.size ≤ 100000) (t2 : GDirective) (op kind : Int) : ∀ (n i k : Nat) (ns : List Int), i + n = l.length → n + 100001 < k → ns.length ≤ i →
    feluccaref04_Parse_L2 k (l, t2, op, kind, ns, (i : Int)) = some (match pn (l.drop i) with | some ms => .inl (t2, op, kind, ns ++ ms) | none => .inr (d0, 2))
  | 0, i, k, ns, h, hk, ho => by
    obtain ⟨k, rfl⟩ : ∃ m, k = m + 1 := ⟨k - 1, by omega⟩
    rw [feluccaref04_Parse_L2, lt_no (by omega), List.drop_eq_nil_of_le (by omega), pn_nil]
    simp
  | n + 1, i, k, ns, h, hk, ho => by
    obtain ⟨k, rfl⟩ : ∃ m, k = m + 1 := ⟨k - 1, by omega⟩
    have hi : i < l.length := by omega
    have hz := hs l[i] (List.getElem_mem hi)
    rw [feluccaref04_Parse_L2, lt_yes hi, ge0, getD_nat _ _ hi, rparse_sp k hz (by omega) (by omega), w64_succ (by omega), List.drop_eq_getElem_cons hi, pn_cons]
    simp only [cond_true, Option.bind_some]
    cases hp : (parseI l[i].data.toList 2147483647).2 with
    | false => rfl
    | true =>
      simp only [cond_true]
      rw [decide_eq_true (by simp; omega), cond_true, pn_L2 l hl hs t2 op kind n (i + 1) k _ (by omega) (by omega) (by simp; omega)]
      cases pn (l.drop (i + 1)) <;> simp
/-- Do words fit a pair: their number, and the first two. -/
def fitR (l : List ByteArray) (p : Int × Int) : Bool := decide ((l.length : Int) = 2 + nOf p) && hit l p
/-- What words say that fit a pair. -/
def resR (l : List ByteArray) (p : Int × Int) : GDirective × Int := match pn (l.drop 2) with
  | none => (d0, 2)
  | some ns => outD (mkD p ns)
theorem made_sp (k : Nat) {p : Int × Int} (hp : p ∈ fKsG) {ns : List Int} (h : (ns.length : Int) = nOf p) : feluccaref04_made k (p.1, p.2, ns) = some (mkD p ns) := by
  simp only [fKsG, List.mem_cons, List.not_mem_nil, or_false] at hp
  rcases hp with rfl | rfl | rfl | rfl | rfl | rfl
  · match ns, (show ns.length = 6 from by simpa [nOf] using (by omega : (ns.length : Int) = 6 → ns.length = 6) h) with
    | [a, b, c, d, e, f], _ => rfl
  · match ns, (show ns.length = 1 from by simpa [nOf] using (by omega : (ns.length : Int) = 1 → ns.length = 1) h) with
    | [a], _ => rfl
  · match ns, (show ns.length = 2 from by simpa [nOf] using (by omega : (ns.length : Int) = 2 → ns.length = 2) h) with
    | [a, b], _ => rfl
  · match ns, (show ns.length = 5 from by simpa [nOf] using (by omega : (ns.length : Int) = 5 → ns.length = 5) h) with
    | [a, b, c, d, e], _ => rfl
  · match ns, (show ns.length = 3 from by simpa [nOf] using (by omega : (ns.length : Int) = 3 → ns.length = 3) h) with
    | [a, b, c], _ => rfl
  · match ns, (show ns.length = 4 from by simpa [nOf] using (by omega : (ns.length : Int) = 4 → ns.length = 4) h) with
    | [a, b, c, d], _ => rfl
theorem vals_n {p : Int × Int} (hp : p ∈ fKsG) : ((vals (p.1, p.2, 0, 0, 0, 0, 0, 0, 0, 0, 0, 0, 0)).length : Int) = nOf p := by
  simp only [fKsG, List.mem_cons, List.not_mem_nil, or_false] at hp
  rcases hp with rfl | rfl | rfl | rfl | rfl | rfl <;> rfl
theorem L1_step (l : List ByteArray) (hl : l.length ≤ 5000) (hs : ∀ a ∈ l, a.size ≤ 100000) (t2 : GDirective) {p : Int × Int} (hp : p ∈ fKsG) (k : Nat) (hk : 110120 ≤ k) :
    feluccaref04_Parse_L1 (k + 1) (l, t2, p.1, p.2) = bif fitR l p then some (.inr (resR l p)) else feluccaref04_Parse_L1 k (l, t2, p.1, w64 (p.2 + 1)) := by
  have hq : p.2 ≤ 2 := by
    simp only [fKsG, List.mem_cons, List.not_mem_nil, or_false] at hp
    rcases hp with rfl | rfl | rfl | rfl | rfl | rfl <;> decide
  have hn := nOf_pos p
  rw [feluccaref04_Parse_L1, decide_eq_true hq, cond_true, rfirst_sp k (d := (p.1, p.2, 0, 0, 0, 0, 0, 0, 0, 0, 0, 0, 0)) hp, rnumbers_sp]
  simp only [Option.bind_some]
  rw [show Int.ofNat (vals (p.1, p.2, 0, 0, 0, 0, 0, 0, 0, 0, 0, 0, 0)).length = nOf p from vals_n hp, w64' (n := 2 + nOf p) ⟨by omega, by omega⟩]
  unfold fitR
  by_cases hlen : (l.length : Int) = 2 + nOf p
  · rw [show decide (Int.ofNat l.length = 2 + nOf p) = true from decide_eq_true hlen, decide_eq_true hlen]
    simp only [Bool.not_true, cond_false, Bool.true_and]
    have g0 : 0 < l.length := by omega
    have g1 : 1 < l.length := by omega
    have g2 : 2 < l.length := by omega
    rw [show decide ((0 : Int) < Int.ofNat l.length) = true from decide_eq_true (by show (0 : Int) < (l.length : Int); omega), show decide ((1 : Int) < Int.ofNat l.length) = true from decide_eq_true (by show (1 : Int) < (l.length : Int); omega)]
    unfold hit
    rw [show decide ((2 : Int) < (l.length : Int)) = true from decide_eq_true (by omega)]
    simp only [cond_true, Bool.true_and, List.length_cons, List.length_nil, show Int.toNat 0 = 0 from rfl, show Int.toNat 1 = 1 from rfl, List.getD_cons_zero, List.getD_cons_succ, data_ofL]
    rw [show decide ((0 : Int) < Int.ofNat (0 + 1 + 1)) = true from rfl, show decide ((1 : Int) < Int.ofNat (0 + 1 + 1)) = true from rfl]
    simp only [cond_true]
    cases h1 : ((l.getD 0 ⟨#[]⟩).data.toList == opB p.1) with
    | false => rfl
    | true =>
      cases h2 : ((l.getD 1 ⟨#[]⟩).data.toList == kdB p.2) with
      | false => rfl
      | true =>
        simp only [Bool.not_true, cond_false, Bool.and_self, cond_true]
        have hL := pn_L2 l (by omega) hs t2 p.1 p.2 (l.length - 2) 2 k [] (by omega) (by omega) (by simp)
        rw [show ((2 : Nat) : Int) = 2 from rfl] at hL
        rw [hL]
        unfold resR
        cases hpn : pn (l.drop 2) with
        | none => rfl
        | some ns =>
          have hnl : (ns.length : Int) = nOf p := by rw [pn_len hpn, List.length_drop]; omega
          simp only [Option.bind_some, List.nil_append, made_sp k hp hnl, rright_sp]
          unfold outD
          cases dR (mkD p ns) <;> rfl
  · rw [show decide (Int.ofNat l.length = 2 + nOf p) = false from decide_eq_false hlen, decide_eq_false hlen]
    rfl
theorem L1_end (l : List ByteArray) (t2 : GDirective) (op : Int) (k : Nat) : feluccaref04_Parse_L1 (k + 1) (l, t2, op, 3) = some (.inl (l, t2, op)) := rfl
theorem L1_all (l : List ByteArray) (hl : l.length ≤ 5000) (hs : ∀ a ∈ l, a.size ≤ 100000) (t2 : GDirective) {op : Int} (h1 : (op, 1) ∈ fKsG) (h2 : (op, 2) ∈ fKsG) (k : Nat) (hk : 110130 ≤ k) :
    feluccaref04_Parse_L1 k (l, t2, op, 1) = some (bif fitR l (op, 1) then .inr (resR l (op, 1)) else bif fitR l (op, 2) then .inr (resR l (op, 2)) else .inl (l, t2, op)) := by
  obtain ⟨k, rfl⟩ : ∃ m, k = m + 3 := ⟨k - 3, by omega⟩
  rw [L1_step l hl hs t2 h1 (k + 2) (by omega)]
  simp only [e11]
  rw [L1_step l hl hs t2 h2 (k + 1) (by omega)]
  simp only [e21]
  rw [L1_end]
  cases fitR l (op, 1) <;> cases fitR l (op, 2) <;> rfl
theorem L0_step (l : List ByteArray) (hl : l.length ≤ 5000) (hs : ∀ a ∈ l, a.size ≤ 100000) (t2 : GDirective) {op : Int} (ho : op ≤ 3) (h1 : (op, 1) ∈ fKsG) (h2 : (op, 2) ∈ fKsG) (k : Nat) (hk : 110130 ≤ k) :
    feluccaref04_Parse_L0 (k + 1) (l, t2, op) = bif fitR l (op, 1) then some (.inr (resR l (op, 1))) else bif fitR l (op, 2) then some (.inr (resR l (op, 2))) else feluccaref04_Parse_L0 k (l, t2, w64 (op + 1)) := by
  rw [feluccaref04_Parse_L0, decide_eq_true ho, cond_true, L1_all l hl hs t2 h1 h2 k hk]
  simp only [Option.bind_some]
  cases fitR l (op, 1) <;> cases fitR l (op, 2) <;> rfl
theorem L0_end (l : List ByteArray) (t2 : GDirective) (k : Nat) : feluccaref04_Parse_L0 (k + 1) (l, t2, 4) = some (.inl t2) := rfl
theorem fit_hit {l : List ByteArray} {p : Int × Int} (h : fitR l p = true) : hit l p = true := by
  unfold fitR at h
  exact (Bool.and_eq_true_iff.1 h).2
theorem fit_len {l : List ByteArray} {p : Int × Int} (h : fitR l p = true) : (l.length : Int) = 2 + nOf p := by
  unfold fitR at h
  exact of_decide_eq_true (Bool.and_eq_true_iff.1 h).1
theorem fit_res {l : List ByteArray} {p : Int × Int} (hp : p ∈ fKsG) (h : fitR l p = true) : parseB l = resR l p := by
  unfold parseB resR
  rw [find_hit hp (fit_hit h)]
  simp only [decide_eq_true (fit_len h), cond_true]
  cases pn (l.drop 2) <;> rfl
theorem fit_none {l : List ByteArray} (h : ∀ p ∈ fKsG, fitR l p = false) : parseB l = (d0, 2) := by
  unfold parseB
  cases hf : fKsG.find? (hit l) with
  | none => rfl
  | some p =>
    have := h p (List.mem_of_find?_eq_some hf)
    unfold fitR at this
    rw [List.find?_some hf, Bool.and_true] at this
    simp only [this, cond_false]
theorem rParse_sp (k : Nat) {l : List ByteArray} (hl : l.length ≤ 5000) (hs : ∀ a ∈ l, a.size ≤ 100000) (hk : 110140 ≤ k) : feluccaref04_Parse k l = some (parseB l) := by
  unfold feluccaref04_Parse
  have hL : feluccaref04_Parse_L0 k (l, d0, 1) = some (bif fitR l (1, 1) then .inr (resR l (1, 1)) else bif fitR l (1, 2) then .inr (resR l (1, 2)) else bif fitR l (2, 1) then .inr (resR l (2, 1)) else bif fitR l (2, 2) then .inr (resR l (2, 2)) else bif fitR l (3, 1) then .inr (resR l (3, 1)) else bif fitR l (3, 2) then .inr (resR l (3, 2)) else .inl d0) := by
    obtain ⟨k, rfl⟩ : ∃ m, k = m + 4 := ⟨k - 4, by omega⟩
    rw [L0_step l hl hs d0 (op := 1) (by omega) (by decide) (by decide) (k + 3) (by omega), e11, L0_step l hl hs d0 (op := 2) (by omega) (by decide) (by decide) (k + 2) (by omega), e21, L0_step l hl hs d0 (op := 3) (by omega) (by decide) (by decide) (k + 1) (by omega), e31, L0_end]
    cases fitR l (1, 1) <;> cases fitR l (1, 2) <;> cases fitR l (2, 1) <;> cases fitR l (2, 2) <;> cases fitR l (3, 1) <;> cases fitR l (3, 2) <;> rfl
  rw [hL]
  cases h1 : fitR l (1, 1) with
  | true => rw [fit_res (by decide) h1]; rfl
  | false =>
    cases h2 : fitR l (1, 2) with
    | true => rw [fit_res (by decide) h2]; rfl
    | false =>
      cases h3 : fitR l (2, 1) with
      | true => rw [fit_res (by decide) h3]; rfl
      | false =>
        cases h4 : fitR l (2, 2) with
        | true => rw [fit_res (by decide) h4]; rfl
        | false =>
          cases h5 : fitR l (3, 1) with
          | true => rw [fit_res (by decide) h5]; rfl
          | false =>
            cases h6 : fitR l (3, 2) with
            | true => rw [fit_res (by decide) h6]; rfl
            | false =>
              rw [fit_none (fun p hp => by
                simp only [fKsG, List.mem_cons, List.not_mem_nil, or_false] at hp
                rcases hp with rfl | rfl | rfl | rfl | rfl | rfl <;> assumption)]
              rfl
end Go.Proofs.YtaknikdbnfmlfaaDoor.Ex
