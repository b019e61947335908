/- The document's answers on numbers and directives in plain words: ref01.Text, ref01.Parse, ref03, ref04. -/
import Derived.Test.YtaknikdbnfmlfaaDoorTc
namespace Go.Proofs.YtaknikdbnfmlfaaDoor.Ex
open Go Go.RowKit Go.Lib Go.Proofs.YtaknikdbnfmlfaaDoor.Wrd Go.Proofs.YtaknikdbnfmlfaaDoor.Dig
set_option linter.unusedVariables false
set_option linter.unusedSimpArgs false
/-! ### directives -/
theorem bif_ff (a : Bool) : (bif a then some false else some false) = some false := by cases a <;> rfl
theorem bz (x : Int) : (x == (0 : Int)) = decide (x = 0) := by
  by_cases h : x = 0
  · subst h; rfl
  · rw [decide_eq_false h]; exact beq_eq_false_iff_ne.2 h
theorem rcontact_sp (k : Nat) (i f t s e r : Int) : feluccaref03_Contact k (i, f, t, s, e, r) = some (cOk i f t s e r) := by
  unfold feluccaref03_Contact feluccaref03_pair feluccaref03_Node
  simp only [Option.bind_some, bif_id, bif_and, Bool.and_false]
  congr 1
  rw [Bool.eq_iff_iff]
  simp only [Bool.and_eq_true, decide_eq_true_eq, Bool.not_eq_true', decide_eq_false_iff_not, cOk, and_true]
  omega
theorem rrange_sp (k : Nat) (f t s e y : Int) : feluccaref03_Range k (f, t, s, e, y) = some (rOk f t s e y) := by
  unfold feluccaref03_Range feluccaref03_pair feluccaref03_Node
  simp only [Option.bind_some, bif_id, bif_and, Bool.and_false]
  congr 1
  rw [Bool.eq_iff_iff]
  simp only [Bool.and_eq_true, decide_eq_true_eq, Bool.not_eq_true', decide_eq_false_iff_not, rOk, and_true]
  omega
theorem rright_sp (k : Nat) (d : GDirective) : feluccaref04_Right k d = some (dR d) := by
  obtain ⟨o, q, i, f, t, s, e, r, p, u, v, x, y⟩ := d
  simp only [dR]
  unfold feluccaref04_Right feluccaref04_noRange feluccaref04_noContact feluccaref04_whole
  simp only [rcontact_sp, rrange_sp, Option.bind_some, bif_id, bif_and]
  unfold rightB
  by_cases q1 : q = 1
  · subst q1
    by_cases o1 : o = 1
    · subst o1; simp [bz, zR, bif_and]
    · by_cases o2 : o = 2
      · subst o2; simp [bz, zR, bif_and]
      · by_cases o3 : o = 3
        · subst o3; simp [bz, zR, bif_and]
        · simp [bz, zR, bif_and, o1, o2, o3]
  · by_cases q2 : q = 2
    · subst q2
      by_cases o1 : o = 1
      · subst o1; simp [bz, zC, bif_and]
      · by_cases o2 : o = 2
        · subst o2
          by_cases y0 : y = 0
          · subst y0; simp [bz, zC, bif_and]
          · simp [bz, zC, bif_and, y0]
        · by_cases o3 : o = 3
          · subst o3; simp [bz, zC, bif_and]
          · simp [bz, zC, bif_and, o1, o2, o3]
    · simp [q1, q2]
/-! ### numbers -/
theorem itoa_nn {n : Int} (h : 0 ≤ n) : itoa n = decDigits n.toNat := by unfold itoa; rw [if_neg (by omega)]
theorem one_text (k : Nat) {m : Int} (h0 : 0 ≤ m) (h1 : m < 10) (hk : 1 ≤ k) : feluccaref01_Text k m = some (ofL (itoa m)) := by
  obtain ⟨k, rfl⟩ : ∃ q, k = q + 1 := ⟨k - 1, by omega⟩
  rw [feluccaref01_Text, decide_eq_false (by omega), cond_false, decide_eq_true h1, cond_true, itoa_nn h0, dec_small (by omega), Int.tmod_eq_emod_of_nonneg h0, w64' ⟨by omega, by omega⟩]
  unfold strOfNums ofL
  congr 3
  simp only [List.map_cons, List.map_nil]
  congr 2
  simp [IntKind.wrap, IntKind.signed, IntKind.bits]
  omega
theorem ref_text (j : Nat) : ∀ (n : Int) (k : Nat), j ≤ 1000 → 0 ≤ n → n ≤ 2147483647 → n.toNat < 10 ^ (j + 1) → j + 2 ≤ k → feluccaref01_Text k n = some (ofL (itoa n)) := by
  induction j with
  | zero => intro n k _ h0 h1 h2 hk; exact one_text k h0 (by omega) (by omega)
  | succ j ih =>
    intro n k hj h0 h1 h2 hk
    have hp : 10 ^ (j + 1 + 1) = 10 ^ (j + 1) * 10 := Nat.pow_succ ..
    by_cases hl : n < 10
    · exact one_text k h0 hl (by omega)
    · obtain ⟨k, rfl⟩ : ∃ q, k = q + 1 := ⟨k - 1, by omega⟩
      rw [feluccaref01_Text, decide_eq_false (by omega), cond_false, decide_eq_false hl, cond_false, Int.tdiv_eq_ediv_of_nonneg h0, Int.tmod_eq_emod_of_nonneg h0, w64' (n := n / 10) ⟨by omega, by omega⟩, w64' (n := 48 + n % 10) ⟨by omega, by omega⟩, ih (n / 10) k (by omega) (by omega) (by omega) (by omega) (by omega)]
      have es : strOfNums [IntKind.wrap .u8 (48 + n % 10)] = ofL [UInt8.ofNat (48 + n.toNat % 10)] := by
        unfold strOfNums ofL
        simp only [List.map_cons, List.map_nil]
        congr 4
        simp [IntKind.wrap, IntKind.signed, IntKind.bits]
        omega
      have l1 : (itoa (n / 10)).length ≤ j + 1 := by rw [itoa_nn (by omega)]; exact dec_len _ j (by omega)
      simp only [Option.bind_some]
      rw [es, decide_eq_true (by rw [ofL_size, ofL_size]; simp; omega), cond_true, ofL_append, itoa_nn (n := n) h0, itoa_nn (by omega), dec_big (u := n.toNat) (by omega), show (n / 10).toNat = n.toNat / 10 by omega]
theorem rtext_sp (k : Nat) {n : Int} (h0 : 0 ≤ n) (h1 : n ≤ 2147483647) (hk : 12 ≤ k) : feluccaref01_Text k n = some (tB n) := by
  rw [ref_text 9 n k (by omega) h0 h1 (by omega) (by omega), ← tB_data h0 h1, ofL_data]
def rgo (s : List UInt8) (high : Int) : List UInt8 → Int → Int × Bool
  | [], n => if high < n then (0, false) else if itoa n = s then (n, true) else (0, false)
  | c :: l, n => if (c.toNat : Int) < 48 then (0, false) else if 57 < (c.toNat : Int) then (0, false) else
      if (9223372036854775807 - ((c.toNat : Int) - 48)) / 10 < n then (0, false) else rgo s high l (n * 10 + ((c.toNat : Int) - 48))
theorem rgo_true (s : List UInt8) (high : Int) : ∀ (l : List UInt8) (n m : Int), 0 ≤ n → n ≤ 9223372036854775807 → rgo s high l n = (m, true) → 0 ≤ m ∧ m ≤ 9223372036854775807 ∧ m ≤ high ∧ itoa m = s
  | [], n, m, h0, h1, h => by
    unfold rgo at h
    split at h
    · simp at h
    · split at h
      · rename_i h2 h3
        obtain rfl : n = m := (Prod.mk.inj h).1
        exact ⟨h0, h1, by omega, h3⟩
      · simp at h
  | c :: l, n, m, h0, h1, h => by
    unfold rgo at h
    split at h
    · simp at h
    · split at h
      · simp at h
      · split at h
        · simp at h
        · exact rgo_true s high l _ m (by omega) (by omega) h
theorem rgo_false (s : List UInt8) (high : Int) : ∀ (l : List UInt8) (n m : Int), rgo s high l n = (m, false) → m = 0
  | [], n, m, h => by
    unfold rgo at h
    split at h
    · exact (Prod.mk.inj h).1.symm
    · split at h
      · simp at h
      · exact (Prod.mk.inj h).1.symm
  | c :: l, n, m, h => by
    unfold rgo at h
    split at h
    · exact (Prod.mk.inj h).1.symm
    · split at h
      · exact (Prod.mk.inj h).1.symm
      · split at h
        · exact (Prod.mk.inj h).1.symm
        · exact rgo_false s high l _ m h
theorem rgo_of_pgo (s : List UInt8) (high : Int) : ∀ (l : List UInt8) (b : Bool) (n m : Int), pgo l b n = some m → m ≤ high → itoa m = s → rgo s high l n = (m, true)
  | [], b, n, m, h, h1, h2 => by
    simp only [pgo, Option.some.injEq] at h
    subst h
    unfold rgo
    rw [if_neg (by omega), if_pos h2]
  | c :: l, b, n, m, h, h1, h2 => by
    rw [pgo_cons] at h
    cases hs : stepI c b n with
    | none => rw [hs] at h; simp at h
    | some q =>
      rw [hs] at h
      obtain ⟨a1, a2, a3, a4, rfl⟩ := stepI_some hs
      unfold rgo
      rw [if_neg (by omega), if_neg (by omega), if_neg (by omega)]
      exact rgo_of_pgo s high l false _ m h h1 h2
theorem rgo_parse (s : List UInt8) (high : Int) : rgo s high s 0 = parseI s high := by
  cases hp : parseI s high with
  | mk n b =>
    cases b with
    | true =>
      obtain ⟨h0, h1, h2, h3⟩ := parse_true hp
      have hg : pgo s true 0 = some n := by rw [← h3, itoa_nn h0]; rw [pgo_dec n.toNat (by omega)]; congr 1; omega
      exact rgo_of_pgo s high s true 0 n hg h1 h3
    | false =>
      have hn := parse_false hp
      subst hn
      cases hr : rgo s high s 0 with
      | mk m b =>
        cases b with
        | true =>
          obtain ⟨h0, h1, h2, h3⟩ := rgo_true s high s 0 m (by omega) (by omega) hr
          rw [← h3, parse_of h0 h2 h1] at hp
          simp at hp
        | false => rw [rgo_false s high s 0 m hr]
/-- The rest of ref01.Parse behind its loop. -/
def rend (k : Nat) (o : (ByteArray × Int × Int) ⊕ (Int × Bool)) : Option (Int × Bool) :=
    match o with
    | .inl o_2 =>
      bif decide (o_2.2.1 < o_2.2.2) then
        some ((0, false))
      else
        (feluccaref01_Text k o_2.2.2).bind fun o_4 =>
          bif !o_4.data.toList == o_2.1.data.toList then
            some ((0, false))
          else
            some ((o_2.2.2, true))
    | .inr o_2 =>
      some (o_2)
theorem byteI_nat (s : ByteArray) (i : Nat) (h : i < s.size) : byteI s (i : Int) = ((s[i]'h).toNat : Int) := by
  unfold byteI
  simp [h]
  rfl
theorem refparse_L0 (k' : Nat) (hk' : 12 ≤ k') (s : ByteArray) (hs : s.size ≤ 100000) (d : Nat) : ∀ (k i : Nat) (n : Int), i + d = s.size → d < k → 0 ≤ n → n ≤ 9223372036854775807 →
    (feluccaref01_Parse_L0 k (s, 2147483647, n, (i : Int))).bind (rend k') = some (rgo s.data.toList 2147483647 (s.data.toList.drop i) n) := by
  induction d with
  | zero =>
    intro k i n hi hk h0 h1
    obtain ⟨k, rfl⟩ : ∃ q, k = q + 1 := ⟨k - 1, by omega⟩
    rw [feluccaref01_Parse_L0, lt_no (by omega), cond_false, List.drop_of_length_le (by simp; omega)]
    simp only [Option.bind_some, rend]
    unfold rgo
    by_cases hh : 2147483647 < n
    · rw [decide_eq_true hh, cond_true, if_pos hh]
    · rw [decide_eq_false hh, cond_false, if_neg hh, rtext_sp k' h0 (by omega) hk']
      simp only [Option.bind_some]
      rw [tB_data h0 (by omega)]
      by_cases he : itoa n = s.data.toList
      · rw [if_pos he, he]; simp
      · rw [if_neg he, show (itoa n == s.data.toList) = false from beq_eq_false_iff_ne.2 he]; rfl
  | succ d ih =>
    intro k i n hi hk h0 h1
    obtain ⟨k, rfl⟩ : ∃ q, k = q + 1 := ⟨k - 1, by omega⟩
    have hlt : i < s.size := by omega
    have h8 : (s[i]'hlt).toNat < 256 := (s[i]'hlt).toNat_lt
    rw [drop_at s i hlt]
    rw [feluccaref01_Parse_L0, lt_yes hlt, ge0, byteI_nat s i hlt]
    simp only [cond_true, Bool.and_self]
    unfold rgo
    rw [w64' (n := (((s[i]'hlt).toNat : Int))) ⟨by omega, by omega⟩, w64' (n := (((s[i]'hlt).toNat : Int)) - 48) ⟨by omega, by omega⟩]
    by_cases c1 : ((s[i]'hlt).toNat : Int) < 48
    · rw [decide_eq_true (by omega), cond_true, if_pos c1]; rfl
    · rw [decide_eq_false (by omega), cond_false, if_neg c1]
      by_cases c2 : 57 < ((s[i]'hlt).toNat : Int)
      · rw [decide_eq_true (by omega), cond_true, if_pos c2]; rfl
      · rw [decide_eq_false (by omega), cond_false, if_neg c2, w64' (n := 9223372036854775807 - (((s[i]'hlt).toNat : Int) - 48)) ⟨by omega, by omega⟩, Int.tdiv_eq_ediv_of_nonneg (by omega),
          w64' (n := (9223372036854775807 - (((s[i]'hlt).toNat : Int) - 48)) / 10) ⟨by omega, by omega⟩]
        by_cases c3 : (9223372036854775807 - (((s[i]'hlt).toNat : Int) - 48)) / 10 < n
        · rw [decide_eq_true c3, cond_true, if_pos c3]; rfl
        · rw [decide_eq_false c3, cond_false, if_neg c3, w64' (n := 10 * n) ⟨by omega, by omega⟩, w64' (n := 10 * n + _) ⟨by omega, by omega⟩, w64_succ (by omega),
            show 10 * n + (((s[i]'hlt).toNat : Int) - 48) = n * 10 + (((s[i]'hlt).toNat : Int) - 48) by omega]
          exact ih k (i + 1) _ (by omega) (by omega) (by omega) (by omega)
theorem rparse_sp (k : Nat) {s : ByteArray} (hs : s.size ≤ 100000) (hk : s.size < k) (hk2 : 12 ≤ k) : feluccaref01_Parse k (s, 2147483647) = some (parseI s.data.toList 2147483647) := by
  have h := refparse_L0 k hk2 s hs s.size k 0 0 (by omega) hk (by omega) (by omega)
  rw [List.drop_zero, rgo_parse] at h
  exact h
/-! ### words of directives -/
theorem rfirst_sp (k : Nat) {d : GDirective} (hp : (d.1, d.2.1) ∈ fKsG) : feluccaref04_first k d = some [ofL (opB d.1), ofL (kdB d.2.1)] := by
  obtain ⟨o, q, i, f, t, s, e, r, p, u, v, x, y⟩ := d
  simp only [fKsG, List.mem_cons, List.not_mem_nil, or_false, Prod.mk.injEq] at hp
  rcases hp with ⟨rfl, rfl⟩ | ⟨rfl, rfl⟩ | ⟨rfl, rfl⟩ | ⟨rfl, rfl⟩ | ⟨rfl, rfl⟩ | ⟨rfl, rfl⟩ <;> kernel_rfl
theorem rnumbers_sp (k : Nat) (d : GDirective) : feluccaref04_numbers k d = some (vals d) := by
  obtain ⟨o, q, i, f, t, s, e, r, p, u, v, x, y⟩ := d
  unfold feluccaref04_numbers vals
  by_cases q1 : q = 1 <;> by_cases o1 : o = 1 <;> by_cases o2 : o = 2 <;> simp [q1, o1, o2]
theorem rwords_L0 (l : List Int) (hl : l.length ≤ 1000) (hv : ∀ n ∈ l, 0 ≤ n ∧ n ≤ 2147483647) : ∀ (n i k : Nat) (out : List ByteArray), i + n = l.length → n + 12 < k → out.length ≤ i + 2 →
    feluccaref04_Words_L0 k (out, l, (i : Int)) = some (.inl (out ++ (l.drop i).map tB))
  | 0, i, k, out, h, hk, ho => by
    obtain ⟨k, rfl⟩ : ∃ m, k = m + 1 := ⟨k - 1, by omega⟩
    rw [feluccaref04_Words_L0, lt_no (by omega), List.drop_eq_nil_of_le (by omega)]
    simp
  | n + 1, i, k, out, h, hk, ho => by
    obtain ⟨k, rfl⟩ : ∃ m, k = m + 1 := ⟨k - 1, by omega⟩
    have hi : i < l.length := by omega
    obtain ⟨v0, v1⟩ := hv l[i] (List.getElem_mem hi)
    rw [feluccaref04_Words_L0, lt_yes hi, ge0, getD_nat _ _ hi, rtext_sp k v0 v1 (by omega), w64_succ (by omega), List.drop_eq_getElem_cons hi]
    simp only [cond_true, Option.bind_some]
    rw [decide_eq_true (by simp; omega), cond_true, rwords_L0 l hl hv n (i + 1) k _ (by omega) (by omega) (by simp; omega), List.map_cons, List.append_assoc]
    rfl
theorem vals_len (d : GDirective) : (vals d).length ≤ 6 := by
  obtain ⟨o, q, i, f, t, s, e, r, p, u, v, x, y⟩ := d
  unfold vals
  by_cases q1 : q = 1 <;> by_cases o1 : o = 1 <;> by_cases o2 : o = 2 <;> simp [q1, o1, o2]
theorem rwords_sp (k : Nat) (d : GDirective) (hk : 20 ≤ k) : feluccaref04_Words k d = some (bif dR d then (wordsB d, true) else ([], false)) := by
  unfold feluccaref04_Words
  rw [rright_sp]
  cases hr : dR d with
  | false => rfl
  | true =>
    obtain ⟨_, hv, _⟩ := dR_shape hr
    have hl := vals_len d
    simp only [Option.bind_some, cond_true, rfirst_sp k (dR_pair hr), rnumbers_sp]
    have h := rwords_L0 (vals d) (by omega) hv (vals d).length 0 k [ofL (opB d.1), ofL (kdB d.2.1)] (by omega) (by omega) (by simp)
    rw [show ((0 : Nat) : Int) = 0 from rfl] at h
    rw [h]
    rfl
end Go.Proofs.YtaknikdbnfmlfaaDoor.Ex
