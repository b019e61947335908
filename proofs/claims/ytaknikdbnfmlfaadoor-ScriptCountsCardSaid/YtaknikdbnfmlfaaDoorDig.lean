/- Numbers and their decimal texts: what reading sign by sign comes to, and that it is the other way round of writing. No program in this text. -/
import Derived.Lib.ItoaNum
namespace Go.Proofs.YtaknikdbnfmlfaaDoor.Dig
open Go.Lib

/-- A number read sign by sign: what is left, is it the first sign, what was read. -/
def pgo : List UInt8 → Bool → Int → Option Int
  | [], _, n => some n
  | c :: l, first, n => if (c.toNat : Int) < 48 then none else if 57 < (c.toNat : Int) then none else if first = false ∧ n = 0 then none else
      if (9223372036854775807 - ((c.toNat : Int) - 48)) / 10 < n then none else pgo l false (n * 10 + ((c.toNat : Int) - 48))

def parseI (l : List UInt8) (high : Int) : Int × Bool :=
  match pgo l true 0 with
  | none => (0, false)
  | some n => if l = [] then (0, false) else if high < n then (0, false) else (n, true)

/-- One sign. -/
def stepI (c : UInt8) (first : Bool) (n : Int) : Option Int :=
  if (c.toNat : Int) < 48 then none else if 57 < (c.toNat : Int) then none else if first = false ∧ n = 0 then none else
      if (9223372036854775807 - ((c.toNat : Int) - 48)) / 10 < n then none else some (n * 10 + ((c.toNat : Int) - 48))

theorem pgo_cons (c : UInt8) (l : List UInt8) (b : Bool) (n : Int) : pgo (c :: l) b n = (stepI c b n).bind (pgo l false) := by
  simp only [pgo, stepI]
  repeat' split
  all_goals rfl

theorem pgo_snoc (c : UInt8) : ∀ (l : List UInt8) (b : Bool) (n : Int), pgo (l ++ [c]) b n = (pgo l b n).bind (stepI c (b && l.isEmpty))
  | [], b, n => by
    rw [List.nil_append, pgo_cons, pgo]
    simp only [List.isEmpty_nil, Bool.and_true, Option.bind_some]
    cases stepI c b n <;> simp [pgo]
  | x :: l, b, n => by
    rw [List.cons_append, pgo_cons, pgo_cons]
    cases h : stepI x b n with
    | none => rfl
    | some m => simp only [Option.bind_some]; rw [pgo_snoc c l false m]; simp

theorem dec_small {u : Nat} (h : u < 10) : decDigits u = [UInt8.ofNat (48 + u)] := by rw [decDigits, dif_pos h]
theorem dec_big {u : Nat} (h : ¬ u < 10) : decDigits u = decDigits (u / 10) ++ [UInt8.ofNat (48 + u % 10)] := by rw [decDigits, dif_neg h]

theorem dec_ne (u : Nat) : decDigits u ≠ [] := by
  by_cases h : u < 10
  · rw [dec_small h]; simp
  · rw [dec_big h]; simp

theorem byte_toNat {d : Nat} (h : d < 10) : (UInt8.ofNat (48 + d)).toNat = 48 + d := by
  simp only [UInt8.toNat_ofNat']
  omega

theorem byte_of {c : UInt8} (h1 : 48 ≤ c.toNat) (h2 : c.toNat ≤ 57) : c = UInt8.ofNat (48 + (c.toNat - 48)) := by
  rw [show 48 + (c.toNat - 48) = c.toNat by omega, UInt8.ofNat_toNat]

/-- What was written is read. -/
theorem pgo_dec (u : Nat) (h : (u : Int) ≤ 9223372036854775807) : pgo (decDigits u) true 0 = some (u : Int) := by
  induction u using Nat.strongRecOn with
  | _ u ih =>
    by_cases hs : u < 10
    · rw [dec_small hs, pgo_cons]
      have e := byte_toNat hs
      unfold stepI
      rw [e, if_neg (by omega), if_neg (by omega), if_neg (by simp), if_neg (by omega)]
      simp [pgo]
      omega
    · rw [dec_big hs, pgo_snoc, ih (u / 10) (by omega) (by omega)]
      have e := byte_toNat (show u % 10 < 10 by omega)
      have hn : (decDigits (u / 10)).isEmpty = false := by simpa using dec_ne (u / 10)
      simp only [Option.bind_some, hn, Bool.and_false]
      unfold stepI
      rw [e, if_neg (by omega), if_neg (by omega), if_neg (by omega), if_neg (by omega)]
      congr 1
      omega

theorem stepI_some {c : UInt8} {b : Bool} {n m : Int} (h : stepI c b n = some m) :
    48 ≤ c.toNat ∧ c.toNat ≤ 57 ∧ (b = false → n ≠ 0) ∧ n ≤ (9223372036854775807 - ((c.toNat : Int) - 48)) / 10 ∧ m = n * 10 + ((c.toNat : Int) - 48) := by
  unfold stepI at h
  split at h <;> try contradiction
  split at h <;> try contradiction
  split at h <;> try contradiction
  split at h <;> try contradiction
  rename_i h1 h2 h3 h4
  have h := Option.some.inj h
  exact ⟨by omega, by omega, fun hb hn => h3 ⟨hb, hn⟩, by omega, h.symm⟩

theorem list_snoc {α : Type} (l : List α) (h : l ≠ []) : ∃ l' c, l = l' ++ [c] := ⟨l.dropLast, l.getLast h, (List.dropLast_concat_getLast h).symm⟩

/-- What is read was written so. -/
theorem dec_of_pgo : ∀ (k : Nat) (l : List UInt8) (m : Int), l.length = k → l ≠ [] → pgo l true 0 = some m → 0 ≤ m ∧ m ≤ 9223372036854775807 ∧ decDigits m.toNat = l := by
  intro k
  induction k with
  | zero => intro l m hl hn _; exact absurd (List.length_eq_zero_iff.1 hl) hn
  | succ k ih =>
    intro l m hl hn hp
    obtain ⟨l', c, rfl⟩ := list_snoc l hn
    rw [pgo_snoc] at hp
    by_cases he : l' = []
    · subst he
      simp only [pgo, Option.bind_some, List.isEmpty_nil, Bool.and_true] at hp
      obtain ⟨h1, h2, _, _, rfl⟩ := stepI_some hp
      refine ⟨by omega, by omega, ?_⟩
      rw [show (0 * 10 + ((c.toNat : Int) - 48)).toNat = c.toNat - 48 by omega, dec_small (by omega), ← byte_of h1 h2]
      rfl
    · cases hq : pgo l' true 0 with
      | none => rw [hq] at hp; simp at hp
      | some q =>
        rw [hq] at hp
        have hne : l'.isEmpty = false := by simpa using he
        simp only [Option.bind_some, hne, Bool.and_false] at hp
        obtain ⟨h1, h2, h3, h4, rfl⟩ := stepI_some hp
        have hl' : l'.length = k := by simpa using hl
        obtain ⟨q0, q1, qe⟩ := ih l' q hl' he hq
        have hq0 : q ≠ 0 := h3 rfl
        refine ⟨by omega, by omega, ?_⟩
        have hbig : ¬ (q * 10 + ((c.toNat : Int) - 48)).toNat < 10 := by omega
        rw [dec_big hbig, show (q * 10 + ((c.toNat : Int) - 48)).toNat / 10 = q.toNat by omega, qe,
          show 48 + (q * 10 + ((c.toNat : Int) - 48)).toNat % 10 = 48 + (c.toNat - 48) by omega, ← byte_of h1 h2]

/-- Reading, in one sentence. -/
theorem parse_true {l : List UInt8} {high n : Int} (h : parseI l high = (n, true)) : 0 ≤ n ∧ n ≤ high ∧ n ≤ 9223372036854775807 ∧ itoa n = l := by
  unfold parseI at h
  cases hp : pgo l true 0 with
  | none => rw [hp] at h; simp at h
  | some m =>
    rw [hp] at h
    simp only at h
    split at h
    · simp at h
    · rename_i hl
      split at h
      · simp at h
      · rename_i hh
        have hm : m = n := (Prod.mk.inj h).1
        subst hm
        obtain ⟨h0, h1, h2⟩ := dec_of_pgo _ l m rfl hl hp
        exact ⟨h0, by omega, h1, by unfold itoa; rw [if_neg (by omega)]; exact h2⟩

theorem parse_of {n high : Int} (h0 : 0 ≤ n) (h1 : n ≤ high) (h2 : n ≤ 9223372036854775807) : parseI (itoa n) high = (n, true) := by
  have e : itoa n = decDigits n.toNat := by unfold itoa; rw [if_neg (by omega)]
  have hp := pgo_dec n.toNat (by omega)
  unfold parseI
  rw [e, hp]
  simp only
  rw [if_neg (dec_ne _), if_neg (by omega), show ((n.toNat : Nat) : Int) = n by omega]

theorem parse_false {l : List UInt8} {high n : Int} (h : parseI l high = (n, false)) : n = 0 := by
  unfold parseI at h
  split at h
  · exact (Prod.mk.inj h).1.symm
  · split at h
    · exact (Prod.mk.inj h).1.symm
    · split at h
      · exact (Prod.mk.inj h).1.symm
      · simp at h

theorem parse_no {l : List UInt8} {high : Int} (h : ∀ n, 0 ≤ n → n ≤ high → n ≤ 9223372036854775807 → itoa n ≠ l) : parseI l high = (0, false) := by
  cases hp : parseI l high with
  | mk n b =>
    cases b with
    | true => obtain ⟨a, b, c, d⟩ := parse_true hp; exact absurd d (h n a b c)
    | false => rw [parse_false hp]

theorem dec_inj {a b : Nat} (ha : (a : Int) ≤ 9223372036854775807) (hb : (b : Int) ≤ 9223372036854775807) (h : decDigits a = decDigits b) : a = b := by
  have h1 := pgo_dec a ha
  have h2 := pgo_dec b hb
  rw [h, h2] at h1
  have := Option.some.inj h1
  omega

theorem dec_digit (u : Nat) : ∀ c ∈ decDigits u, 48 ≤ c.toNat ∧ c.toNat ≤ 57 := by
  induction u using Nat.strongRecOn with
  | _ u ih =>
    intro c hc
    by_cases hs : u < 10
    · rw [dec_small hs, List.mem_singleton] at hc
      subst hc
      rw [byte_toNat hs]
      omega
    · rw [dec_big hs, List.mem_append, List.mem_singleton] at hc
      rcases hc with hc | rfl
      · exact ih (u / 10) (by omega) c hc
      · rw [byte_toNat (by omega)]
        omega

/-- Unlike numbers have unlike texts (any two; 2^63 is the greatest size of a negative one). -/
theorem pgo_dec_any (u : Nat) : ∃ c l, decDigits u = c :: l := by
  cases h : decDigits u with
  | nil => exact absurd h (dec_ne u)
  | cons c l => exact ⟨c, l, rfl⟩

/-- The value of digits. -/
def valD (l : List UInt8) : Nat := l.foldl (fun a c => a * 10 + (c.toNat - 48)) 0
theorem valD_snoc (l : List UInt8) (c : UInt8) : valD (l ++ [c]) = valD l * 10 + (c.toNat - 48) := by unfold valD; rw [List.foldl_append]; rfl
theorem valD_dec (u : Nat) : valD (decDigits u) = u := by
  induction u using Nat.strongRecOn with
  | _ u ih =>
    by_cases hs : u < 10
    · rw [dec_small hs]
      show 0 * 10 + ((UInt8.ofNat (48 + u)).toNat - 48) = u
      rw [byte_toNat hs]; omega
    · rw [dec_big hs, valD_snoc, ih (u / 10) (by omega), byte_toNat (by omega)]
      omega

theorem itoa_inj {a b : Int} (h : itoa a = itoa b) : a = b := by
  unfold itoa at h
  by_cases ha : a < 0
  · by_cases hb : b < 0
    · rw [if_pos ha, if_pos hb] at h
      have := congrArg valD (List.cons.inj h).2
      rw [valD_dec, valD_dec] at this
      omega
    · rw [if_pos ha, if_neg hb] at h
      have hc := dec_digit b.toNat 45 (by rw [← h]; exact List.mem_cons_self)
      exact absurd hc.1 (by decide)
  · by_cases hb : b < 0
    · rw [if_neg ha, if_pos hb] at h
      have hc := dec_digit a.toNat 45 (by rw [h]; exact List.mem_cons_self)
      exact absurd hc.1 (by decide)
    · rw [if_neg ha, if_neg hb] at h
      have := congrArg valD h
      rw [valD_dec, valD_dec] at this
      omega

theorem dec_head {u : Nat} (h : 1 ≤ u) : ∀ c l, decDigits u = c :: l → c ≠ 48 := by
  induction u using Nat.strongRecOn with
  | _ u ih =>
    intro c l e
    by_cases hs : u < 10
    · rw [dec_small hs] at e
      have := (List.cons.inj e).1
      subst this
      intro hc
      have := congrArg UInt8.toNat hc
      rw [byte_toNat hs] at this
      simp at this
      omega
    · rw [dec_big hs] at e
      obtain ⟨c', l', e'⟩ := pgo_dec_any (u / 10)
      rw [e'] at e
      have := (List.cons.inj e).1
      subst this
      exact ih (u / 10) (by omega) (by omega) c' l' e'

theorem dec_len (u : Nat) (k : Nat) (h : u < 10 ^ (k + 1)) : (decDigits u).length ≤ k + 1 := by
  induction k generalizing u with
  | zero => rw [dec_small (by simpa using h)]; simp
  | succ k ih =>
    by_cases hs : u < 10
    · rw [dec_small hs]; simp
    · rw [dec_big hs, List.length_append, List.length_singleton]
      have := ih (u / 10) (by rw [Nat.pow_succ] at h; omega)
      omega
end Go.Proofs.YtaknikdbnfmlfaaDoor.Dig
