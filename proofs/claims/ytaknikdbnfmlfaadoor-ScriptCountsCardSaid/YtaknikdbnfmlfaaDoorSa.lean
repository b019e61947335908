/- Layer 25 in plain words: directives of bytes, loads, acts; the program's functions and the document's say so. -/
import Derived.Test.YtaknikdbnfmlfaaDoorTi
import Derived.Test.YtaknikdbnfmlfaaDoorH2
namespace Go.Proofs.YtaknikdbnfmlfaaDoor.Ex
open Go Go.RowKit Go.Lib Go.Proofs.YtaknikdbnfmlfaaDoor.Wrd Go.Proofs.YtaknikdbnfmlfaaDoor.Dig
set_option linter.unusedVariables false
set_option linter.unusedSimpArgs false
abbrev B8 (n : Int) : Prop := 0 ≤ n ∧ n ≤ 255
def X8 : T39 → Prop := fun (a, b, c, d, e, f, g, h, i, j) => B8 a ∧ B8 b ∧ B8 c ∧ B8 d ∧ B8 e ∧ B8 f ∧ B8 g ∧ B8 h ∧ B8 i ∧ B8 j
theorem w8 {n : Int} (h : B8 n) : w64 n = n := w64' ⟨by have := h.1; omega, by have := h.2; omega⟩
theorem t8 {n : Int} (h : B8 n) (m : Int) : Int.tmod n m = n % m := Int.tmod_eq_emod_of_nonneg h.1
theorem of_sp (k : Nat) {c m : Int} (h : B8 c) (h0 : 0 < m) (h1 : m ≤ 1000) : script_of k (c, m) = some (1 + c % m) := by
  have e0 := Int.emod_nonneg c (by omega : m ≠ 0)
  have e1 := Int.emod_lt_of_pos c h0
  unfold script_of
  simp only [w8 h, t8 h]
  rw [decide_eq_false (by omega), cond_false, w64' ⟨by omega, by omega⟩]
theorem and1 {n : Int} (h : B8 n) : andI .u8 n 1 = n % 2 := by
  have key : ∀ m : Fin 256, andI .u8 ((m.val : Nat) : Int) 1 = ((m.val : Nat) : Int) % 2 := by decide +kernel
  have := key ⟨n.toNat, by have := h.1; have := h.2; omega⟩
  simp only [Int.toNat_of_nonneg h.1] at this
  exact this
/-- A directive of ten bytes. -/
def dirB : T39 → GDirective := fun (x0, x1, x2, x3, x4, x5, x6, x7, x8, x9) =>
  if x1 % 6 = 2 then (1, 2, 0, 0, 0, 0, 0, 0, 1 + x3 % 4, 1 + x4 % 4, 0, 1 + x5, x6 % 8)
  else if x1 % 6 = 3 then (2, 1, 1 + x2 % 16, 0, 0, 0, 0, 0, 0, 0, 0, 0, 0)
  else if x1 % 6 = 4 then (3, 1, 1 + x2 % 16, 0, 0, 0, 0, 1 + x7 % 4, 0, 0, 0, 0, 0)
  else if x1 % 6 = 5 then (2, 2, 0, 0, 0, 0, 0, 0, 1 + x3 % 4, 1 + x4 % 4, 0, 0, 0)
  else (1, 1, 1 + x2 % 16, 1 + x3 % 4, 1 + x4 % 4, x5 % 64, x5 % 64 + 1 + x6 % 64, 1 + x7 % 4, 0, 0, 0, 0, 0)
theorem Directive_sp (k : Nat) {x : T39} (hx : X8 x) : script_Directive k x = some (dirB x) := by
  obtain ⟨x0, x1, x2, x3, x4, x5, x6, x7, x8, x9⟩ := x
  obtain ⟨h0, h1, h2, h3, h4, h5, h6, h7, h8, h9⟩ := hx
  unfold script_Directive dirB
  simp only [of_sp k h2 (m := 16) (by omega) (by omega), of_sp k h7 (m := 4) (by omega) (by omega), of_sp k h3 (m := 4) (by omega) (by omega), of_sp k h4 (m := 4) (by omega) (by omega), of_sp k h6 (m := 64) (by omega) (by omega), Option.bind_some, w8 h5, t8 h1, t8 h5, t8 h6]
  have e1 : w64 (x5 % 64 + (1 + x6 % 64)) = x5 % 64 + 1 + x6 % 64 := by rw [w64' ⟨by omega, by omega⟩]; omega
  have e2 : w64 (1 + x5) = 1 + x5 := w64' ⟨by have := h5.1; omega, by have := h5.2; omega⟩
  have e3 : w64 (x6 % 8) = x6 % 8 := w64' ⟨by omega, by omega⟩
  simp only [e1, e2, e3]
  have hc : x1 % 6 = 0 ∨ x1 % 6 = 1 ∨ x1 % 6 = 2 ∨ x1 % 6 = 3 ∨ x1 % 6 = 4 ∨ x1 % 6 = 5 := by omega
  rcases hc with hc | hc | hc | hc | hc | hc <;> simp [hc]
theorem rDirective_sp (k : Nat) {x : T39} (hx : X8 x) : feluccaref25_Directive k x = some (dirB x) := by
  obtain ⟨x0, x1, x2, x3, x4, x5, x6, x7, x8, x9⟩ := x
  obtain ⟨h0, h1, h2, h3, h4, h5, h6, h7, h8, h9⟩ := hx
  unfold feluccaref25_Directive dirB
  simp only [w8 h2, w8 h3, w8 h4, w8 h5, w8 h6, w8 h7, t8 h1, t8 h2, t8 h3, t8 h4, t8 h5, t8 h6, t8 h7]
  have a1 : ∀ n : Int, w64 (1 + n % 4) = 1 + n % 4 := fun n => w64' ⟨by omega, by omega⟩
  have a2 : ∀ n : Int, w64 (1 + n % 16) = 1 + n % 16 := fun n => w64' ⟨by omega, by omega⟩
  have e0 : w64 (x5 % 64 + 1) = x5 % 64 + 1 := w64' ⟨by omega, by omega⟩
  have e1 : w64 (x5 % 64 + 1 + x6 % 64) = x5 % 64 + 1 + x6 % 64 := w64' ⟨by omega, by omega⟩
  have e2 : w64 (1 + x5) = 1 + x5 := w64' ⟨by have := h5.1; omega, by have := h5.2; omega⟩
  simp only [a1, a2, e0, e1, e2]
  have hc : x1 % 6 = 0 ∨ x1 % 6 = 1 ∨ x1 % 6 = 2 ∨ x1 % 6 = 3 ∨ x1 % 6 = 4 ∨ x1 % 6 = 5 := by omega
  rcases hc with hc | hc | hc | hc | hc | hc <;> simp [hc]
theorem dirB_64 {x : T39} (hx : X8 x) : D64 (dirB x) := by
  obtain ⟨x0, x1, x2, x3, x4, x5, x6, x7, x8, x9⟩ := x
  obtain ⟨h0, h1, h2, h3, h4, h5, h6, h7, h8, h9⟩ := hx
  have h51 := h5.1
  have h52 := h5.2
  unfold dirB
  have hc : x1 % 6 = 0 ∨ x1 % 6 = 1 ∨ x1 % 6 = 2 ∨ x1 % 6 = 3 ∨ x1 % 6 = 4 ∨ x1 % 6 = 5 := by omega
  rcases hc with hc | hc | hc | hc | hc | hc <;> simp [hc, D64, In64] <;> omega
/-- How often a directive is loaded. -/
def timesB (x : T39) : List GDirective := if x.2.2.2.2.2.2.2.2.1 % 2 = 1 then [dirB x, dirB x] else [dirB x]
def loadB (x : T39) : ByteArray := if dR (dirB x) = true then ofL (textB (timesB x)) else ⟨#[120, 10]⟩
theorem all_times (x : T39) : (timesB x).all dR = dR (dirB x) := by unfold timesB; split <;> simp
theorem load_sp (k : Nat) {x : T39} (hx : X8 x) (hk : 10 ≤ k) : script_load k x = some (loadB x) := by
  have hd := dirB_64 hx
  have h8 : B8 x.2.2.2.2.2.2.2.2.1 := by
    obtain ⟨x0, x1, x2, x3, x4, x5, x6, x7, x8, x9⟩ := x
    obtain ⟨h0, h1, h2, h3, h4, h5, h6, h7, h8, h9⟩ := hx
    exact h8
  unfold script_load
  rw [Directive_sp k hx, and1 h8]
  have hr : slices_Repeat k ([dirB x], w64 (1 + w64 (x.2.2.2.2.2.2.2.2.1 % 2))) = some (timesB x) := by
    unfold slices_Repeat timesB
    by_cases h1 : x.2.2.2.2.2.2.2.2.1 % 2 = 1
    · rw [h1, if_pos rfl]; rfl
    · rw [show x.2.2.2.2.2.2.2.2.1 % 2 = 0 by omega, if_neg (by omega)]; rfl
  have hl : (timesB x).length ≤ 2 := by unfold timesB; split <;> simp
  have hD : ∀ d ∈ timesB x, D64 d := by
    intro d h
    unfold timesB at h
    split at h <;> simp at h <;> rw [h] <;> exact hd
  simp only [Option.bind_some, hr]
  show ((text_Print k (timesB x)).bind fun o_3 => bif o_3.2 then some o_3.1 else some (⟨#[120, 10]⟩ : ByteArray)) = some (loadB x)
  rw [text_Print_sp k (by omega) hD (by omega), printT_eq, all_times]
  unfold loadB
  cases dR (dirB x) <;> rfl
abbrev z13 : GDirective := d0
def mkA (o : Int) (t : ByteArray) (d : GDirective) (n : Int) (ids : List Int) (c z a b e f g : Int) : GAct :=
  (o, t, d.1, d.2.1, d.2.2.1, d.2.2.2.1, d.2.2.2.2.1, d.2.2.2.2.2.1, d.2.2.2.2.2.2.1, d.2.2.2.2.2.2.2.1, d.2.2.2.2.2.2.2.2.1, d.2.2.2.2.2.2.2.2.2.1, d.2.2.2.2.2.2.2.2.2.2.1, d.2.2.2.2.2.2.2.2.2.2.2.1, d.2.2.2.2.2.2.2.2.2.2.2.2, n, ids, c, z, a, b, e, f, g)
/-- An act of ten bytes. -/
def actB (x : T39) : GAct :=
  let o := 1 + x.1 % 7
  if o = 1 then mkA o (loadB x) d0 0 [] 0 0 0 0 0 0 0
  else if o = 2 then mkA o ⟨#[]⟩ (dirB x) 0 [] 0 0 0 0 0 0 0
  else if o = 3 then mkA o ⟨#[]⟩ d0 x.2.1 [] 0 0 0 0 0 0 0
  else if o = 4 ∨ o = 5 then mkA o ⟨#[]⟩ d0 0 (if x.2.2.1 % 2 = 1 then [1 + x.2.1 % 16, 1 + x.2.2.2.1 % 16] else [1 + x.2.1 % 16]) (x.2.2.2.2.1 % 4) x.2.2.2.2.2.1 0 0 0 0 0
  else if o = 6 then mkA o ⟨#[]⟩ d0 0 [] 0 0 (1 + x.2.1 % 4) (1 + x.2.2.1 % 4) x.2.2.2.1 (x.2.2.2.2.1 % 3) (4 * x.2.2.2.2.2.1)
  else mkA o ⟨#[]⟩ d0 (x.2.2.2.1 % 10) [] 0 0 (1 + x.2.1 % 4) (1 + x.2.2.1 % 4) 0 0 0
theorem act_sp (k : Nat) {x : T39} (hx : X8 x) (hk : 10 ≤ k) : script_act k x = some (actB x) := by
  have hl := load_sp k hx hk
  have hD := Directive_sp k hx
  obtain ⟨x0, x1, x2, x3, x4, x5, x6, x7, x8, x9⟩ := x
  obtain ⟨h0, h1, h2, h3, h4, h5, h6, h7, h8, h9⟩ := hx
  have h51 := h5.1
  have h52 := h5.2
  unfold script_act
  simp only [of_sp k h0 (m := 7) (by omega) (by omega), of_sp k h1 (m := 16) (by omega) (by omega), of_sp k h3 (m := 16) (by omega) (by omega), of_sp k h1 (m := 4) (by omega) (by omega), of_sp k h2 (m := 4) (by omega) (by omega), Option.bind_some, hl, hD, w8 h1, w8 h3, w8 h5, and1 h2, t8 h4, t8 h3]
  have e1 : w64 (x4 % 4) = x4 % 4 := w64' ⟨by omega, by omega⟩
  have e2 : w64 (x4 % 3) = x4 % 3 := w64' ⟨by omega, by omega⟩
  have e3 : w64 (x5 * 4) = 4 * x5 := by rw [w64' ⟨by omega, by omega⟩]; omega
  have e4 : w64 (x3 % 10) = x3 % 10 := w64' ⟨by omega, by omega⟩
  simp only [e1, e2, e3, e4]
  unfold actB
  have hc : x0 % 7 = 0 ∨ x0 % 7 = 1 ∨ x0 % 7 = 2 ∨ x0 % 7 = 3 ∨ x0 % 7 = 4 ∨ x0 % 7 = 5 ∨ x0 % 7 = 6 := by omega
  have hi : x2 % 2 = 0 ∨ x2 % 2 = 1 := by omega
  rcases hc with hc | hc | hc | hc | hc | hc | hc
  · simp [hc, mkA]
  · simp [hc, mkA]
  · simp [hc, mkA]
  · rcases hi with hi | hi <;> simp [hc, hi, mkA]
  · rcases hi with hi | hi <;> simp [hc, hi, mkA]
  · simp [hc, mkA]
  · simp [hc, mkA]
theorem ract_sp (k : Nat) {x : T39} (hx : X8 x) (hk : 50 ≤ k) : feluccaref25_act k x = some (actB x) := by
  have hD := rDirective_sp k hx
  have hP1 : feluccaref05_Print k [dirB x] = some (printT [dirB x]) := rTextPrint_sp k (by simp) (by simp; omega)
  have hP2 : feluccaref05_Print k ([dirB x] ++ [dirB x]) = some (printT ([dirB x] ++ [dirB x])) := rTextPrint_sp k (by simp) (by simp; omega)
  have q1 : printT [dirB x] = bif dR (dirB x) then (ofL (textB [dirB x]), true) else (ofL [], false) := by rw [printT_eq]; simp
  have q2 : printT ([dirB x] ++ [dirB x]) = bif dR (dirB x) then (ofL (textB ([dirB x] ++ [dirB x])), true) else (ofL [], false) := by rw [printT_eq]; simp
  have hlo : loadB x = if dR (dirB x) = true then ofL (textB (timesB x)) else ⟨#[120, 10]⟩ := rfl
  have hti : timesB x = if x.2.2.2.2.2.2.2.2.1 % 2 = 1 then [dirB x, dirB x] else [dirB x] := rfl
  generalize hdd : dirB x = dd at *
  generalize hll : loadB x = ll at *
  obtain ⟨x0, x1, x2, x3, x4, x5, x6, x7, x8, x9⟩ := x
  obtain ⟨h0, h1, h2, h3, h4, h5, h6, h7, h8, h9⟩ := hx
  have h51 := h5.1
  have h52 := h5.2
  unfold feluccaref25_act
  simp only [Option.bind_some, hD, w8 h0, w8 h1, w8 h2, w8 h3, w8 h4, w8 h5, t8 h0, t8 h1, t8 h2, t8 h3, t8 h4, t8 h8]
  have a1 : ∀ n : Int, w64 (1 + n % 4) = 1 + n % 4 := fun n => w64' ⟨by omega, by omega⟩
  have a2 : ∀ n : Int, w64 (1 + n % 16) = 1 + n % 16 := fun n => w64' ⟨by omega, by omega⟩
  have a3 : ∀ n : Int, w64 (1 + n % 7) = 1 + n % 7 := fun n => w64' ⟨by omega, by omega⟩
  have e3 : w64 (4 * x5) = 4 * x5 := w64' ⟨by omega, by omega⟩
  simp only [a1, a2, a3, e3, hP1, hP2, Option.bind_some]
  unfold actB
  simp only [hdd, hll]
  have hc : x0 % 7 = 0 ∨ x0 % 7 = 1 ∨ x0 % 7 = 2 ∨ x0 % 7 = 3 ∨ x0 % 7 = 4 ∨ x0 % 7 = 5 ∨ x0 % 7 = 6 := by omega
  have hi : x2 % 2 = 0 ∨ x2 % 2 = 1 := by omega
  rcases hc with hc | hc | hc | hc | hc | hc | hc
  · have h8' : x8 % 2 = 0 ∨ x8 % 2 = 1 := by omega
    rcases h8' with h8' | h8'
    · simp only [h8'] at hti
      rw [q1, hlo, hti]
      cases dR dd <;> simp [hc, h8', mkA]
    · simp only [h8'] at hti
      rw [q2, hlo, hti]
      cases dR dd <;> simp [hc, h8', mkA]
  · simp [hc, mkA]
  · simp [hc, mkA]
  · rcases hi with hi | hi <;> simp [hc, hi, mkA]
  · rcases hi with hi | hi <;> simp [hc, hi, mkA]
  · simp [hc, mkA]
  · simp [hc, mkA]
end Go.Proofs.YtaknikdbnfmlfaaDoor.Ex
