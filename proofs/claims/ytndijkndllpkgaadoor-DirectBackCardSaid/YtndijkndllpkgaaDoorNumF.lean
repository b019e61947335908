/- Numbers, their texts, and what texts say: what holds of num's and ref01's functions. (Out of XPureNum; for seats without the laws of layer 1.) -/
import Derived.Test.YtndijkndllpkgaaDoorWalkAC
namespace Go.Proofs.YtndijkndllpkgaaDoor.NumF
open Go.RowKit Go.Lib Go.Proofs.YtndijkndllpkgaaDoorW.PrintWords Go.Proofs.YtndijkndllpkgaaDoorW.PrintLast Go.Proofs.YtndijkndllpkgaaDoorW.PrintMore Go.Proofs.YtndijkndllpkgaaDoor.Pr Go.Proofs.YtndijkndllpkgaaDoor.Dig

abbrev In64 (x : Int) : Prop := -9223372036854775808 ≤ x ∧ x ≤ 9223372036854775807

theorem w64 {x : Int} (h0 : -9223372036854775808 ≤ x) (h1 : x ≤ 9223372036854775807) : wrap64 x = x := by unfold wrap64; omega

theorem text_some {n : Int} (h : In64 n) : num_Text.f n = some ⟨(itoa n).toArray⟩ := by
  unfold num_Text.f; rw [if_pos h.1, if_pos h.2]

theorem ba_size (l : List UInt8) : (⟨l.toArray⟩ : ByteArray).size = l.length := by simp [ByteArray.size]

theorem ba_data (l : List UInt8) : (⟨l.toArray⟩ : ByteArray).data.toList = l := by simp

theorem ba_toList (l : List UInt8) : (⟨l.toArray⟩ : ByteArray).toList = l := by rw [ByteArray.toList_eq]

theorem ba_append (l m : List UInt8) : (⟨l.toArray⟩ : ByteArray) ++ (⟨m.toArray⟩ : ByteArray) = ⟨(l ++ m).toArray⟩ := by
  apply ByteArray.ext
  simp [ByteArray.data_append]

theorem itoa_nn {n : Int} (h : 0 ≤ n) : itoa n = decDigits n.toNat := by unfold itoa; rw [if_neg (by omega)]

theorem itoa_ng {n : Int} (h : n < 0) : itoa n = 45 :: decDigits n.natAbs := by unfold itoa; rw [if_pos h]

theorem numparse_some (s : ByteArray) (high : Int) (hs : s.size ≤ 9223372036854775807) : num_Parse.f s high = some (parseI s.data.toList high) := by unfold num_Parse.f; rw [if_pos hs]

theorem parse_text {n high : Int} (hn : In64 n) : parseI (itoa n) high = if 0 ≤ n ∧ n ≤ high then (n, true) else (0, false) := by
  by_cases h : 0 ≤ n ∧ n ≤ high
  · rw [if_pos h, parse_of h.1 h.2 hn.2]
  · rw [if_neg h]
    exact parse_no fun m h0 h1 h2 e => h (by rw [itoa_inj e] at h0 h1; exact ⟨h0, h1⟩)

theorem text_len {n : Int} (h : In64 n) : 1 ≤ (itoa n).length ∧ (itoa n).length ≤ 20 := by
  by_cases h0 : n < 0
  · rw [itoa_ng h0, List.length_cons]; have := dec_len n.natAbs 18 (by omega); omega
  · rw [itoa_nn (by omega)]
    have := dec_len n.toNat 18 (by omega)
    have h1 : (decDigits n.toNat).length ≠ 0 := fun e => dec_ne n.toNat (List.length_eq_zero_iff.1 e)
    omega

theorem parse_never {l : List UInt8} {high : Int} (h : ∀ n : Int, 0 ≤ n → itoa n ≠ l) : (parseI l high).2 = false := by
  rw [parse_no fun n h0 _ _ => h n h0]

end Go.Proofs.YtndijkndllpkgaaDoor.NumF
