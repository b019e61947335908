/- Layer 4 over numbers and lists (printed by gen_puredir.py). -/
import Derived.Test.YtndijkndllpkgaaDoorPureDir
import Derived.Test.YtndijkndllpkgaaDoorPfeluccalaw04DirectShort
namespace Go.Proofs.YtndijkndllpkgaaDoor.PureDir
open Go.RowKit Go.Lib Go.Proofs.YtndijkndllpkgaaDoorW.PrintWords Go.Proofs.YtndijkndllpkgaaDoorW.PrintLast Go.Proofs.YtndijkndllpkgaaDoorW.PrintMore Go.Proofs.YtndijkndllpkgaaDoor.Pr Go.Proofs.YtndijkndllpkgaaDoor.Dig Go.Proofs.YtndijkndllpkgaaDoor.NumF Go.Proofs.YtndijkndllpkgaaDoor.Frm Go.Proofs.YtndijkndllpkgaaDoor.X
set_option linter.unusedVariables false
set_option linter.unusedSimpArgs false
theorem DirectShort (o q i f t s e r p u v x y : Int) (n : Int) (more : List ByteArray) (H : D64 [o, q, i, f, t, s, e, r, p, u, v, x, y]) (hs : ∀ a ∈ more, a.size ≤ 9223372036854775807) : feluccalaw04_DirectShort.f 1000 o q i f t s e r p u v x y n more = some true := by
  unfold feluccalaw04_DirectShort.f
  rw [small_true (by omega), words_f H (by omega)]
  cases hr : rightB o q i f t s e r p u v x y with
  | false => simp
  | true =>
    rw [if_pos rfl]
    simp only [Option.bind_some, Bool.not_true, cond_false]
    have hw := wordsB_len o q i f t s e r p u v x y
    have h6 := offs_le o q
    have hp := right_pairs' hr
    by_cases c1 : n < 0
    · rw [decide_eq_true c1, cond_true]
    rw [decide_eq_false c1, cond_false]
    by_cases c2 : ((wordsB o q i f t s e r p u v x y).length : Int) ≤ n
    · rw [decide_eq_true c2, cond_true]
    rw [decide_eq_false c2, cond_false]
    by_cases c3 : (20 : Int) < (more.length : Int)
    · rw [decide_eq_true c3, cond_true]
    rw [decide_eq_false c3, cond_false, decide_eq_true (by omega : (0 : Int) ≤ n), cond_true, decide_eq_true (by omega : n ≤ ((wordsB o q i f t s e r p u v x y).length : Int)), cond_true]
    have hz := words_size hr
    have q1 : parseB ((wordsB o q i f t s e r p u v x y).take n.toNat) = e2 := by
      by_cases hn : n.toNat ≤ 2
      · exact parseB_short (by rw [List.length_take]; omega)
      · obtain ⟨m, hm⟩ : ∃ m, n.toNat = m + 2 := ⟨n.toNat - 2, by omega⟩
        rw [hm, wordsB_eq, List.take_succ_cons, List.take_succ_cons, parseB_words hp, if_neg]
        rw [List.length_take, List.length_map, vals_len]
        omega
    have q2 : parseB ([] ++ wordsB o q i f t s e r p u v x y ++ more) = if more = [] then (o, q, i, f, t, s, e, r, p, u, v, x, y, 0) else e2 := by
      by_cases hm : more = []
      · rw [if_pos hm, hm, List.nil_append, List.append_nil, back1 hr]
      · have h0 : 0 < more.length := List.length_pos_iff.2 hm
        rw [if_neg hm, List.nil_append, wordsB_eq, List.cons_append, List.cons_append, parseB_words hp, if_neg]
        rw [List.length_append, List.length_map, vals_len]
        omega
    rw [parse_f (fun a ha => hz a (List.mem_of_mem_take ha)) (by omega), q1, decide_eq_true (by simp; omega), decide_eq_true (by simp; omega)]
    simp only [cond_true, Option.bind_some]
    rw [parse_f (fun a ha => by rw [List.nil_append] at ha; rcases List.mem_append.1 ha with ha | ha; exact hz a ha; exact hs a ha) (by omega), q2]
    unfold e2
    by_cases hm : more = []
    · subst hm; simp
    · have h0 : more.length ≠ 0 := fun h => hm (List.length_eq_zero_iff.1 h)
      simp [hm]

end Go.Proofs.YtndijkndllpkgaaDoor.PureDir
