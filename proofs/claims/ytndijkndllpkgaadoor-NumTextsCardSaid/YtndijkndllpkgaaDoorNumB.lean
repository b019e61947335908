/- num.Parse and num.Text in the printer's form: what they answer, and that the calls do so. -/
import Derived.Test.YtndijkndllpkgaaDoorNumA
import Derived.Test.YtndijkndllpkgaaDoorShelf
import Derived.Test.YtndijkndllpkgaaDoorTab
namespace Go.Proofs.YtndijkndllpkgaaDoor.Pr
open Go.RowKit Go.Lib

theorem grown_below (w : World) (q : Nat) (os : Array Obj) : Below w.heap.size w (Sort.grow (w.drewN q) os) :=
  ⟨rfl, rfl, rfl, by simp [Sort.grow], fun i hi => by
    show ((w.drewN q).heap ++ os)[i]? = _
    rw [Array.getElem?_append_left (by show i < w.heap.size; omega)]
    rfl⟩

def num_Text.f (a0 : Int) : Option ByteArray := if -9223372036854775808 ≤ a0 then (if a0 ≤ 9223372036854775807 then some (⟨(itoa a0).toArray⟩ : ByteArray) else none) else none

theorem num_Text.calls (a0 : Int) (r : ByteArray) (w : World) (ht : TabP w) (h : num_Text.f a0 = some r) :
    Calls Tryd.prog 23 #[.int .i64 a0] w fun e w' => e = .returned (.string r) ∧ Below w.heap.size w w' := by
  unfold num_Text.f at h
  split at h <;> try contradiction
  rename_i h0
  split at h <;> try contradiction
  rename_i h1
  obtain rfl := Option.some.inj h
  go_enter Tryd.func23, Tryd.ntmps23
  go_wp2_with (go_at_call 35; refine (Tryd.strconv_Itoa a0 h0 h1 _ ht).mono ?_; rintro e w' ⟨rfl, k, os, rfl⟩)
  go_ret
  exact ⟨rfl, grown_below _ _ _⟩

def num_Parse.f (a0 : ByteArray) (a1 : Int) : Option (Int × Bool) := if a0.size ≤ 9223372036854775807 then some (Dig.parseI a0.data.toList a1) else none

theorem num_Parse.calls (a0 : ByteArray) (a1 : Int) (r1 : Int) (r2 : Bool) (w : World) (h : num_Parse.f a0 a1 = some (r1, r2)) :
    Calls Tryd.prog 17 #[.string a0, .int .i64 a1] w fun e w' => e = .returned (.tuple #[.int .i64 r1, .bool r2]) ∧ Below w.heap.size w w' := by
  unfold num_Parse.f at h
  split at h <;> try contradiction
  rename_i h0
  have h := Option.some.inj h
  have hc := Num.Parse_calls a0 a1 w h0
  rw [h] at hc
  exact hc
end Go.Proofs.YtndijkndllpkgaaDoor.Pr
