/- scope.Name: which texts are names. -/
import Derived.Test.YtbffpliihmggoaaDoorAs
import Derived.Test.YtbffpliihmggoaaDoorBase
set_option linter.unusedVariables false
set_option linter.unusedSimpArgs false
namespace Go.Proofs.YtbffpliihmggoaaDoor.M
open Go Go.RowKit

def nameByte (c : UInt8) : Bool := (97 ≤ c.toNat ∧ c.toNat ≤ 122) ∨ (48 ≤ c.toNat ∧ c.toNat ≤ 57) ∨ c.toNat = 46 ∨ c.toNat = 58 ∨ c.toNat = 95 ∨ c.toNat = 45
def isName (s : ByteArray) : Bool := s.data.toList.all nameByte && decide (0 < s.size) && decide (s.size ≤ 32)

set_option maxRecDepth 100000 in
theorem name_any (s : ByteArray) (w : World) (hs : s.size ≤ 9223372036854775807) : Calls Tryd.prog 24 #[.string s] w fun e w' => e = .returned (.bool (isName s)) ∧ w' = w := by
  go_enter Tryd.func24, Tryd.ntmps24
  go_wp2
  go_loop [7] (fun i => ∃ k : Nat, k ≤ s.size ∧ i = .int .i64 k ∧ (s.data.toList.take k).all nameByte = true) (fun i => s.size - (intOf i).toNat)
  case atStart => exact ⟨0, by omega, rfl, rfl⟩
  case round =>
    obtain ⟨k, hk, rfl, h1⟩ := hrel
    have H1 := Lib.hid h1; clear h1
    by_cases hlt : k < s.size
    · have hc : s.data.toList[k]? = some s[k] := List.getElem?_eq_getElem (show k < s.data.toList.length from hlt)
      have hsn : s.data.toList.take (k + 1) = s.data.toList.take k ++ [s[k]] := by rw [List.take_add_one, hc]; rfl
      have hgood : nameByte s[k] = true → (s.data.toList.take (k + 1)).all nameByte = true := fun h => by rw [hsn, List.all_append, H1.out]; simp [h]
      have hbad : nameByte s[k] = false → isName s = false := fun h => by
        unfold isName
        rw [show s.data.toList.all nameByte = false from List.all_eq_false.2 ⟨s[k], List.mem_of_getElem? hc, by simp [h]⟩]; rfl
      have Hgood := Lib.hid hgood; have Hbad := Lib.hid hbad
      clear hgood hbad hsn hc
      go_wp2
      all_goals first
        | (refine ⟨⟨k + 1, hlt, rfl, Hgood.out ?_⟩, ?_⟩
           · simp only [nameByte, decide_eq_true_eq]; simp_all; omega
           · simp only [intOf]; omega)
        | (have hb : isName s = false := Hbad.out (by simp only [nameByte, decide_eq_false_iff_not]; simp_all; omega)
           go_ret
           rw [hb]; exact ⟨rfl, rfl⟩)
    · obtain rfl : k = s.size := by omega
      have hall : s.data.toList.all nameByte = true := by
        have := H1.out
        rwa [show s.data.toList.take s.size = s.data.toList from List.take_of_length_le (show s.data.toList.length ≤ s.size from Nat.le_refl _)] at this
      have hn : isName s = (decide (0 < s.size) && decide (s.size ≤ 32)) := by unfold isName; rw [hall]; rfl
      have Hn := Lib.hid hn; clear hn hall
      by_cases h0 : s.size = 0
      · have hq : s.toList = [] := by rw [ByteArray.toList_eq]; exact List.eq_nil_of_length_eq_zero h0
        have hq2 : s.toList.isEmpty = true := by rw [hq]; rfl
        go_wp2
        go_ret
        rw [Hn.out, h0]; exact ⟨rfl, rfl⟩
      · have hq2 : s.toList.isEmpty = false := by
          rw [ByteArray.toList_eq]
          cases h : s.data.toList with
          | nil => exact absurd (show s.size = 0 from congrArg List.length h) h0
          | cons a l => rfl
        have hp : decide (0 < s.size) = true := by simp; omega
        go_wp2
        go_ret
        rw [Hn.out, hp]; simp; omega
end Go.Proofs.YtbffpliihmggoaaDoor.M
