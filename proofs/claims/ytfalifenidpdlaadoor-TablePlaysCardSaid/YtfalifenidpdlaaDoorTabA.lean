/- The order of two keys, as the table asks for it. -/
import Derived.Test.YtfalifenidpdlaaDoorProg
import Derived.Test.YtfalifenidpdlaaDoorBase
import Derived.Test.YtfalifenidpdlaaDoorOrd
namespace Go.Proofs.YtfalifenidpdlaaDoor
open Go Go.RowKit

/-- What cmp.Compare of texts answers. -/
def cmpv (a b : ByteArray) : Int := if lt a b then -1 else if lt b a then 1 else 0

theorem isNaN_any (s : ByteArray) (w : World) : Calls Tryd.prog 37 #[.string s] w fun e w' => e = .returned (.bool false) ∧ w = w' := by
  go_enter Tryd.func37, Tryd.ntmps37
  go_wp2
  go_ret
  exact ⟨rfl, rfl⟩

theorem compare_any (x y : ByteArray) (w : World) : Calls Tryd.prog 30 #[.string x, .string y] w fun e w' => e = .returned (.int .i64 (cmpv x y)) ∧ w = w' := by
  have hgt : (Op.bytesLess x.toList y.toList || x.toList == y.toList) = !lt y x := by
    cases h : lt y x
    · cases h2 : lt x y
      · have := lt_total h2 h; subst this; simp
      · unfold lt at h2; simp [h2]
    · have h2 := lt_asymm h
      have h3 : x.toList ≠ y.toList := fun e => lt_ne h (ba_ext e).symm
      unfold lt at h2; simp [h2, h3]
  cases h1 : lt x y
  · have h1' : Op.bytesLess x.toList y.toList = false := h1
    rw [h1'] at hgt
    cases h2 : lt y x
    · rw [h2] at hgt
      have hfin : cmpv x y = 0 := by simp [cmpv, h1, h2]
      rw [hfin]; clear hfin h1 h2
      go_enter Tryd.func30, Tryd.ntmps30
      go_wp2_with (first | (go_at_call 37; refine (isNaN_any _ _).mono ?_; rintro e w' ⟨rfl, rfl⟩))
      go_ret
      exact ⟨rfl, rfl⟩
    · rw [h2] at hgt
      have hfin : cmpv x y = 1 := by simp [cmpv, h1, h2]
      rw [hfin]; clear hfin h1 h2
      go_enter Tryd.func30, Tryd.ntmps30
      go_wp2_with (first | (go_at_call 37; refine (isNaN_any _ _).mono ?_; rintro e w' ⟨rfl, rfl⟩))
      go_ret
      exact ⟨rfl, rfl⟩
  · have h1' : Op.bytesLess x.toList y.toList = true := h1
    have hfin : cmpv x y = -1 := by simp [cmpv, h1]
    rw [hfin]; clear hfin h1 hgt
    go_enter Tryd.func30, Tryd.ntmps30
    go_wp2_with (first | (go_at_call 37; refine (isNaN_any _ _).mono ?_; rintro e w' ⟨rfl, rfl⟩))
    go_ret
    exact ⟨rfl, rfl⟩

theorem cmp_any (k key : ByteArray) (v : Int) (w : World) : Calls Tryd.prog 29 #[.agg #[.string k, .int .i64 v], .string key] w fun e w' => e = .returned (.int .i64 (cmpv k key)) ∧ Upd Nix w w' := by
  go_enter Tryd.func29, Tryd.ntmps29
  go_wp2_with (first | (go_at_call 30; refine (compare_any _ _ _).mono ?_; rintro e w' ⟨rfl, rfl⟩))
  go_ret
  exact ⟨rfl, (Upd.refl _ _).alloc _⟩
end Go.Proofs.YtfalifenidpdlaaDoor
