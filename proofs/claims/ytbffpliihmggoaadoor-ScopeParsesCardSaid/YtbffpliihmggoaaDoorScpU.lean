/- ScopeSets, walked: it answers true. -/
import Derived.Test.YtbffpliihmggoaaDoorScpT
set_option linter.unusedVariables false
set_option linter.unusedSimpArgs false
namespace Go.Proofs.YtbffpliihmggoaaDoor.M
open Go Go.RowKit Go.Sort

theorem same_self (l : List ByteArray) : sameS l l = true := by simp [sameS]
theorem both_len (a b : List ByteArray) : (bothS a b).length ≤ a.length := Nat.le_trans (setS_length _) (List.length_filter_le _ _)
theorem less_len (a b : List ByteArray) : (lessS a b).length ≤ a.length := Nat.le_trans (setS_length _) (List.length_filter_le _ _)
theorem all_len (a b : List ByteArray) : (allS a b).length ≤ a.length + b.length := by have := setS_length (a ++ b); rwa [List.length_append] at this
theorem great_no {l : List ByteArray} (h : greatS l = false) : l.length ≤ 100 ∧ ∀ s ∈ l, s.size ≤ 1000 := by
  unfold greatS at h
  simp only [Bool.or_eq_false_iff, decide_eq_false_iff_not, List.any_eq_false, decide_eq_true_eq] at h
  exact ⟨by omega, fun s hs => by have := h.2 s hs; omega⟩

set_option maxRecDepth 100000 in
set_option maxHeartbeats 1000000 in
theorem sets_walk (W : World) (hm : MaxCell W) (A : Option Addr) (n c : Nat) (a : List ByteArray) (A' : Option Addr) (n' c' : Nat) (b : List ByteArray) (x : ByteArray) (ha : SeqAt W A n (a.map .string)) (hb : SeqAt W A' n' (b.map .string)) :
    Calls Tryd.prog 3 #[.slice A n c, .slice A' n' c', .string x] W fun e w' => e = .returned (.bool true) ∧ Upd Nix W w' := by
  have hla : a.length = n := by simpa using ha.1
  have hlb : b.length = n' := by simpa using hb.1
  have Hal := Lib.hid (alive_any W hm)
  have Ha := Lib.hid ha; have Hb := Lib.hid hb
  clear ha hb hm
  cases hga : greatS a
  · obtain ⟨hga1, hga2⟩ := great_no hga
    have Hga := Lib.hid hga
    clear hga hga2
    cases hgb : greatS b
    · obtain ⟨hgb1, hgb2⟩ := great_no hgb
      have Hgb := Lib.hid hgb
      clear hgb hgb2
      have hn : n ≤ 100 := by omega
      have hn' : n' ≤ 100 := by omega
      have l1 := Nat.le_trans (both_len a b) hga1
      have l2 := Nat.le_trans (less_len a b) hga1
      have l3 : (allS a b).length ≤ 200 := by have := all_len a b; omega
      clear hla hlb hga1 hgb1
      go_enter Tryd.func3, Tryd.ntmps3
      go_wp2_with (first
        | (go_at_call 6; go_must (refine Hal.out.mono ?_; rintro e w1 ⟨rfl, h3⟩; have HU := Lib.hid h3; clear h3))
        | (go_at_call 7; first
            | ((with_reducible refine (rgreat_any A n c a _ (Ha.out.nix HU.out)).mono ?_); rw [Hga.out]; rintro e w1 ⟨rfl, rfl⟩)
            | (go_must (refine (rgreat_any A' n' c' b _ (Hb.out.nix HU.out)).mono ?_; rw [Hgb.out]; rintro e w1 ⟨rfl, rfl⟩)))
        | (go_at_call 8; go_must (refine (has_any A n c a x _ (Ha.out.nix HU.out) (by omega)).mono ?_; rintro e w1 ⟨rfl, rfl⟩))
        | (go_at_call 9; go_must (refine (rhas_any A n c a x _ (Ha.out.nix HU.out) (by omega)).mono ?_; rintro e w1 ⟨rfl, rfl⟩))
        | (go_at_call 10; go_must (refine (within_any A A' n c n' c' a b _ (Ha.out.nix HU.out) (Hb.out.nix HU.out) (by omega) (by omega)).mono ?_; rintro e w1 ⟨rfl, h3⟩; have HU := Lib.hid (HU.out.thenNix h3); clear h3))
        | (go_at_call 11; go_must (refine (rwithin_any A A' n c n' c' a b _ (Ha.out.nix HU.out) (Hb.out.nix HU.out) (by omega) (by omega)).mono ?_; rintro e w1 ⟨rfl, h3⟩; have HU := Lib.hid (HU.out.thenNix h3); clear h3))
        | (go_at_call 13; go_must (refine (both_any A A' n c n' c' a b _ (Ha.out.nix HU.out) (Hb.out.nix HU.out) (by omega) (by omega)).mono ?_; rintro e w1 ⟨A1, c1, rfl, h1, h2, h3⟩; have HU := Lib.hid (HU.out.thenNix h3); have HP := Lib.hid h2; clear h2 h3))
        | (go_at_call 14; go_must (refine (rboth_any A A' n c n' c' a b _ (Ha.out.nix HU.out) (Hb.out.nix HU.out) (by omega) (by omega)).mono ?_; rintro e w1 ⟨A2, c2, rfl, h1, h2, h3⟩; have HU := Lib.hid (HU.out.thenNix h3); have HP := Lib.hid (HP.out.nix h3); have HQ := Lib.hid h2; clear h2 h3))
        | (go_at_call 15; go_must (refine (all_any A A' n c n' c' a b _ (Ha.out.nix HU.out) (Hb.out.nix HU.out) (by omega) (by omega)).mono ?_; rintro e w1 ⟨A1, c1, rfl, h1, h2, h3⟩; have HU := Lib.hid (HU.out.thenNix h3); have HP := Lib.hid h2; clear h2 h3))
        | (go_at_call 16; go_must (refine (rall_any A A' n c n' c' a b _ (Ha.out.nix HU.out) (Hb.out.nix HU.out) (by omega) (by omega)).mono ?_; rintro e w1 ⟨A2, c2, rfl, h1, h2, h3⟩; have HU := Lib.hid (HU.out.thenNix h3); have HP := Lib.hid (HP.out.nix h3); have HQ := Lib.hid h2; clear h2 h3))
        | (go_at_call 17; go_must (refine (less_any A A' n c n' c' a b _ (Ha.out.nix HU.out) (Hb.out.nix HU.out) (by omega) (by omega)).mono ?_; rintro e w1 ⟨A1, c1, rfl, h1, h2, h3⟩; have HU := Lib.hid (HU.out.thenNix h3); have HP := Lib.hid h2; clear h2 h3))
        | (go_at_call 18; go_must (refine (rless_any A A' n c n' c' a b _ (Ha.out.nix HU.out) (Hb.out.nix HU.out) (by omega) (by omega)).mono ?_; rintro e w1 ⟨A2, c2, rfl, h1, h2, h3⟩; have HU := Lib.hid (HU.out.thenNix h3); have HP := Lib.hid (HP.out.nix h3); have HQ := Lib.hid h2; clear h2 h3))
        | (go_at_call 12; go_must (refine (rsame_any _ _ _ _ _ _ _ _ _ HP.out HQ.out (by omega) (by omega)).mono ?_; rw [same_self]; rintro e w1 ⟨rfl, h3⟩; have HU := Lib.hid (HU.out.thenNix h3); clear h3)))
      go_ret
      exact ⟨rfl, HU.out⟩
    · have Hgb := Lib.hid hgb
      clear hgb
      go_enter Tryd.func3, Tryd.ntmps3
      go_wp2_with (first
        | (go_at_call 6; go_must (refine Hal.out.mono ?_; rintro e w1 ⟨rfl, h3⟩; have HU := Lib.hid h3; clear h3))
        | (go_at_call 7; first
            | ((with_reducible refine (rgreat_any A n c a _ (Ha.out.nix HU.out)).mono ?_); rw [Hga.out]; rintro e w1 ⟨rfl, rfl⟩)
            | (go_must (refine (rgreat_any A' n' c' b _ (Hb.out.nix HU.out)).mono ?_; rw [Hgb.out]; rintro e w1 ⟨rfl, rfl⟩))))
      go_ret
      exact ⟨rfl, HU.out⟩
  · have Hga := Lib.hid hga
    clear hga
    go_enter Tryd.func3, Tryd.ntmps3
    go_wp2_with (first
      | (go_at_call 6; go_must (refine Hal.out.mono ?_; rintro e w1 ⟨rfl, h3⟩; have HU := Lib.hid h3; clear h3))
      | (go_at_call 7; go_must (refine (rgreat_any A n c a _ (Ha.out.nix HU.out)).mono ?_; rw [Hga.out]; rintro e w1 ⟨rfl, rfl⟩)))
    go_ret
    exact ⟨rfl, HU.out⟩
end Go.Proofs.YtbffpliihmggoaaDoor.M
