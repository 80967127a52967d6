/- ScopeParses, walked: it answers true. -/
import Derived.Test.YtbffpliihmggoaaDoorScpG
import Derived.Test.YtbffpliihmggoaaDoorScpU
set_option linter.unusedVariables false
set_option linter.unusedSimpArgs false
namespace Go.Proofs.YtbffpliihmggoaaDoor.M
open Go Go.RowKit Go.Sort

theorem Laid.nix {w w' : World} (h : Laid w) (hu : Upd Nix w w') : Laid w' := h.upd hu (fun f => f)

set_option maxRecDepth 100000 in
set_option maxHeartbeats 1000000 in
theorem parses_walk (W : World) (hm : MaxCell W ∧ Laid W) (s : ByteArray) (hs0 : s.size ≤ maxLen) :
    Calls Tryd.prog 5 #[.string s] W fun e w' => e = .returned (.bool true) ∧ Upd Nix W w' := by
  obtain ⟨hm, hl⟩ := hm
  have Hal := Lib.hid (alive_any W hm)
  unfold maxLen at hs0
  by_cases hbig : 3000 < s.size
  · clear hm hl
    go_enter Tryd.func5, Tryd.ntmps5
    go_wp2_with (go_at_call 6; go_must (refine Hal.out.mono ?_; rintro e w1 ⟨rfl, h3⟩; have HU := Lib.hid h3; clear h3))
    go_ret
    exact ⟨rfl, HU.out⟩
  · have hs : s.size ≤ 3000 := by omega
    have HM := Lib.hid hm; have HL := Lib.hid hl
    clear hm hl hbig hs0
    cases hp : parseS s with
    | some l =>
      have Hp := Lib.hid hp; clear hp
      have hll : l.length ≤ 16 := by
        have h := Hp.out
        unfold parseS at h
        split at h
        · cases h; simp
        · split at h
          · rename_i h2; cases h; exact h2.2
          · cases h
      go_enter Tryd.func5, Tryd.ntmps5
      go_wp2_with (first
        | (go_at_call 6; go_must (refine Hal.out.mono ?_; rintro e w1 ⟨rfl, h3⟩; have HU := Lib.hid h3; clear h3))
        | (go_at_call 20; go_must (refine (parse_any s _ (HM.out.nix HU.out) (by omega)).mono ?_; rw [Hp.out]; rintro e w1 ⟨A1, c1, rfl, h1, h2, h3⟩; have HU := Lib.hid (HU.out.thenNix h3); have HP := Lib.hid h2; clear h1 h2 h3))
        | (go_at_call 22; go_must (refine (rparse_any s _ hs).mono ?_; rw [Hp.out]; rintro e w1 ⟨A2, c2, rfl, h2, h3⟩; simp only [Option.getD_some, Option.isSome_some] at h2 ⊢; have HU := Lib.hid (HU.out.thenNix h3); have HP := Lib.hid (HP.out.nix h3); have HQ := Lib.hid h2; clear h2 h3))
        | (go_at_call 12; go_must (refine (rsame_any A1 A2 l.length c1 l.length c2 l l _ HP.out HQ.out (by omega) (by omega)).mono ?_; rw [same_self]; rintro e w1 ⟨rfl, h3⟩; have HU := Lib.hid (HU.out.thenNix h3); clear h3))
        | (go_at_call 24; go_must (refine (name_any s _ (by omega)).mono ?_; rintro e w1 ⟨rfl, rfl⟩))
        | (go_at_call 25; go_must (refine (rname_any s _ (by omega)).mono ?_; rintro e w1 ⟨rfl, rfl⟩)))
      go_ret
      exact ⟨by simp, HU.out⟩
    | none =>
      have Hp := Lib.hid hp; clear hp
      go_enter Tryd.func5, Tryd.ntmps5
      go_wp2_with (first
        | (go_at_call 6; go_must (refine Hal.out.mono ?_; rintro e w1 ⟨rfl, h3⟩; have HU := Lib.hid h3; clear h3))
        | (go_at_call 20; go_must (refine (parse_any s _ (HM.out.nix HU.out) (by omega)).mono ?_; rw [Hp.out]; rintro e w1 ⟨rfl, h3⟩; have HU := Lib.hid (HU.out.thenNix h3); clear h3))
        | (go_at_call 22; go_must (refine (rparse_any s _ hs).mono ?_; rw [Hp.out]; rintro e w1 ⟨A2, c2, rfl, h2, h3⟩; simp only [Option.getD_none, Option.isSome_none, List.length_nil] at h2 ⊢; have HU := Lib.hid (HU.out.thenNix h3); have HQ := Lib.hid h2; clear h2 h3))
        | (go_at_call 23; go_must (refine (num_errno 70 _ (HL.out.nix HU.out)).mono ?_; rintro e w1 ⟨rfl, h3⟩; have HU := Lib.hid (HU.out.thenNix h3); have HQ := Lib.hid (HQ.out.nix h3); clear h3))
        | (go_at_call 12; go_must (refine (rsame_any none A2 0 0 0 c2 [] [] _ (SeqAt.nil _) HQ.out (by omega) (by omega)).mono ?_; rw [same_self]; rintro e w1 ⟨rfl, h3⟩; have HU := Lib.hid (HU.out.thenNix h3); clear h3))
        | (go_at_call 24; go_must (refine (name_any s _ (by omega)).mono ?_; rintro e w1 ⟨rfl, rfl⟩))
        | (go_at_call 25; go_must (refine (rname_any s _ (by omega)).mono ?_; rintro e w1 ⟨rfl, rfl⟩)))
      go_ret
      exact ⟨by simp, HU.out⟩
end Go.Proofs.YtbffpliihmggoaaDoor.M
