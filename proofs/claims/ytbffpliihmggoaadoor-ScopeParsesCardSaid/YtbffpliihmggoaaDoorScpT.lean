/- The document's All, Both, Less, Within. -/
import Derived.Test.YtbffpliihmggoaaDoorScpS
set_option linter.unusedVariables false
set_option linter.unusedSimpArgs false
namespace Go.Proofs.YtbffpliihmggoaaDoor.M
open Go Go.RowKit Go.Sort

def AccRel (acc : List ByteArray) (w : World) (v : Value) (wr : World) : Prop :=
  ∃ A c, v = .slice A acc.length c ∧ acc.length ≤ c ∧ SeqAt wr A acc.length (acc.map .string) ∧ Upd Nix w wr
theorem AccRel.nil (w : World) : AccRel [] w (.slice none 0 0) w := ⟨none, 0, rfl, Nat.le_refl _, SeqAt.nil _, Upd.refl _ _⟩
theorem AccRel.intro {acc l : List ByteArray} {w wr : World} {A : Option Addr} {c : Nat} (h : l = acc) (hc : l.length ≤ c) (hs : SeqAt wr A l.length (l.map .string)) (hu : Upd Nix w wr) : AccRel acc w (.slice A l.length c) wr := by
  subst h; exact ⟨A, c, rfl, hc, hs, hu⟩

set_option maxRecDepth 100000 in
theorem rall_any (A A' : Option Addr) (n c n' c' : Nat) (a b : List ByteArray) (w : World) (ha : SeqAt w A n (a.map .string)) (hb : SeqAt w A' n' (b.map .string)) (hn : n ≤ 100000) (hn' : n' ≤ 100000) :
    Calls Tryd.prog 16 #[.slice A n c, .slice A' n' c'] w (RetSeq (allS a b) w) := by
  have hla : a.length = n := by simpa using ha.1
  have hlb : b.length = n' := by simpa using hb.1
  subst hla; subst hlb
  have Ha := Lib.hid ha; have Hb := Lib.hid hb
  clear ha hb
  go_enter Tryd.func16, Tryd.ntmps16
  go_wp2
  go_loopw [5, 6] (fun v i wr => ∃ k : Nat, k ≤ a.length ∧ i = .int .i64 k ∧ AccRel (setS (a.take k)) w v wr) (fun _ i _ => a.length - (intOf i).toNat)
  case atStart => exact ⟨0, by omega, rfl, AccRel.nil _⟩
  case round =>
    obtain ⟨k, hk, rfl, Av, cv, rfl, hcv, hsv, hu⟩ := hrel
    have Hsv := Lib.hid hsv; clear hsv
    have hlen := setS_length (a.take k)
    by_cases hlt : k < a.length
    · obtain ⟨ad, u, rfl, hu1, hcw⟩ := Ha.out.get hlt
      obtain ⟨s, hs, rfl⟩ : ∃ s, a[k]? = some s ∧ .string s = u := by simpa using hu1
      have hcu : wr.cell? (ad.add k) = some (.string s) := hu.cell hcw (by simp)
      have Hts := Lib.hid (take_snoc a k s hs)
      have Hu := Lib.hid hu
      have hl2 : (a.take k).length ≤ 100000 := by rw [List.length_take]; omega
      clear hs hu hu1 hcw
      generalize hO : setS (a.take k) = O at Hsv hlen hcv
      have HO := Lib.hid hO; clear hO
      go_wp2_with (go_at_call 29; go_must (refine (rput_any Av O.length cv O s _ Hsv.out hcv (by omega)).mono ?_; rintro e w1 ⟨A1, c1, rfl, h1, h2, h3⟩; have H2 := Lib.hid h2; have H3 := Lib.hid h3; clear h2 h3))
      go_roundw
      case rel => exact ⟨k + 1, hlt, by go_num, AccRel.intro (by rw [Hts.out, setS_snoc, HO.out]) h1 H2.out (Hu.out.thenNix H3.out)⟩
      case measure => simp [intOf]; omega
    · obtain rfl : k = a.length := by omega
      rw [List.take_length] at Hsv hlen hcv ⊢
      have Hu := Lib.hid hu; clear hu
      generalize hO : setS a = O at Hsv hlen hcv
      have HO := Lib.hid hO; clear hO
      obtain ⟨wo, rfl⟩ : ∃ wo : World, wo = wr := ⟨_, rfl⟩
      go_wp2
      go_loopw [5, 7] (fun v i wr => ∃ k : Nat, k ≤ b.length ∧ i = .int .i64 k ∧ AccRel (setS (a ++ b.take k)) w v wr) (fun _ i _ => b.length - (intOf i).toNat)
      case atStart => exact ⟨0, by omega, rfl, AccRel.intro (by simp [HO.out]) hcv Hsv.out Hu.out⟩
      case round =>
        obtain ⟨k, hk, rfl, Av, cv, rfl, hcv, hsv, hu⟩ := hrel
        have Hsv := Lib.hid hsv; clear hsv
        have hlen := setS_length (a ++ b.take k)
        by_cases hlt : k < b.length
        · obtain ⟨ad, u, rfl, hu1, hcw⟩ := Hb.out.get hlt
          obtain ⟨s, hs, rfl⟩ : ∃ s, b[k]? = some s ∧ .string s = u := by simpa using hu1
          have hcu : wr.cell? (ad.add k) = some (.string s) := hu.cell hcw (by simp)
          have Hts := Lib.hid (take_snoc b k s hs)
          have Hu := Lib.hid hu
          have hl2 : (a ++ b.take k).length ≤ 200000 := by rw [List.length_append, List.length_take]; omega
          clear hs hu hu1 hcw
          generalize hO : setS (a ++ b.take k) = O at Hsv hlen hcv
          have HO := Lib.hid hO; clear hO
          go_wp2_with (go_at_call 29; go_must (refine (rput_any Av O.length cv O s _ Hsv.out hcv (by omega)).mono ?_; rintro e w1 ⟨A1, c1, rfl, h1, h2, h3⟩; have H2 := Lib.hid h2; have H3 := Lib.hid h3; clear h2 h3))
          go_roundw
          case rel => exact ⟨k + 1, hlt, by go_num, AccRel.intro (by rw [Hts.out, ← List.append_assoc, setS_snoc, HO.out]) h1 H2.out (Hu.out.thenNix H3.out)⟩
          case measure => simp [intOf]; omega
        · obtain rfl : k = b.length := by omega
          rw [List.take_length] at Hsv hlen hcv ⊢
          have Hu := Lib.hid hu; clear hu
          go_wp2
          go_ret
          exact ⟨Av, cv, rfl, hcv, Hsv.out, Hu.out⟩

set_option maxRecDepth 100000 in
theorem rboth_any (A A' : Option Addr) (n c n' c' : Nat) (a b : List ByteArray) (w : World) (ha : SeqAt w A n (a.map .string)) (hb : SeqAt w A' n' (b.map .string)) (hn : n ≤ 100000) (hn' : n' ≤ 100000) :
    Calls Tryd.prog 14 #[.slice A n c, .slice A' n' c'] w (RetSeq (bothS a b) w) := by
  have hla : a.length = n := by simpa using ha.1
  have hlb : b.length = n' := by simpa using hb.1
  subst hla; subst hlb
  have Ha := Lib.hid ha; have Hb := Lib.hid hb
  clear ha hb
  go_enter Tryd.func14, Tryd.ntmps14
  go_wp2
  go_loopw [5, 6] (fun v i wr => ∃ k : Nat, k ≤ a.length ∧ i = .int .i64 k ∧ AccRel (setS ((a.take k).filter (hasS b))) w v wr) (fun _ i _ => a.length - (intOf i).toNat)
  case atStart => exact ⟨0, by omega, rfl, AccRel.nil _⟩
  case round =>
    obtain ⟨k, hk, rfl, Av, cv, rfl, hcv, hsv, hu⟩ := hrel
    have Hsv := Lib.hid hsv; clear hsv
    have hlen := setS_length ((a.take k).filter (hasS b))
    have hl2 : ((a.take k).filter (hasS b)).length ≤ 100000 := by have := List.length_filter_le (hasS b) (a.take k); rw [List.length_take] at this; omega
    by_cases hlt : k < a.length
    · obtain ⟨ad, u, rfl, hu1, hcw⟩ := Ha.out.get hlt
      obtain ⟨s, hs, rfl⟩ : ∃ s, a[k]? = some s ∧ .string s = u := by simpa using hu1
      have hcu : wr.cell? (ad.add k) = some (.string s) := hu.cell hcw (by simp)
      have Hts := Lib.hid (take_snoc a k s hs)
      have Hu := Lib.hid hu
      have Hh := Lib.hid (rhas_any A' b.length c' b s wr (Hb.out.nix hu) (by omega))
      clear hs hu hu1 hcw
      cases hb : hasS b s
      · have Hbs := Lib.hid hb; clear hb
        generalize hO : setS ((a.take k).filter (hasS b)) = O at Hsv hlen hcv
        have HO := Lib.hid hO; clear hO
        go_wp2_with (go_at_call 9; go_must (refine Hh.out.mono ?_; rw [Hbs.out]; rintro e w1 ⟨rfl, rfl⟩))
        go_roundw
        case rel => exact ⟨k + 1, hlt, by go_num, AccRel.intro (by rw [Hts.out, List.filter_append]; simp [Hbs.out, HO.out]) hcv Hsv.out Hu.out⟩
        case measure => simp [intOf]; omega
      · have Hbs := Lib.hid hb; clear hb
        generalize hO : setS ((a.take k).filter (hasS b)) = O at Hsv hlen hcv
        have HO := Lib.hid hO; clear hO
        go_wp2_with (first
          | (go_at_call 9; go_must (refine Hh.out.mono ?_; rw [Hbs.out]; rintro e w1 ⟨rfl, rfl⟩))
          | (go_at_call 29; go_must (refine (rput_any Av O.length cv O s _ Hsv.out hcv (by omega)).mono ?_; rintro e w1 ⟨A1, c1, rfl, h1, h2, h3⟩; have H2 := Lib.hid h2; have H3 := Lib.hid h3; clear h2 h3)))
        go_roundw
        case rel => exact ⟨k + 1, hlt, by go_num, AccRel.intro (by rw [Hts.out, List.filter_append]; simp only [List.filter_cons, Hbs.out, if_true, List.filter_nil]; rw [setS_snoc, HO.out]) h1 H2.out (Hu.out.thenNix H3.out)⟩
        case measure => simp [intOf]; omega
    · obtain rfl : k = a.length := by omega
      rw [List.take_length] at Hsv hlen hcv ⊢
      have Hu := Lib.hid hu; clear hu
      go_wp2_with fail
      go_ret
      exact ⟨Av, cv, rfl, hcv, Hsv.out, Hu.out⟩

set_option maxRecDepth 100000 in
theorem rless_any (A A' : Option Addr) (n c n' c' : Nat) (a b : List ByteArray) (w : World) (ha : SeqAt w A n (a.map .string)) (hb : SeqAt w A' n' (b.map .string)) (hn : n ≤ 100000) (hn' : n' ≤ 100000) :
    Calls Tryd.prog 18 #[.slice A n c, .slice A' n' c'] w (RetSeq (lessS a b) w) := by
  have hla : a.length = n := by simpa using ha.1
  have hlb : b.length = n' := by simpa using hb.1
  subst hla; subst hlb
  have Ha := Lib.hid ha; have Hb := Lib.hid hb
  clear ha hb
  go_enter Tryd.func18, Tryd.ntmps18
  go_wp2
  go_loopw [5, 6] (fun v i wr => ∃ k : Nat, k ≤ a.length ∧ i = .int .i64 k ∧ AccRel (setS ((a.take k).filter fun x => !hasS b x)) w v wr) (fun _ i _ => a.length - (intOf i).toNat)
  case atStart => exact ⟨0, by omega, rfl, AccRel.nil _⟩
  case round =>
    obtain ⟨k, hk, rfl, Av, cv, rfl, hcv, hsv, hu⟩ := hrel
    have Hsv := Lib.hid hsv; clear hsv
    have hlen := setS_length ((a.take k).filter fun x => !hasS b x)
    have hl2 : ((a.take k).filter fun x => !hasS b x).length ≤ 100000 := by have := List.length_filter_le (fun x => !hasS b x) (a.take k); rw [List.length_take] at this; omega
    by_cases hlt : k < a.length
    · obtain ⟨ad, u, rfl, hu1, hcw⟩ := Ha.out.get hlt
      obtain ⟨s, hs, rfl⟩ : ∃ s, a[k]? = some s ∧ .string s = u := by simpa using hu1
      have hcu : wr.cell? (ad.add k) = some (.string s) := hu.cell hcw (by simp)
      have Hts := Lib.hid (take_snoc a k s hs)
      have Hu := Lib.hid hu
      have Hh := Lib.hid (rhas_any A' b.length c' b s wr (Hb.out.nix hu) (by omega))
      clear hs hu hu1 hcw
      cases hb : hasS b s
      · have Hbs := Lib.hid hb; clear hb
        generalize hO : setS ((a.take k).filter fun x => !hasS b x) = O at Hsv hlen hcv
        have HO := Lib.hid hO; clear hO
        go_wp2_with (first
          | (go_at_call 9; go_must (refine Hh.out.mono ?_; rw [Hbs.out]; rintro e w1 ⟨rfl, rfl⟩))
          | (go_at_call 29; go_must (refine (rput_any Av O.length cv O s _ Hsv.out hcv (by omega)).mono ?_; rintro e w1 ⟨A1, c1, rfl, h1, h2, h3⟩; have H2 := Lib.hid h2; have H3 := Lib.hid h3; clear h2 h3)))
        go_roundw
        case rel => exact ⟨k + 1, hlt, by go_num, AccRel.intro (by rw [Hts.out, List.filter_append]; simp only [List.filter_cons, Hbs.out, Bool.not_false, if_true, List.filter_nil]; rw [setS_snoc, HO.out]) h1 H2.out (Hu.out.thenNix H3.out)⟩
        case measure => simp [intOf]; omega
      · have Hbs := Lib.hid hb; clear hb
        generalize hO : setS ((a.take k).filter fun x => !hasS b x) = O at Hsv hlen hcv
        have HO := Lib.hid hO; clear hO
        go_wp2_with (go_at_call 9; go_must (refine Hh.out.mono ?_; rw [Hbs.out]; rintro e w1 ⟨rfl, rfl⟩))
        go_roundw
        case rel => exact ⟨k + 1, hlt, by go_num, AccRel.intro (by rw [Hts.out, List.filter_append]; simp [Hbs.out, HO.out]) hcv Hsv.out Hu.out⟩
        case measure => simp [intOf]; omega
    · obtain rfl : k = a.length := by omega
      rw [List.take_length] at Hsv hlen hcv ⊢
      have Hu := Lib.hid hu; clear hu
      go_wp2_with fail
      go_ret
      exact ⟨Av, cv, rfl, hcv, Hsv.out, Hu.out⟩

theorem len_zero (l : List ByteArray) : ((l.length : Int) == 0) = l.isEmpty := by
  cases l with
  | nil => rfl
  | cons x l => rw [beq_eq_false_iff_ne.2 (by simp only [List.length_cons]; omega)]; rfl
theorem rwithin_any (A A' : Option Addr) (n c n' c' : Nat) (a b : List ByteArray) (w : World) (ha : SeqAt w A n (a.map .string)) (hb : SeqAt w A' n' (b.map .string)) (hn : n ≤ 100000) (hn' : n' ≤ 100000) :
    Calls Tryd.prog 11 #[.slice A n c, .slice A' n' c'] w fun e w' => e = .returned (.bool (lessS a b).isEmpty) ∧ Upd Nix w w' := by
  have Hc := Lib.hid (rless_any A A' n c n' c' a b w ha hb hn hn')
  have Hq := Lib.hid (len_zero (lessS a b))
  clear ha hb
  go_enter Tryd.func11, Tryd.ntmps11
  go_wp2_with (go_at_call 18; go_must (refine Hc.out.mono ?_; rintro e w' ⟨A1, c1, rfl, h1, h2, h3⟩))
  go_ret
  exact ⟨by rw [← Hq.out]; rfl, h3⟩
end Go.Proofs.YtbffpliihmggoaaDoor.M
