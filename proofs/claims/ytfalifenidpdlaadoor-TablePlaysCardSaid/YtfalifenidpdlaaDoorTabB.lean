/- The search for a key among rising rows. -/
import Derived.Test.YtfalifenidpdlaaDoorTabA
namespace Go.Proofs.YtfalifenidpdlaaDoor
open Go Go.RowKit

/-- The cells of rows. -/
def flat (l : List (ByteArray × Int)) : List Value := l.flatMap fun e => [.string e.1, .int .i64 e.2]
theorem flat_length (l : List (ByteArray × Int)) : (flat l).length = l.length * 2 := by
  induction l with
  | nil => rfl
  | cons x l ih => simp only [flat, List.flatMap_cons, List.length_append, List.length_cons, List.length_nil] at *; omega
theorem flat_key (l : List (ByteArray × Int)) (i : Nat) (e : ByteArray × Int) (h : l[i]? = some e) : (flat l)[i * 2]? = some (.string e.1) ∧ (flat l)[i * 2 + 1]? = some (.int .i64 e.2) := by
  induction l generalizing i with
  | nil => simp at h
  | cons x l ih =>
    cases i with
    | zero => simp at h; subst h; simp [flat]
    | succ i =>
      have := ih i (by simpa using h)
      simp only [flat, List.flatMap_cons] at this ⊢
      rw [show (i + 1) * 2 = i * 2 + 2 from by omega, show i * 2 + 2 + 1 = i * 2 + 1 + 2 from by omega]
      simpa using this

/-- A slice that reads as rows. -/
def RowsAt (w : World) (A : Option Addr) (n : Nat) (l : List (ByteArray × Int)) : Prop :=
  l.length = n ∧ (0 < n → ∃ g o, A = some ⟨g, o, none⟩ ∧ g < w.heap.size ∧ ∀ j u, (flat l)[j]? = some u → w.cell? ⟨g, o + j, none⟩ = some u)
theorem RowsAt.upd {w w' : World} {A : Option Addr} {n : Nat} {l : List (ByteArray × Int)} {F : Nat → Prop} (h : RowsAt w A n l) (hu : Upd F w w') (hf : ∀ ad, A = some ad → ¬ F ad.block) : RowsAt w' A n l :=
  ⟨h.1, fun hn => by
    obtain ⟨g, o, rfl, hg, hc⟩ := h.2 hn
    exact ⟨g, o, rfl, Nat.lt_of_lt_of_le hg hu.size, fun j u hj => hu.cell (hc j u hj) (hf ⟨g, o, none⟩ rfl)⟩⟩
theorem RowsAt.get {w : World} {A : Option Addr} {n : Nat} {l : List (ByteArray × Int)} (h : RowsAt w A n l) {i : Nat} (hi : i < n) :
    ∃ ad e, A = some ad ∧ l[i]? = some e ∧ w.cell? (ad.add (i * 2)) = some (.string e.1) ∧ w.cell? ⟨(ad.add (i * 2)).block, (ad.add (i * 2)).off + 1, none⟩ = some (.int .i64 e.2) := by
  obtain ⟨g, o, rfl, hg, hc⟩ := h.2 (by omega)
  have hl : i < l.length := by have := h.1; omega
  have hk := flat_key l i _ (List.getElem?_eq_getElem hl)
  refine ⟨_, _, rfl, List.getElem?_eq_getElem hl, ?_, ?_⟩
  · rw [add_flat]; exact hc _ _ hk.1
  · rw [add_flat]; have := hc _ _ hk.2; simpa [Nat.add_assoc] using this


def SearchRel (key : ByteArray) (n : Nat) (l : List (ByteArray × Int)) (w : World) (i j : Value) (wr : World) : Prop :=
  ∃ a b : Nat, i = .int .i64 a ∧ j = .int .i64 b ∧ a ≤ b ∧ b ≤ n ∧ (∀ k e, k < a → l[k]? = some e → lt e.1 key = true) ∧ (∀ k e, b ≤ k → l[k]? = some e → lt e.1 key = false) ∧ Upd Nix w wr
theorem cmpv_neg {a b : ByteArray} (h : lt a b = true) : cmpv a b = -1 := by simp [cmpv, h]
theorem cmpv_pos {a b : ByteArray} (h : lt a b = false) : decide (cmpv a b < 0) = false := by
  unfold cmpv; rw [h]; simp only [Bool.false_eq_true, if_false]; split <;> rfl
theorem cmpv_zero (a b : ByteArray) : (cmpv a b == 0) = decide (a = b) := by
  unfold cmpv
  cases h : lt a b
  · cases h' : lt b a
    · have := lt_total h h'; subst this; simp
    · have := (lt_ne h').symm; simp [this]
  · have := lt_ne h; simp [this]

set_option maxRecDepth 100000 in
theorem search_any (key : ByteArray) (A : Option Addr) (n c : Nat) (l : List (ByteArray × Int)) (w : World) (hl : RowsAt w A n l) (hr : Rising l) (hn : n ≤ 4611686018427387903) :
    Calls Tryd.prog 28 #[.slice A n c, .string key, .func (.func 29) #[] #[]] w fun e w' => e = .returned (.tuple #[.int .i64 (pos l key), .bool (look l key).isSome]) ∧ Upd Nix w w' := by
  have Hlen := Lib.hid hl.1
  go_enter Tryd.func28, Tryd.ntmps28
  go_wp2
  go_loopw [9, 10] (fun i j wr => SearchRel key n l w i j wr) (fun i j _ => (intOf j - intOf i).toNat)
  case atStart =>
    have hlen := Hlen.out
    exact ⟨0, n, rfl, rfl, by omega, by omega, fun k e h => by omega, fun k e h h2 => (by rw [List.getElem?_eq_none (by omega)] at h2; cases h2), Upd.refl _ _⟩
  case round =>
    obtain ⟨a, b, rfl, rfl, hab, hbn, h1, h2, hu⟩ := hrel
    have H1 := Lib.hid h1; clear h1
    have H2 := Lib.hid h2; clear h2
    by_cases hlt : a < b
    · obtain ⟨ad, e, rfl, hle, hc0, hc1⟩ := (hl.upd hu (by simp)).get (i := (a + b) / 2) (by omega)
      have Hle := Lib.hid hle; clear hle
      cases hlk : lt e.1 key
      · have Hlk := Lib.hid hlk; clear hlk
        have hcm := cmpv_pos Hlk.out
        go_wp2_with ((go_at_call 29; refine (cmp_any _ _ _ _).mono ?_; rintro e' w' ⟨rfl, hu'⟩))
        go_roundw
        case rel =>
          refine ⟨a, (a + b) / 2, rfl, by go_num, by omega, by omega, H1.out, fun k x hk hx => ?_, hu.thenNix hu'⟩
          by_cases e0 : k = (a + b) / 2
          · subst e0; rw [Hle.out] at hx; cases hx; exact Hlk.out
          · have h3 := hr.get (i := (a + b) / 2) (j := k) (by omega) Hle.out hx
            cases h4 : lt x.1 key
            · rfl
            · rw [lt_trans h3 h4] at Hlk; exact absurd Hlk.out (by simp)
        case measure => simp [intOf]; omega
      · have Hlk := Lib.hid hlk; clear hlk
        have hcm : decide (cmpv e.1 key < 0) = true := by rw [cmpv_neg Hlk.out]; rfl
        go_wp2_with ((go_at_call 29; refine (cmp_any _ _ _ _).mono ?_; rintro e' w' ⟨rfl, hu'⟩))
        go_roundw
        case rel =>
          refine ⟨(a + b) / 2 + 1, b, by go_num, rfl, by omega, by omega, fun k x hk hx => ?_, H2.out, hu.thenNix hu'⟩
          by_cases e0 : k = (a + b) / 2
          · subst e0; rw [Hle.out] at hx; cases hx; exact Hlk.out
          · have h3 := hr.get (i := k) (j := (a + b) / 2) (by omega) hx Hle.out
            exact lt_trans h3 Hlk.out
        case measure => simp [intOf]; omega
    · obtain rfl : a = b := by omega
      have hp : pos l key = a := pos_of l key a (by have := Hlen.out; omega) H1.out (fun x hx => H2.out a x (by omega) hx)
      have hlook := look_pos hr key
      rw [hp] at hlook
      by_cases han : a < n
      · obtain ⟨ad, e, rfl, hle, hc0, hc1⟩ := (hl.upd hu (by simp)).get (i := a) han
        rw [hle] at hlook
        have hfin : (look l key).isSome = decide (e.1 = key) := by rw [hlook]; simp only; split <;> simp_all
        have Hfin := Lib.hid hfin
        have Hp := Lib.hid hp
        have Hz := Lib.hid (cmpv_zero e.1 key)
        clear hfin hp hlook hle
        go_wp2_with ((go_at_call 29; refine (cmp_any _ _ _ _).mono ?_; rintro e' w' ⟨rfl, hu'⟩))
        go_ret2
        rw [Hp.out, Hfin.out]
        refine ⟨?_, hu.thenNix hu'⟩
        show Ending.returned (.tuple #[.int .i64 a, .bool (cmpv e.1 key == 0)]) = _
        rw [Hz.out]
      · have hnone : look l key = none := by rw [hlook, List.getElem?_eq_none (by have := Hlen.out; omega)]
        have Hp := Lib.hid hp
        have Hn := Lib.hid hnone
        clear hp hlook hnone
        go_wp2_with fail
        go_ret2
        rw [Hp.out, Hn.out]
        exact ⟨rfl, hu⟩
end Go.Proofs.YtfalifenidpdlaaDoor
