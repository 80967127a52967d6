/- scope.Has, Both, All, Less, Within. -/
import Derived.Test.YtbffpliihmggoaaDoorScpC
set_option linter.unusedVariables false
set_option linter.unusedSimpArgs false
namespace Go.Proofs.YtbffpliihmggoaaDoor.M
open Go Go.RowKit Go.Sort

theorem cell_spot {w : World} {a : Addr} {v : Value} (h : w.cell? a = some v) : a = ⟨a.block, a.off, none⟩ := by
  obtain ⟨b, o, s⟩ := a
  cases s with
  | none => rfl
  | some x =>
    exfalso
    unfold World.cell? at h
    split at h <;> simp at h
theorem SeqAt.flat {w : World} {A : Option Addr} {n : Nat} {vs : List Value} (h : SeqAt w A n vs) (hn : 0 < n) : ∃ g o, A = some ⟨g, o, none⟩ ∧ ∀ j u, vs[j]? = some u → w.cell? ⟨g, o + j, none⟩ = some u := by
  obtain ⟨ad, rfl, hc⟩ := h.2 hn
  have h0 := hc 0 _ (List.getElem?_eq_getElem (by have := h.1; omega))
  have e : ad.add 0 = ad := by unfold Addr.add; simp
  rw [e] at h0
  have e2 := cell_spot h0
  refine ⟨ad.block, ad.off, by rw [← e2], fun j u hj => ?_⟩
  have := hc j u hj
  rw [e2, add_flat] at this
  exact this

theorem contains_eq (l : List ByteArray) (x : ByteArray) : Lib.containsS l x = hasS l x := by
  rw [Bool.eq_iff_iff, Lib.containsS_iff, hasS_iff]

theorem has_any (A : Option Addr) (n c : Nat) (l : List ByteArray) (x : ByteArray) (w : World) (hl : SeqAt w A n (l.map .string)) (hn : n ≤ 9223372036854775807) :
    Calls Tryd.prog 8 #[.slice A n c, .string x] w fun e w' => e = .returned (.bool (hasS l x)) ∧ w = w' := by
  have hlen : l.length = n := by simpa using hl.1
  have hc : Calls Tryd.prog 26 #[.slice A n c, .string x] w fun e w' => e = .returned (.bool (hasS l x)) ∧ w = w' := by
    rcases Nat.eq_zero_or_pos n with h0 | h0
    · subst h0
      obtain rfl : l = [] := List.eq_nil_of_length_eq_zero hlen
      exact (Tryd.slices_Contains_string_empty A c x w).mono fun e w' ⟨he, hw⟩ => ⟨he, hw.symm⟩
    · obtain ⟨g, o, rfl, hcell⟩ := hl.flat h0
      refine (Tryd.slices_Contains_string g o n c l x w (by omega) hn (fun j hj => ?_)).mono fun e w' ⟨he, hw⟩ => ⟨?_, hw.symm⟩
      · have := hcell j (.string l[j]) (by rw [List.getElem?_map, List.getElem?_eq_getElem hj]; rfl)
        rw [this, List.getD_eq_getElem?_getD, List.getElem?_eq_getElem hj]; rfl
      · rw [he, ← hlen, List.take_length, contains_eq]
  have Hc := Lib.hid hc
  clear hc hlen
  go_enter Tryd.func8, Tryd.ntmps8
  go_wp2_with (go_at_call 26; refine Hc.out.mono ?_; rintro e w' ⟨rfl, rfl⟩)
  go_ret
  exact ⟨rfl, rfl⟩

theorem always_pred (w : World) : PredC 30 #[] (fun _ => true) w := by
  intro W s _
  show Calls Tryd.prog 30 #[.string s] W _
  go_enter Tryd.func30, Tryd.ntmps30
  go_wp2
  go_ret
  exact ⟨rfl, rfl⟩

theorem both_pred (bx : Nat) (A : Option Addr) (n c : Nat) (l : List ByteArray) (w : World) (hb : w.cell? ⟨bx, 0, none⟩ = some (.slice A n c)) (hl : SeqAt w A n (l.map .string)) (hn : n ≤ 9223372036854775807) :
    PredC 28 #[.pointer (some ⟨bx, 0, none⟩)] (hasS l) w := by
  intro W s hu
  show Calls Tryd.prog 28 #[.string s, .pointer (some ⟨bx, 0, none⟩)] W _
  have hc : W.cell? ⟨bx, 0, none⟩ = some (.slice A n c) := hu.cell hb (by simp)
  have hs := hl.nix hu
  clear hb hl hu
  have Hs := Lib.hid hs; clear hs
  go_enter Tryd.func28, Tryd.ntmps28
  go_wp2_with (go_at_call 8; refine (has_any A n c l s _ Hs.out hn).mono ?_; rintro e w' ⟨rfl, rfl⟩)
  go_ret
  exact ⟨rfl, rfl⟩

theorem less_pred (bx : Nat) (A : Option Addr) (n c : Nat) (l : List ByteArray) (w : World) (hb : w.cell? ⟨bx, 0, none⟩ = some (.slice A n c)) (hl : SeqAt w A n (l.map .string)) (hn : n ≤ 9223372036854775807) :
    PredC 31 #[.pointer (some ⟨bx, 0, none⟩)] (fun x => !hasS l x) w := by
  intro W s hu
  show Calls Tryd.prog 31 #[.string s, .pointer (some ⟨bx, 0, none⟩)] W _
  have hc : W.cell? ⟨bx, 0, none⟩ = some (.slice A n c) := hu.cell hb (by simp)
  have hs := hl.nix hu
  clear hb hl hu
  have Hs := Lib.hid hs; clear hs
  go_enter Tryd.func31, Tryd.ntmps31
  go_wp2_with (go_at_call 8; refine (has_any A n c l s _ Hs.out hn).mono ?_; rintro e w' ⟨rfl, rfl⟩)
  go_ret
  exact ⟨rfl, rfl⟩

def bothS (a b : List ByteArray) : List ByteArray := setS (a.filter (hasS b))
def lessS (a b : List ByteArray) : List ByteArray := setS (a.filter fun x => !hasS b x)
def allS (a b : List ByteArray) : List ByteArray := setS (a ++ b)

theorem RetSeq.from {l : List ByteArray} {w w1 : World} {e : Ending} {w' : World} (h : RetSeq l w1 e w') (hu : Upd Nix w w1) : RetSeq l w e w' := by
  obtain ⟨A, c, h1, h2, h3, h4⟩ := h
  exact ⟨A, c, h1, h2, h3, hu.thenNix h4⟩

theorem lists_one {w : World} {gl : Nat} {A : Option Addr} {n c : Nat} {l : List ByteArray} (hc : w.cell? ⟨gl, 0, none⟩ = some (.slice A n c)) (hl : SeqAt w A n (l.map .string)) : ListsAt w gl [l] := by
  intro i l' hl'
  have hn : l.length = n := by simpa using hl.1
  subst hn
  cases i with
  | zero => simp at hl'; subst hl'; exact ⟨A, c, hc, hl⟩
  | succ i => simp at hl'
theorem lists_two {w : World} {gl : Nat} {A A' : Option Addr} {n c n' c' : Nat} {l l' : List ByteArray} (hc : w.cell? ⟨gl, 0, none⟩ = some (.slice A n c)) (hl : SeqAt w A n (l.map .string)) (hc' : w.cell? ⟨gl, 1, none⟩ = some (.slice A' n' c')) (hl' : SeqAt w A' n' (l'.map .string)) : ListsAt w gl [l, l'] := by
  intro i x hx
  have hn : l.length = n := by simpa using hl.1
  have hn' : l'.length = n' := by simpa using hl'.1
  subst hn; subst hn'
  match i, hx with
  | 0, hx => simp at hx; subst hx; exact ⟨A, c, hc, hl⟩
  | 1, hx => simp at hx; subst hx; exact ⟨A', c', hc', hl'⟩
  | i + 2, hx => simp at hx

theorem both_any (A A' : Option Addr) (n c n' c' : Nat) (a b : List ByteArray) (w : World) (ha : SeqAt w A n (a.map .string)) (hb : SeqAt w A' n' (b.map .string)) (hn : n ≤ 100000) (hn' : n' ≤ 100000) :
    Calls Tryd.prog 13 #[.slice A n c, .slice A' n' c'] w (RetSeq (bothS a b) w) := by
  have hlen : a.length = n := by simpa using ha.1
  have u1 : Upd Nix w (w.alloc (.cells #[.slice A' n' c'] 22)) := (Upd.refl _ _).alloc _
  have u2 : Upd Nix w ((w.alloc (.cells #[.slice A' n' c'] 22)).alloc (.cells #[.slice A n c] 22)) := u1.alloc _
  have hset := set_any 28 #[.pointer (some ⟨w.heap.size, 0, none⟩)] (hasS b) (enters_of Tryd.func28 (by kernel_rfl) rfl) (w.heap.size + 1) 1 [a] _
    (both_pred w.heap.size A' n' c' b _ (by simp) (hb.nix u2) (by omega)) (lists_one (c := c) (by simp) (ha.nix u2)) (by simp) (by simp; omega)
  have Hset := Lib.hid hset
  have Hu := Lib.hid u2
  clear hset u1 u2 hlen
  go_enter Tryd.func13, Tryd.ntmps13
  go_wp2_with (go_at_call 27; go_must (refine Hset.out.mono ?_; rintro e w' ⟨A1, c1, rfl, h1, h2, h3⟩))
  go_ret
  exact ⟨A1, c1, by simp [bothS], by simpa [bothS] using h1, by simpa [bothS] using h2, Hu.out.thenNix h3⟩

theorem less_any (A A' : Option Addr) (n c n' c' : Nat) (a b : List ByteArray) (w : World) (ha : SeqAt w A n (a.map .string)) (hb : SeqAt w A' n' (b.map .string)) (hn : n ≤ 100000) (hn' : n' ≤ 100000) :
    Calls Tryd.prog 17 #[.slice A n c, .slice A' n' c'] w (RetSeq (lessS a b) w) := by
  have hlen : a.length = n := by simpa using ha.1
  have u1 : Upd Nix w (w.alloc (.cells #[.slice A' n' c'] 22)) := (Upd.refl _ _).alloc _
  have u2 : Upd Nix w ((w.alloc (.cells #[.slice A' n' c'] 22)).alloc (.cells #[.slice A n c] 22)) := u1.alloc _
  have hset := set_any 31 #[.pointer (some ⟨w.heap.size, 0, none⟩)] (fun x => !hasS b x) (enters_of Tryd.func31 (by kernel_rfl) rfl) (w.heap.size + 1) 1 [a] _
    (less_pred w.heap.size A' n' c' b _ (by simp) (hb.nix u2) (by omega)) (lists_one (c := c) (by simp) (ha.nix u2)) (by simp) (by simp; omega)
  have Hset := Lib.hid hset
  have Hu := Lib.hid u2
  clear hset u1 u2 hlen
  go_enter Tryd.func17, Tryd.ntmps17
  go_wp2_with (go_at_call 27; go_must (refine Hset.out.mono ?_; rintro e w' ⟨A1, c1, rfl, h1, h2, h3⟩))
  go_ret
  exact ⟨A1, c1, by simp [lessS], by simpa [lessS] using h1, by simpa [lessS] using h2, Hu.out.thenNix h3⟩

theorem filter_all (l : List ByteArray) : l.filter (fun _ => true) = l := List.filter_eq_self.2 (by simp)
theorem all_any (A A' : Option Addr) (n c n' c' : Nat) (a b : List ByteArray) (w : World) (ha : SeqAt w A n (a.map .string)) (hb : SeqAt w A' n' (b.map .string)) (hn : n ≤ 100000) (hn' : n' ≤ 100000) :
    Calls Tryd.prog 15 #[.slice A n c, .slice A' n' c'] w (RetSeq (allS a b) w) := by
  have hlen : a.length = n := by simpa using ha.1
  have hlen' : b.length = n' := by simpa using hb.1
  have u1 : Upd Nix w (w.alloc (.cells #[.slice A n c, .slice A' n' c'] 22)) := (Upd.refl _ _).alloc _
  have hset := set_any 30 #[] (fun _ => true) (enters_of Tryd.func30 (by kernel_rfl) rfl) w.heap.size 2 [a, b] _
    (always_pred _) (lists_two (c := c) (c' := c') (by simp) (ha.nix u1) (by simp) (hb.nix u1)) (by simp) (by simp; omega)
  have e : ([a, b].flatten.filter fun _ => true) = a ++ b := by rw [filter_all]; simp
  rw [e] at hset; clear e
  have Hset := Lib.hid hset
  have Hu := Lib.hid u1
  clear hset u1 hlen hlen'
  go_enter Tryd.func15, Tryd.ntmps15
  go_wp2_with (go_at_call 27; go_must (refine Hset.out.mono ?_; rintro e w' ⟨A1, c1, rfl, h1, h2, h3⟩))
  go_ret
  exact ⟨A1, c1, by simp [allS], by simpa [allS] using h1, by simpa [allS] using h2, Hu.out.thenNix h3⟩

theorem within_any (A A' : Option Addr) (n c n' c' : Nat) (a b : List ByteArray) (w : World) (ha : SeqAt w A n (a.map .string)) (hb : SeqAt w A' n' (b.map .string)) (hn : n ≤ 100000) (hn' : n' ≤ 100000) :
    Calls Tryd.prog 10 #[.slice A n c, .slice A' n' c'] w fun e w' => e = .returned (.bool (lessS a b).isEmpty) ∧ Upd Nix w w' := by
  have hcall := less_any A A' n c n' c' a b w ha hb hn hn'
  have Hc := Lib.hid hcall; clear hcall
  have hq : (((lessS a b).length : Int) == 0) = (lessS a b).isEmpty := by
    cases lessS a b with
    | nil => rfl
    | cons x l => rw [beq_eq_false_iff_ne.2 (by simp only [List.length_cons]; omega)]; rfl
  have Hq := Lib.hid hq; clear hq
  go_enter Tryd.func10, Tryd.ntmps10
  go_wp2_with (go_at_call 17; go_must (refine Hc.out.mono ?_; rintro e w' ⟨A1, c1, rfl, h1, h2, h3⟩))
  go_ret
  exact ⟨by rw [← Hq.out]; rfl, h3⟩
end Go.Proofs.YtbffpliihmggoaaDoor.M
