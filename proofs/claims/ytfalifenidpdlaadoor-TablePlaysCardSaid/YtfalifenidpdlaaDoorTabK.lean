/- Clone, Copy, Room, All. -/
import Derived.Test.YtfalifenidpdlaaDoorTabG
set_option linter.unusedVariables false
set_option linter.unusedSimpArgs false
namespace Go.Proofs.YtfalifenidpdlaaDoor
open Go Go.RowKit

theorem room_nil (w : World) : Calls Tryd.prog 20 #[.pointer none] w fun e w' => e = .returned (.int .i64 0) ∧ w = w' := by
  go_enter Tryd.func20, Tryd.ntmps20
  go_wp2
  go_ret
  exact ⟨rfl, rfl⟩

theorem room_any (w : World) (base p : Nat) (v : Value) (l : List (ByteArray × Int)) (most : Int) (h : Tab w base p v l most) (h0 : 0 ≤ most) (h1 : most ≤ 9223372036854775807) :
    Calls Tryd.prog 20 #[.pointer (some ⟨p, 0, none⟩)] w fun e w' => e = .returned (.int .i64 (most - l.length)) ∧ ∃ n, w' = w.drewN n := by
  obtain ⟨A, c, rfl, hc, hrows, -⟩ := own_rows h.own
  have hc0 := h.blk.cell 0
  have hc1 := h.blk.cell 1
  simp only [List.getElem?_toArray, List.getElem?_cons_zero, List.getElem?_cons_succ] at hc0 hc1
  have hlen := h.len
  have hw : IntKind.i64.wrap (most - l.length) = most - l.length := IntWalk.i64_in _ (by omega)
  go_enter Tryd.func20, Tryd.ntmps20
  go_wp2
  go_quiet (fail)
  go_wp2
  go_ret
  exact ⟨rfl, _, rfl⟩

theorem copy_nil (w : World) : Calls Tryd.prog 17 #[.pointer none] w fun e w' => e = .returned (.pointer none) ∧ w = w' := by
  go_enter Tryd.func17, Tryd.ntmps17
  go_wp2
  go_ret
  exact ⟨rfl, rfl⟩

def ClonePost (w : World) (l : List (ByteArray × Int)) (e : Ending) (w' : World) : Prop :=
  ∃ v', e = .returned v' ∧ w'.ownsRow w.heap.size 58 2 v' l.length (flat l) ∧ Upd Nix w w'

set_option maxRecDepth 100000 in
theorem clone_any (w : World) (base : Nat) (v : Value) (l : List (ByteArray × Int)) (hown : w.ownsRow base 58 2 v l.length (flat l)) (hlen : l.length ≤ 100000) :
    Calls Tryd.prog 26 #[v] w (ClonePost w l) := by
  obtain ⟨i0, hi0, hz0, hz1, hz2⟩ := info_parts infoEntry
  have heq := fun (w : World) (a : Option Addr) (n c n' c' : Nat) => Lib.run_eql_slice_nil (P := Tryd.prog) w 53 58 a n c n' c' Tryd.underlying53
  rcases hown.2 with ⟨rfl, h0⟩ | ⟨g, cap, cur, rfl, hbg, hg, hn, hm, hs, ht⟩
  · have hl : l = [] := List.eq_nil_of_length_eq_zero h0
    subst hl
    clear h0 hlen hown
    go_enter Tryd.func26, Tryd.ntmps26
    go_wp2
    go_ret
    exact ⟨_, rfl, World.ownsRow_nil _ _ _ _, Upd.refl _ _⟩
  · have hnews : ∀ j u, (flat l)[j]? = some u → w.cell? ((⟨g, 0, none⟩ : Addr).add j) = some u := hown.cells (g := g) rfl
    have hne : w.heap.size ≠ g := by have := (Array.getElem?_eq_some_iff.1 hg).1; omega
    have hnews2 : ∀ j u, (flat l)[j]? = some u → (w.alloc (.cells #[] 58)).cell? ((⟨g, 0, none⟩ : Addr).add j) = some u := fun j u h => by
      rw [World.cell?_alloc_lt _ _ _ (by rw [block_of_add]; exact (Array.getElem?_eq_some_iff.1 hg).1)]; exact hnews j u h
    have Hn := Lib.hid hnews2; clear hnews hnews2
    have hmade := World.ownsRow_made (e := 58) (base := w.heap.size) (size := 2) w #[] 0 (Nat.le_refl _) (by unfold maxLen; omega) (by simp)
    have Hfl := Lib.hid (flat_length l)
    have Ho := Lib.hid (flat_one l)
    generalize hN : l.length = N at *
    have HN := Lib.hid hN; clear hN ht hs hown
    have Hg := Lib.hid hg; clear hg
    go_enter Tryd.func26, Tryd.ntmps26
    go_wp2_with ((at_builtin; go_must (refine wpList_append_own_at _ rfl (.tmp 5) (.tmp 6) 53 rfl w.heap.size 58 i0 _ 2 24 Tryd.underlying53 hi0 hz0 hz1 hz2 rfl (by omega) (.slice (some ⟨w.heap.size, 0, none⟩) 0 0) 0 [] rfl hmade ⟨g, 0, none⟩ N cap (flat l) rfl Hfl.out Hn.out Ho.out (by unfold maxLen; omega) (by omega) (by simp) ?_; intro v1 w1 hown1 hg1 hnil1 hat1)))
    go_ret
    refine ⟨v1, rfl, ?_, ((Upd.refl _ _).alloc _).grown hg1 (fun k hk h => by have h9 : w.heap.size = k := Option.some.inj hk; omega)⟩
    rw [HN.out]
    simpa using hown1

def CopyPost (w : World) (l : List (ByteArray × Int)) (most : Int) (e : Ending) (w' : World) : Prop :=
  ∃ p v', e = .returned (.pointer (some ⟨p, 0, none⟩)) ∧ Tab w' w.heap.size p v' l most ∧ Upd Nix w w'

set_option maxRecDepth 100000 in
theorem copy_any (w : World) (base p : Nat) (v : Value) (l : List (ByteArray × Int)) (most : Int) (h : Tab w base p v l most) :
    Calls Tryd.prog 17 #[.pointer (some ⟨p, 0, none⟩)] w (CopyPost w l most) := by
  have hblk := h.blk
  have hown := h.own
  have hlen := h.len
  have hc0 := h.blk.cell 0
  have hc1 := h.blk.cell 1
  simp only [List.getElem?_toArray, List.getElem?_cons_zero, List.getElem?_cons_succ] at hc0 hc1
  obtain ⟨A0, m0, c0, rfl, Hm0⟩ := own_slice_ hown
  go_enter Tryd.func17, Tryd.ntmps17
  go_wp2
  go_region_with ((go_at_call 26; go_must (refine (clone_any _ base _ l (by exact own_upd hown ((Upd.refl Nix w).drew) (fun _ _ f => f)) hlen).mono ?_; rintro e w1 ⟨v1, rfl, hown1, hu1⟩; obtain ⟨A1, m1, c1, rfl, Hm1⟩ := own_slice_ hown1; have hd0 := (hblk.drew.upd hu1 (fun f => f)).cell 0; have hd1 := (hblk.drew.upd hu1 (fun f => f)).cell 1; simp only [List.getElem?_toArray, List.getElem?_cons_zero, List.getElem?_cons_succ] at hd0 hd1)))
  all_goals
    go_wp2
    go_ret
    exact ⟨_, _, rfl, ⟨Blk.new _ _ _, own_upd hown1 ((Upd.refl Nix w1).alloc _) (fun _ _ f => f), h.rising, h.len, hu1.size⟩, ((Upd.refl Nix w).drew.thenNix hu1).alloc _⟩
end Go.Proofs.YtfalifenidpdlaaDoor
