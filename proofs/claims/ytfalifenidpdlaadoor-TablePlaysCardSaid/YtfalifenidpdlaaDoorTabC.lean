/- The table's simple functions: New, find, Len, Room, Get. -/
import Derived.Test.YtfalifenidpdlaaDoorTabB
set_option linter.unusedVariables false
set_option linter.unusedSimpArgs false
namespace Go.Proofs.YtfalifenidpdlaaDoor
open Go Go.RowKit

/-- At p there is a table of rows, with room for 'most'. -/
structure Tab (w : World) (base p : Nat) (v : Value) (l : List (ByteArray × Int)) (most : Int) : Prop where
  blk : Blk w p 55 #[v, .int .i64 most]
  own : w.ownsRow base 58 2 v l.length (flat l)
  rising : Rising l
  len : l.length ≤ 100000
  base : base ≤ p

theorem own_rows {w : World} {base : Nat} {v : Value} {l : List (ByteArray × Int)} (h : w.ownsRow base 58 2 v l.length (flat l)) : ∃ A c, v = .slice A l.length c ∧ l.length ≤ c ∧ RowsAt w A l.length l ∧ (∀ ad, A = some ad → v.ownBlock = some ad.block ∧ ad.off = 0 ∧ ad.spot = none) := by
  rcases h.2 with ⟨rfl, h0⟩ | ⟨g, cap, cur, rfl, hb, hg, hn, hm, hs, ht⟩
  · exact ⟨none, 0, by rw [h0], by omega, ⟨rfl, fun hn => by omega⟩, fun _ h => by cases h⟩
  · refine ⟨some ⟨g, 0, none⟩, cap, rfl, hn, ⟨rfl, fun _ => ⟨g, 0, rfl, (Array.getElem?_eq_some_iff.1 hg).1, fun j u hj => ?_⟩⟩, fun ad h => by cases h; exact ⟨rfl, rfl, rfl⟩⟩
    have := h.cells (g := g) rfl j u hj
    rwa [add_flat] at this

theorem new_any (most : Int) (w : World) : Calls Tryd.prog 7 #[.int .i64 most] w fun e w' => e = .returned (.pointer (some ⟨w.heap.size, 0, none⟩)) ∧ w' = w.alloc (.cells #[.slice none 0 0, .int .i64 (max most 0)] 55) := by
  have hmax : (if most < 0 then 0 else most) = max most 0 := by split <;> omega
  go_enter Tryd.func7, Tryd.ntmps7
  go_wp2
  go_ret
  exact ⟨rfl, rfl⟩

theorem find_nil (key : ByteArray) (w : World) : Calls Tryd.prog 21 #[.pointer none, .string key] w fun e w' => e = .returned (.tuple #[.int .i64 0, .bool false]) ∧ w = w' := by
  go_enter Tryd.func21, Tryd.ntmps21
  go_wp2
  go_ret2
  exact ⟨rfl, rfl⟩

theorem find_any (key : ByteArray) (w : World) (base p : Nat) (v : Value) (l : List (ByteArray × Int)) (most : Int) (h : Tab w base p v l most) :
    Calls Tryd.prog 21 #[.pointer (some ⟨p, 0, none⟩), .string key] w fun e w' => e = .returned (.tuple #[.int .i64 (pos l key), .bool (look l key).isSome]) ∧ Upd Nix w w' := by
  obtain ⟨A, c, rfl, hc, hrows, -⟩ := own_rows h.own
  have hc0 := h.blk.cell 0
  simp only [List.getElem?_toArray, List.getElem?_cons_zero] at hc0
  have hlen := h.len
  go_enter Tryd.func21, Tryd.ntmps21
  go_wp2_with (first | (go_at_call 28; refine (search_any key A _ c l _ hrows h.rising (by omega)).mono ?_; rintro e w' ⟨rfl, hu⟩))
  go_ret2
  exact ⟨rfl, hu⟩

theorem len_nil (w : World) : Calls Tryd.prog 10 #[.pointer none] w fun e w' => e = .returned (.int .i64 0) ∧ w = w' := by
  go_enter Tryd.func10, Tryd.ntmps10
  go_wp2
  go_ret
  exact ⟨rfl, rfl⟩
theorem len_any (w : World) (base p : Nat) (v : Value) (l : List (ByteArray × Int)) (most : Int) (h : Tab w base p v l most) :
    Calls Tryd.prog 10 #[.pointer (some ⟨p, 0, none⟩)] w fun e w' => e = .returned (.int .i64 l.length) ∧ w = w' := by
  obtain ⟨A, c, rfl, hc, hrows, -⟩ := own_rows h.own
  have hc0 := h.blk.cell 0
  simp only [List.getElem?_toArray, List.getElem?_cons_zero] at hc0
  go_enter Tryd.func10, Tryd.ntmps10
  go_wp2
  go_ret
  exact ⟨rfl, rfl⟩

theorem get_nil (key : ByteArray) (w : World) : Calls Tryd.prog 9 #[.pointer none, .string key] w fun e w' => e = .returned (.tuple #[.int .i64 0, .bool false]) ∧ w = w' := by
  go_enter Tryd.func9, Tryd.ntmps9
  go_wp2_with (first | (go_at_call 21; refine (find_nil _ _).mono ?_; rintro e w' ⟨rfl, rfl⟩))
  go_ret2
  exact ⟨rfl, rfl⟩

theorem get_any (key : ByteArray) (w : World) (base p : Nat) (v : Value) (l : List (ByteArray × Int)) (most : Int) (h : Tab w base p v l most) :
    Calls Tryd.prog 9 #[.pointer (some ⟨p, 0, none⟩), .string key] w fun e w' => e = .returned (.tuple #[.int .i64 ((look l key).getD 0), .bool (look l key).isSome]) ∧ Upd Nix w w' := by
  obtain ⟨A, c, rfl, hc, hrows, -⟩ := own_rows h.own
  have hblk := h.blk
  have hr := h.rising
  have hlen := h.len
  cases hl : look l key with
  | none =>
    have Hl := Lib.hid hl
    have hs : (look l key).isSome = false := by rw [hl]; rfl
    clear hl
    go_enter Tryd.func9, Tryd.ntmps9
    go_wp2_with (first | (go_at_call 21; refine (find_any key _ base p _ l most h).mono ?_; rintro e w' ⟨rfl, hu⟩))
    go_ret2
    exact ⟨rfl, hu⟩
  | some x =>
    have hat := some_at hr hl
    have hp := (List.getElem?_eq_some_iff.1 hat).1
    have Hl := Lib.hid hl
    have hs : (look l key).isSome = true := by rw [hl]; rfl
    clear hl
    have Hat := Lib.hid hat; clear hat
    go_enter Tryd.func9, Tryd.ntmps9
    go_wp2_with (first | (go_at_call 21; refine (find_any key _ base p _ l most h).mono ?_; rintro e w1 ⟨rfl, hu⟩; have hc0 := (hblk.upd hu (by simp)).cell 0; simp only [List.getElem?_toArray, List.getElem?_cons_zero] at hc0; obtain ⟨ad, en, rfl, hle, hx0, hx1⟩ := (hrows.upd hu (by simp)).get hp; rw [Hat.out] at hle; obtain rfl := Option.some.inj hle; clear hle))
    go_ret2
    exact ⟨rfl, hu⟩
end Go.Proofs.YtfalifenidpdlaaDoor
