/- The document's table: New, at, Get. -/
import Derived.Test.YtfalifenidpdlaaDoorTabG
set_option linter.unusedVariables false
set_option linter.unusedSimpArgs false
namespace Go.Proofs.YtfalifenidpdlaaDoor
open Go Go.RowKit

theorem rown_rows {w : World} {base : Nat} {v : Value} {l : List (ByteArray × Int)} (h : w.ownsRow base 63 2 v l.length (flat l)) : ∃ A c, v = .slice A l.length c ∧ l.length ≤ c ∧ RowsAt w A l.length l ∧ (∀ ad, A = some ad → v.ownBlock = some ad.block ∧ ad.off = 0 ∧ ad.spot = none) := by
  rcases h.2 with ⟨rfl, h0⟩ | ⟨g, cap, cur, rfl, hb, hg, hn, hm, hs, ht⟩
  · exact ⟨none, 0, by rw [h0], by omega, ⟨rfl, fun hn => by omega⟩, fun _ h => by cases h⟩
  · refine ⟨some ⟨g, 0, none⟩, cap, rfl, hn, ⟨rfl, fun _ => ⟨g, 0, rfl, (Array.getElem?_eq_some_iff.1 hg).1, fun j u hj => ?_⟩⟩, fun ad h => by cases h; exact ⟨rfl, rfl, rfl⟩⟩
    have := h.cells (g := g) rfl j u hj
    rwa [add_flat] at this

theorem rnew_any (most : Int) (w : World) : Calls Tryd.prog 12 #[.int .i64 most] w fun e w' => e = .returned (.agg #[.slice none 0 0, .int .i64 (max most 0)]) ∧ Upd Nix w w' := by
  have hmax : (if most < 0 then 0 else most) = max most 0 := by split <;> omega
  go_enter Tryd.func12, Tryd.ntmps12
  go_wp2
  refine bodyPost_ret (v := .agg #[.slice none 0 0, .int .i64 (max most 0)]) (by simp [results, Tryd.results12, go_sem]) rfl ⟨rfl, ?_⟩
  exact (Upd.refl _ _).alloc _

/-- Where a key is, as the document tells it. -/
def place (l : List (ByteArray × Int)) (key : ByteArray) : Int := if (look l key).isSome then pos l key else -1
theorem place_of {l : List (ByteArray × Int)} (hr : Rising l) {key : ByteArray} {k : Nat} {e : ByteArray × Int} (h : ∀ j x, j < k → l[j]? = some x → x.1 ≠ key) (he : l[k]? = some e) (hk : e.1 = key) : place l key = k := by
  have hp : pos l key = k := by
    refine pos_of l key k (by have := (List.getElem?_eq_some_iff.1 he).1; omega) (fun j a hj ha => ?_) (fun a ha => by rw [he] at ha; cases ha; rw [hk]; exact lt_irrefl _)
    have := hr.get hj ha he
    rw [hk] at this; exact this
  unfold place
  rw [look_pos hr, hp, he]
  simp [hk]
theorem place_none {l : List (ByteArray × Int)} {key : ByteArray} (h : ∀ (j : Nat) (x : ByteArray × Int), l[j]? = some x → x.1 ≠ key) : place l key = -1 := by
  unfold place
  rw [look_none_of fun a ha => by obtain ⟨j, hj⟩ := List.mem_iff_getElem?.1 ha; exact h j a hj]
  rfl

set_option maxRecDepth 100000 in
theorem rat_any (key : ByteArray) (A : Option Addr) (n c : Nat) (most : Int) (l : List (ByteArray × Int)) (w : World) (hl : RowsAt w A n l) (hr : Rising l) (hn : n ≤ 100000) :
    Calls Tryd.prog 24 #[.agg #[.slice A n c, .int .i64 most], .string key] w fun e w' => e = .returned (.int .i64 (place l key)) ∧ Upd Nix w w' := by
  have Hlen := Lib.hid hl.1
  have hB := Blk.new w 38 #[.slice A n c, .int .i64 most]
  have u0 : Upd Nix w (w.alloc (.cells #[.slice A n c, .int .i64 most] 38)) := (Upd.refl _ _).alloc _
  have hl0 := hl.upd u0 (fun _ _ f => f)
  have hc0 := hB.cell 0
  simp only [List.getElem?_toArray, List.getElem?_cons_zero] at hc0
  go_enter Tryd.func24, Tryd.ntmps24
  go_wp2
  go_loop [5] (fun i => ∃ k : Nat, k ≤ n ∧ i = .int .i64 k ∧ ∀ j x, j < k → l[j]? = some x → x.1 ≠ key) (fun i => n - (intOf i).toNat)
  case atStart => exact ⟨0, by omega, rfl, fun j x h => by omega⟩
  case round =>
    obtain ⟨k, hk, rfl, h1⟩ := hrel
    have H1 := Lib.hid h1; clear h1
    by_cases hlt : k < n
    · obtain ⟨ad, e, rfl, hle, hx0, hx1⟩ := hl0.get hlt
      have Hle := Lib.hid hle; clear hle
      by_cases hq0 : e.1 = key
      · have hq : (e.1.toList == key.toList) = true := by rw [hq0]; simp
        have Hp := Lib.hid (place_of hr H1.out Hle.out hq0)
        clear hq0
        go_wp2
        go_ret
        rw [Hp.out]
        exact ⟨rfl, u0⟩
      · have hq : (e.1.toList == key.toList) = false := by
          simp only [beq_eq_false_iff_ne, ne_eq]
          exact fun h => hq0 (ba_ext h)
        have Hq := Lib.hid hq0; clear hq0
        go_wp2
        go_round
        case rel =>
          refine ⟨k + 1, by omega, by go_num, fun j x hj hx => ?_⟩
          by_cases e0 : j = k
          · subst e0; rw [Hle.out] at hx; cases hx; exact Hq.out
          · exact H1.out j x (by omega) hx
        case measure => simp [intOf]; omega
    · obtain rfl : k = n := by omega
      have Hp := Lib.hid (place_none (l := l) (key := key) (fun j x hx => H1.out j x (by have := (List.getElem?_eq_some_iff.1 hx).1; have := Hlen.out; omega) hx))
      go_wp2
      go_ret
      rw [Hp.out]
      exact ⟨rfl, u0⟩

theorem rget_any (key : ByteArray) (A : Option Addr) (n c : Nat) (most : Int) (l : List (ByteArray × Int)) (w : World) (hl : RowsAt w A n l) (hr : Rising l) (hn : n ≤ 100000) :
    Calls Tryd.prog 15 #[.agg #[.slice A n c, .int .i64 most], .string key] w fun e w' => e = .returned (.tuple #[.int .i64 ((look l key).getD 0), .bool (look l key).isSome]) ∧ Upd Nix w w' := by
  have hB := Blk.new w 38 #[.slice A n c, .int .i64 most]
  have u0 : Upd Nix w (w.alloc (.cells #[.slice A n c, .int .i64 most] 38)) := (Upd.refl _ _).alloc _
  have hl0 := hl.upd u0 (fun _ _ f => f)
  have hlen := hl.1
  have hc0 := hB.cell 0
  have hc1 := hB.cell 1
  simp only [List.getElem?_toArray, List.getElem?_cons_zero, List.getElem?_cons_succ] at hc0 hc1
  cases hlk : look l key with
  | none =>
    have hp : place l key = -1 := by unfold place; rw [hlk]; rfl
    clear hlk hlen
    go_enter Tryd.func15, Tryd.ntmps15
    go_wp2_with (first | (go_at_call 24; go_must (refine (rat_any key A n c most l _ hl0 hr hn).mono ?_; rw [hp]; rintro e w1 ⟨rfl, u1⟩)))
    go_ret2
    exact ⟨rfl, u0.thenNix u1⟩
  | some x =>
    have hat := some_at hr hlk
    have hpn : pos l key < n := by have := (List.getElem?_eq_some_iff.1 hat).1; omega
    have hp : place l key = (pos l key : Int) := by unfold place; rw [hlk]; rfl
    have Hat := Lib.hid hat; clear hat hlk hlen
    have hq0 : decide ((pos l key : Int) < 0) = false := by simp
    go_enter Tryd.func15, Tryd.ntmps15
    go_wp2_with (first | (go_at_call 24; go_must (refine (rat_any key A n c most l _ hl0 hr hn).mono ?_; rw [hp]; rintro e w1 ⟨rfl, u1⟩; have hd0 := (hB.upd u1 (fun f => f)).cell 0; simp only [List.getElem?_toArray, List.getElem?_cons_zero] at hd0; obtain ⟨ad, en, rfl, hle, hx0, hx1⟩ := (hl0.upd u1 (fun _ _ f => f)).get hpn; rw [Hat.out] at hle; obtain rfl := Option.some.inj hle; clear hle)))
    go_ret2
    exact ⟨rfl, u0.thenNix u1⟩
end Go.Proofs.YtfalifenidpdlaaDoor
