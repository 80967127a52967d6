/- The law's example: 'alive' answers true. -/
import Derived.Test.YtfalifenidpdlaaDoorTabF
import Derived.Test.YtfalifenidpdlaaDoorAs
set_option linter.unusedVariables false
set_option linter.unusedSimpArgs false
namespace Go.Proofs.YtfalifenidpdlaaDoor
open Go Go.RowKit

theorem tab_new (w : World) (m : Int) : Tab (w.alloc (.cells #[.slice none 0 0, .int .i64 m] 55)) w.heap.size w.heap.size (.slice none 0 0) [] m :=
  ⟨Blk.new _ _ _, World.ownsRow_nil _ _ _ _, List.Pairwise.nil, by simp, Nat.le_refl _⟩

/-- Tables live on where other blocks are written. -/
theorem Tab.upd {F : Nat → Prop} {w w' : World} {base p : Nat} {v : Value} {l : List (ByteArray × Int)} {most : Int} (h : Tab w base p v l most) (hu : Upd F w w') (hp : ¬ F p) (hv : ∀ k, v.ownBlock = some k → ¬ F k) : Tab w' base p v l most :=
  ⟨h.blk.upd hu hp, own_upd h.own hu hv, h.rising, h.len, h.base⟩
theorem Tab.nix {w w' : World} {base p : Nat} {v : Value} {l : List (ByteArray × Int)} {most : Int} (h : Tab w base p v l most) (hu : Upd Nix w w') : Tab w' base p v l most := h.upd hu (fun f => f) (fun _ _ f => f)

set_option maxRecDepth 100000 in
set_option maxHeartbeats 1000000 in
theorem alive_any (w : World) (hL : Laid w) : Calls Tryd.prog 6 #[] w fun e w' => e = .returned (.bool true) ∧ Upd Nix w w' := by
  have e1 : put ([] : List (ByteArray × Int)) ⟨#[97]⟩ 1 = [(⟨#[97]⟩, 1)] := by rfl
  have e2 : look ([(⟨#[97]⟩, 1)] : List (ByteArray × Int)) ⟨#[98]⟩ = none := by simp [look]
  have e3 : look ([(⟨#[97]⟩, 1)] : List (ByteArray × Int)) ⟨#[97]⟩ = some 1 := by simp [look]
  have e4 : put ([(⟨#[97]⟩, 1)] : List (ByteArray × Int)) ⟨#[97]⟩ 3 = [(⟨#[97]⟩, 3)] := by
    have hp : pos ([(⟨#[97]⟩, 1)] : List (ByteArray × Int)) ⟨#[97]⟩ = 0 := by simp [pos, lt_irrefl]
    simp [put, hp, e3]
  have E1 := Lib.hid e1; have E2 := Lib.hid e2; have E3 := Lib.hid e3; have E4 := Lib.hid e4
  clear e1 e2 e3 e4
  have HL := Lib.hid hL; clear hL
  have hgl : 0 < w.heap.size := World.block_lt_of_cell? w ⟨0, 0, none⟩ HL.out
  go_enter Tryd.func6, Tryd.ntmps6
  go_wp2_with (first
    | (go_at_call 7; go_must (refine (new_any 1 _).mono ?_; rintro e w1 ⟨rfl, hw1⟩; have h1 : Tab w1 w.heap.size w.heap.size (.slice none 0 0) [] 1 := (by subst hw1; exact tab_new w 1); have u1 : Upd Nix w w1 := (by subst hw1; exact (Upd.refl _ _).alloc _); clear hw1))
    | (go_at_call 8; refine (put_there ⟨#[97]⟩ 3 1 _ w.heap.size w.heap.size v2 _ 1 h4 E3.out).mono ?_; rintro e w5 ⟨v5, rfl, h5, u5, b5⟩; rw [E4.out] at h5)
    | (go_at_call 8; refine (put_full ⟨#[98]⟩ 2 _ w.heap.size w.heap.size v2 _ 1 h2 E2.out rfl).mono ?_; rintro e w3 ⟨rfl, u3⟩; have h3 := h2.nix u3)
    | (go_at_call 8; go_must (refine (put_new ⟨#[97]⟩ 1 _ w.heap.size w.heap.size (.slice none 0 0) [] 1 h1 rfl (by decide) (by simp)).mono ?_; rintro e w2 ⟨v2, rfl, h2, u2, b2⟩; rw [E1.out] at h2))
    | (go_at_call 14; go_must (refine (num_errno 180 _ (by exact Laid.upd (Laid.upd (Laid.upd HL.out u1 (by simp)) u2 (by simp [Value.ownBlock]; omega)) u3 (by simp))).mono ?_; rintro e w4 ⟨rfl, u4⟩; have h4 := h3.nix u4))
    | (go_at_call 10; go_must (refine (len_any _ w.heap.size w.heap.size v5 _ 1 h5).mono ?_; rintro e w6 ⟨rfl, rfl⟩)))
  go_ret
  refine ⟨rfl, ?_⟩
  have hs1 := u1.size
  refine (((u1.trans u2 ?_).thenNix u3).thenNix u4).trans u5 ?_
  · rintro k hk (e | e)
    · omega
    · cases e
  · rintro k hk (e | e)
    · omega
    · rcases b2 with h9 | ⟨j, h9, h10⟩
      · rw [h9] at e; cases e
      · rw [h9] at e; cases e; omega
end Go.Proofs.YtfalifenidpdlaaDoor
