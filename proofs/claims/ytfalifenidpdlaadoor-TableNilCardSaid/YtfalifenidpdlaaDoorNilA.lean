/- The walk of TableNil. -/
import Derived.Test.YtfalifenidpdlaaDoorTabL
set_option linter.unusedVariables false
set_option linter.unusedSimpArgs false
namespace Go.Proofs.YtfalifenidpdlaaDoor
open Go Go.RowKit Go.Shelf
attribute [local go_sem] Oper.semAt_some

theorem run_eql_func (fn : Fn) (a b : Array Value) (w : World) : (binOp .eql 48 (.func fn a b) .nilFunc).run Tryd.prog w = .ok (.bool false) w := by kernel_rfl

set_option maxRecDepth 100000 in
set_option maxHeartbeats 4000000 in
theorem nil_walk (w : World) (hL : Laid w) (key : ByteArray) (x : Int) :
    Calls Tryd.prog 5 #[.string key, .int .i64 x] w fun e w' => e = .returned (.bool true) ∧ Upd Nix w w' := by
  have hgl : 0 < w.heap.size := World.block_lt_of_cell? w ⟨0, 0, none⟩ hL
  have HL := Lib.hid (hL.upd ((Upd.refl Nix w).alloc (.cells #[.bool false] 4)) (fun f => f)); clear hL
  have hfn := run_eql_func
  have hR0 := Blk.new w 4 #[.bool false]
  refine callsIn_wide.1 (callsIn_of_wp_marks (n := 3) Tryd.func5 rfl trivial ?_ rfl)
  simp only [Tryd.ntmps5, List.size_toArray, List.length_cons, List.length_nil, Nat.reduceAdd, Nat.reduceSub, Array.replicate_succ, Array.replicate_zero, List.push_toArray, List.append_toArray, List.nil_append, List.cons_append]
  refine wpIn_wide.2 ?_
  go_wp2_with (first
    | (go_at_call 6; go_must (refine (alive_any _ HL.out).mono ?_; rintro e w1 ⟨rfl, u1⟩))
    | (go_at_call 18; go_must (refine (all_nil _).mono ?_; rintro e w2 ⟨B, v2, rfl, hB, hown, u2, hBw⟩)))
  refine (wpIn_wide (n := 3)).1 (wpIn_rangeFunc_ownG rfl (by omega) (gf := 27) (lb := #[.pointer (some ⟨B, 0, none⟩)]) rfl trivial (enters_of Tryd.func27 (by kernel_rfl) rfl)
    (all_stops (3 - 1) (by omega) B w2.heap.size _ v2 [] (by simp) w2 hB hown hB.lt (fun k hk => (hown.lt k hk).2) (Nat.le_refl _)) belowK_t (belowK_b (Nat.le_refl _)) (Below.refl _ _) (fun _ => rfl)
    (fun pre W => Below w2.heap.size w2 W) (fun _ _ _ => False)
    (ownFrom_below (Nat.le_refl _) (Nat.le_refl _)) (fun _ _ _ _ _ hs _ _ => hs) (Below.refl _ _)
    ?act ?assign ?body ?done ?stop)
  case assign =>
    intro l x W K hK
    gi_wp2
    exact hK
  case body =>
    intro l pre x W hI hlt
    simp at hlt
  case done =>
    rintro D ys W hD rfl hI hK
    have uW : Upd Nix w2 W := Upd.of_below hI
    have hRW := ((hR0.upd u1 (fun f => f)).upd u2 (fun f => f)).upd uW (fun f => f)
    have hr0 := hRW.cell 0
    simp only [List.getElem?_toArray, List.getElem?_cons_zero] at hr0
    have hrf := hRW.frozen 0
    have HLW := Lib.hid (((HL.out.upd u1 (fun f => f)).upd u2 (fun f => f)).upd uW (fun f => f))
    have hKd := Lib.hid hK
    clear hK
    go_wp2_with (first
      | (go_at_call 9; go_must (refine (get_nil _ _).mono ?_; rintro e w3 ⟨rfl, rfl⟩))
      | (go_at_call 8; go_must (refine (put_nil _ _ _).mono ?_; rintro e w3 ⟨rfl, rfl⟩))
      | (go_at_call 14; go_must (refine (num_errno 3 _ HLW.out).mono ?_; rintro e w4 ⟨rfl, u4⟩; have hRW4 := hRW.upd u4 (fun f => f); have hr4 := hRW4.cell 0; simp only [List.getElem?_toArray, List.getElem?_cons_zero] at hr4; have hrf4 := hRW4.frozen 0))
      | (go_at_call 11; go_must (refine (drop_nil _ _).mono ?_; rintro e w3 ⟨rfl, rfl⟩))
      | (go_at_call 10; go_must (refine (len_nil _).mono ?_; rintro e w3 ⟨rfl, rfl⟩))
      | (go_at_call 20; go_must (refine (room_nil _).mono ?_; rintro e w3 ⟨rfl, rfl⟩))
      | (go_at_call 17; go_must (refine (copy_nil _).mono ?_; rintro e w3 ⟨rfl, rfl⟩)))
    have hsz : w.heap.size < w2.heap.size := by
      have h1 := u1.size; have h2 := u2.size
      simp at h1; omega
    have hDW : D < W.heap.size := (Array.getElem?_eq_some_iff.1 hKd.out).1
    have hK4 : w4.heap[D]? = some (.deferred (some [])) := (u4.block D hDW (fun f => f)).trans hKd.out
    have hK5 : (w4.setCell ⟨w.heap.size, 0, none⟩ (.bool true)).heap[D]? = some (.deferred (some [])) := (Below.heap_setCell _ ⟨w.heap.size, 0, none⟩ _ D (by show D ≠ w.heap.size; omega)).trans hK4
    have hc5 := cell_kept (World.cell?_setCell_same' w4 ⟨w.heap.size, 0, none⟩ (.bool true) (by rw [hr4]; rfl)) (grownBy_putObj' _ D (.deferred none)) (fun r e => by cases e; exact ⟨_, hK5, rfl⟩)
    refine ⟨by simp, .inl ⟨_, _, rfl, run_takeDeferred hK5, ?_⟩⟩
    refine ⟨.bool true, ?_, rfl, ?_⟩
    · simp [results, Tryd.f5, go_sem, hc5]
    · refine (((((((Upd.refl Nix w).alloc _).thenNix u1).thenNix u2).thenNix uW).thenNix u4).setCell (fun h => by simp at h) _).grown (grownBy_putObj' _ D (.deferred none)) (fun k hk h => ?_)
      cases hk; omega
  case stop =>
    rintro D c pre W _ _ h _
    exact h.elim
end Go.Proofs.YtfalifenidpdlaaDoor
