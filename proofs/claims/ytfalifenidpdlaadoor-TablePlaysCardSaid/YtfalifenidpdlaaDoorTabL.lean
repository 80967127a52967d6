/- All: the function value that it hands back, as an iterator over the rows. -/
import Derived.Test.YtfalifenidpdlaaDoorTabK
import Derived.RangeFuncNested
import Derived.RangeFuncBound
import Derived.RangeFuncCalls
import Derived.RangeFuncLeaves
import Derived.RangeFuncBox
import Derived.Shelf.Abstract
import Derived.Shelf.RegionOpen
import Derived.OwnWalkIn
import Derived.TacticsInMore
import Derived.LoopNIn
import Derived.LoopIn
set_option linter.unusedVariables false
set_option linter.unusedSimpArgs false
namespace Go.Proofs.YtfalifenidpdlaaDoor
open Go Go.RowKit Go.Shelf
attribute [local go_sem] Oper.semAt_some

def AllPost (w : World) (l : List (ByteArray × Int)) (e : Ending) (w' : World) : Prop :=
  ∃ B v', e = .returned (.func (.func 27) #[] #[.pointer (some ⟨B, 0, none⟩)]) ∧ Blk w' B 53 #[v'] ∧ w'.ownsRow w.heap.size 58 2 v' l.length (flat l) ∧ Upd Nix w w' ∧ w.heap.size ≤ B

theorem all_nil (w : World) : Calls Tryd.prog 18 #[.pointer none] w (AllPost w []) := by
  go_enter Tryd.func18, Tryd.ntmps18
  go_wp2
  go_ret
  exact ⟨_, _, rfl, Blk.new _ _ _, World.ownsRow_nil _ _ _ _, (Upd.refl _ _).alloc _, Nat.le_refl _⟩

theorem all_any (w : World) (base p : Nat) (v : Value) (l : List (ByteArray × Int)) (most : Int) (h : Tab w base p v l most) :
    Calls Tryd.prog 18 #[.pointer (some ⟨p, 0, none⟩)] w (AllPost w l) := by
  have hblk := h.blk
  have hown := h.own
  have hlen := h.len
  obtain ⟨A0, m0, c0, rfl, Hm0⟩ := own_slice_ hown
  have hc0 := (hblk.alloc (.cells #[.slice none 0 0] 53)).cell 0
  simp only [List.getElem?_toArray, List.getElem?_cons_zero] at hc0
  have hB := Blk.new w 53 #[.slice none 0 0]
  go_enter Tryd.func18, Tryd.ntmps18
  go_wp2_with ((go_at_call 26; go_must (refine (clone_any _ base _ l (by exact own_upd hown ((Upd.refl Nix w).alloc _) (fun _ _ f => f)) hlen).mono ?_; rintro e w1 ⟨v1, rfl, hown1, hu1⟩; obtain ⟨A1, m1, c1, rfl, Hm1⟩ := own_slice_ hown1; have hB1 := hB.upd hu1 (fun f => f); have hd0 := hB1.cell 0; simp only [List.getElem?_toArray, List.getElem?_cons_zero] at hd0; have hf0 := hB1.frozen 0)))
  go_ret
  have hs1 : (w.alloc (.cells #[.slice none 0 0] 53)).heap.size = w.heap.size + 1 := by simp
  refine ⟨_, _, rfl, hB1.set_ 0 _, ?_, ?_, Nat.le_refl _⟩
  · have h9 := own_upd hown1 ((Upd.refl (fun k => k = w.heap.size) w1).setCell (p := ⟨w.heap.size, 0, none⟩) (fun _ => rfl) (.slice A1 m1 c1)) (fun k hk e => by have := (hown1.lt k hk).1; omega)
    exact ⟨h9.1, h9.2.imp id (fun ⟨g, cap, cur, a, b, c⟩ => ⟨g, cap, cur, a, by omega, c⟩)⟩
  · exact (((Upd.refl Nix w).alloc _).thenNix hu1).setCell (fun h => by simp at h) _

/-- Rows whose cells lie in blocks below n₀; or there are none. -/
theorem rows_below {w w' : World} {base : Nat} {v : Value} {l : List (ByteArray × Int)} {n₀ : Nat} (h : w.ownsRow base 58 2 v l.length (flat l)) (hb : Below n₀ w w') (hn : ∀ k, v.ownBlock = some k → k < n₀) : w'.ownsRow base 58 2 v l.length (flat l) :=
  own_upd (F := fun k => n₀ ≤ k) h ⟨hb.os, hb.tape, hb.output, hb.size, fun k _ hk => hb.block k (by omega)⟩ (fun k hk f => by have := hn k hk; omega)

set_option maxRecDepth 100000 in
set_option maxHeartbeats 2000000 in
theorem all1_in (n : Nat) (hn : 1 ≤ n) (l Bs n₀ base : Nat) (v : Value) (zs : List (ByteArray × Int)) (hlen : zs.length ≤ 100000) (hvn : ∀ k, v.ownBlock = some k → k < n₀) (hBn : Bs < n₀) (J Jx : List (ByteArray × Int) → World → Prop)
    (hJ : ∀ s A B, J s A → A.grownBy B none → J s B) (W : World) (hW : n₀ ≤ W.heap.size)
    (hY : ∀ pre x W, J pre W → pre.length < zs.length → YieldAt Fence.wide (n - 1) Tryd.prog l #[.string x.1, .int .i64 x.2] W fun e W' =>
      (e = .returned (.bool true) ∧ J (pre ++ [x]) W' ∧ Below n₀ W W') ∨ (e = .returned (.bool false) ∧ Jx (pre ++ [x]) W'))
    (hBs : W.cell? ⟨Bs, 0, none⟩ = some v) (hown : W.ownsRow base 58 2 v zs.length (flat zs)) (h0 : J [] W) :
    CallsIn Fence.wide n Tryd.prog 27 #[.func (.yield l) #[] #[], .pointer (some ⟨Bs, 0, none⟩)] W fun e W' => (∃ v, e = .returned v) ∧
      ((∃ ys, ys = zs ∧ J ys W') ∨ (∃ pre, (∃ k, k ≤ zs.length ∧ pre = zs.take k) ∧ Jx pre W')) := by
  obtain ⟨A, c, rfl, hc, hrows, hA⟩ := own_rows hown
  have hrows' := hrows.1
  generalize hN : zs.length = N at *
  have HN := Lib.hid hN; clear hN hrows'
  refine callsIn_of_wp Tryd.func27 rfl trivial ?_ rfl
  simp only [Tryd.ntmps27, List.size_toArray, List.length_cons, List.length_nil, Nat.reduceAdd, Nat.reduceSub, Array.replicate_succ, Array.replicate_zero, List.push_toArray, List.append_toArray, List.nil_append, List.cons_append]
  gi_wp2
  gi_loopw [7] (fun i wr => ∃ k : Nat, k ≤ N ∧ i = .int .i64 k ∧ J (zs.take k) wr ∧ Below n₀ W wr)
    (fun i _ => N - (intOf i).toNat)
  case atStart => exact ⟨0, Nat.zero_le _, rfl, by simpa using h0, Below.refl _ _⟩
  case round =>
    obtain ⟨k, hk, rfl, hJs, hnx⟩ := hrel
    by_cases hlt : k < N
    · obtain ⟨ad, e, rfl, hle, hw0, hw1⟩ := hrows.get hlt
      have hab : ad.block < n₀ := hvn _ (hA ad rfl).1
      have hc0 := (hnx.cell (p := ad.add (k * 2)) (by rw [block_of_add]; exact hab)).trans hw0
      have hc1 := (hnx.cell (p := ⟨(ad.add (k * 2)).block, (ad.add (k * 2)).off + 1, none⟩) (by rw [block_of_add]; exact hab)).trans hw1
      have hsn : zs.take (k + 1) = zs.take k ++ [e] := by rw [List.take_add_one, hle]; rfl
      have Hsn := Lib.hid hsn
      have HA := Lib.hid hA
      obtain ⟨fn, tmps, assign, body, hy, hR⟩ := hY (zs.take k) e (wr.alloc (.cells #[.string e.1, .int .i64 e.2] 58)) (hJ _ _ _ hJs (World.grownBy_alloc _ _ _)) (by rw [List.length_take]; omega)
      clear hle hsn hw0 hw1 hA
      gi_wp2
      refine hR.mono ?_
      rintro e' W3 (⟨rfl, hJ3, hk3⟩ | ⟨rfl, hJx3⟩)
      · gi_wp2
        go_roundw
        case rel => exact ⟨k + 1, by omega, by go_num, by rw [Hsn.out]; exact hJ3, hnx.trans (((Below.refl n₀ wr).alloc (Nat.le_trans hW hnx.size) _).trans hk3)⟩
        case measure => simp [intOf]; omega
      · gi_wp2
        refine bodyPost_ret (results_none rfl _ _ _) rfl ?_
        exact ⟨⟨_, rfl⟩, .inr ⟨_, ⟨k + 1, by omega, Hsn.out.symm⟩, hJx3⟩⟩
    · obtain rfl : k = N := by omega
      have htk : zs.take k = zs := List.take_of_length_le (by have := HN.out; omega)
      rw [htk] at hJs
      clear htk
      gi_wp2
      go_end0
      exact ⟨⟨_, rfl⟩, .inl ⟨_, rfl, hJs⟩⟩

/-- The value that All hands back stops where the rows end, or where it is told to. -/
theorem all_stops (n : Nat) (hn : 1 ≤ n) (Bs n₀ base : Nat) (v : Value) (zs : List (ByteArray × Int)) (hlen : zs.length ≤ 100000) (w : World) (hB : Blk w Bs 53 #[v]) (hown : w.ownsRow base 58 2 v zs.length (flat zs)) (hBn : Bs < n₀) (hvn : ∀ k, v.ownBlock = some k → k < n₀) (hn₀ : n₀ ≤ w.heap.size) :
    SeqStopsK Fence.wide n Tryd.prog 27 #[.pointer (some ⟨Bs, 0, none⟩)] (fun x : ByteArray × Int => #[.string x.1, .int .i64 x.2]) (Below n₀) (fun ys => ys = zs) (fun pre => ∃ k, k ≤ zs.length ∧ pre = zs.take k) zs.length w := fun l J Jx W hW hJ _ hY h0 =>
  all1_in n hn l Bs n₀ base v zs hlen hvn hBn J Jx (fun s A B h hg => hJ s A B none h hg (fun r e => by cases e)) W (Nat.le_trans hn₀ hW.size) hY
    ((hW.cell (p := ⟨Bs, 0, none⟩) hB.lt).trans (by rw [hB.cell]; rfl)) (rows_below hown hW (fun k hk => (hown.lt k hk).2)) h0
end Go.Proofs.YtfalifenidpdlaaDoor
