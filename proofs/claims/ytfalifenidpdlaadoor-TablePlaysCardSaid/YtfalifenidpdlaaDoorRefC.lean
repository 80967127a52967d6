/- The document's table: Drop. -/
import Derived.Test.YtfalifenidpdlaaDoorRefB
set_option linter.unusedVariables false
set_option linter.unusedSimpArgs false
namespace Go.Proofs.YtfalifenidpdlaaDoor
open Go Go.RowKit

theorem del_snoc {l : List (ByteArray × Int)} {key : ByteArray} {k : Nat} {e : ByteArray × Int} (he : l[k]? = some e) : del (l.take (k + 1)) key = if e.1 = key then del (l.take k) key else del (l.take k) key ++ [e] := by
  rw [List.take_add_one, he]
  show del (l.take k ++ [e]) key = _
  unfold del
  rw [List.filter_append]
  by_cases h : e.1 = key <;> simp [h]
theorem del_length (l : List (ByteArray × Int)) (key : ByteArray) : (del l key).length ≤ l.length := List.length_filter_le _ _
theorem del_less {l : List (ByteArray × Int)} (h : Rising l) (key : ByteArray) : decide ((del l key).length < l.length) = (look l key).isSome := by
  cases hl : look l key with
  | none => rw [del_none hl]; simp
  | some x =>
    rw [del_eq h hl]
    have := (List.getElem?_eq_some_iff.1 (some_at h hl)).1
    simp only [List.length_append, List.length_take, List.length_drop, Option.isSome_some, decide_eq_true_eq]
    omega

def RDropPost (w : World) (l : List (ByteArray × Int)) (most : Int) (b : Bool) (e : Ending) (w' : World) : Prop :=
  ∃ v, e = .returned (.tuple #[.agg #[v, .int .i64 most], .bool b]) ∧ w'.ownsRow w.heap.size 63 2 v l.length (flat l) ∧ Upd Nix w w'

set_option maxRecDepth 100000 in
set_option maxHeartbeats 1000000 in
theorem rdrop_any (key : ByteArray) (A : Option Addr) (n c : Nat) (most : Int) (l : List (ByteArray × Int)) (w : World) (hl : RowsAt w A n l) (hr : Rising l) (hn : n < 99000) :
    Calls Tryd.prog 16 #[.agg #[.slice A n c, .int .i64 most], .string key] w (RDropPost w (del l key) most (look l key).isSome) := by
  have hB := (Blk.new w 38 #[.slice A n c, .int .i64 most]).alloc (.cells #[.slice none 0 0, .int .i64 0] 38)
  have hC := Blk.new (w.alloc (.cells #[.slice A n c, .int .i64 most] 38)) 38 #[.slice none 0 0, .int .i64 0]
  rw [World.size_alloc] at hC
  have u0 : Upd Nix w ((w.alloc (.cells #[.slice A n c, .int .i64 most] 38)).alloc (.cells #[.slice none 0 0, .int .i64 0] 38)) := ((Upd.refl _ _).alloc _).alloc _
  have hl0 := hl.upd u0 (fun _ _ f => f)
  have Hlen := Lib.hid hl.1
  have hc0 := hB.cell 0
  simp only [List.getElem?_toArray, List.getElem?_cons_zero, List.getElem?_cons_succ] at hc0
  generalize hw1 : (w.alloc (.cells #[.slice A n c, .int .i64 most] 38)).alloc (.cells #[.slice none 0 0, .int .i64 0] 38) = w1 at *
  have hs1 : w1.heap.size = w.heap.size + 2 := by rw [← hw1]; simp
  have Hw1 := Lib.hid hw1; clear hw1
  have Hs1 := Lib.hid hs1; clear hs1
  go_enter Tryd.func16, Tryd.ntmps16
  go_wp2
  rw [Hw1.out]
  go_loopw [6, 7] (fun v i wr => ∃ (k : Nat) (A' : Option Addr) (m' c' : Nat), i = .int .i64 k ∧ k ≤ n ∧ v = .slice A' m' c' ∧ Hid (m' = (del (l.take k) key).length) ∧ Hid (wr.ownsRow w1.heap.size 63 2 v (del (l.take k) key).length (flat (del (l.take k) key))) ∧ Upd Nix w1 wr) (fun _ i _ => n - (intOf i).toNat)
  case atStart => exact ⟨0, none, 0, 0, rfl, by omega, rfl, rfl, World.ownsRow_nil _ _ _ _, Upd.refl _ _⟩
  case round =>
    obtain ⟨k, A', m', c', rfl, hkn, rfl, Hm, Hown, hu⟩ := hrel
    have hB2 := hB.upd hu (fun f => f)
    have he0 := hB2.cell 0
    have he1 := hB2.cell 1
    simp only [List.getElem?_toArray, List.getElem?_cons_zero, List.getElem?_cons_succ] at he0 he1
    have Hwr := Lib.hid hu.size
    by_cases hlt : k < n
    · obtain ⟨ad, e, rfl, hle2, hv0, hv1⟩ := hl0.get hlt
      have hx0 := hu.cell hv0 (fun f => f)
      have hx1 := hu.cell hv1 (fun f => f)
      have hstep := del_snoc (key := key) hle2
      have hll : (del (l.take k) key).length ≤ 100000 := Nat.le_trans (del_length _ _) (Nat.le_trans (List.length_take_le _ _) (by omega))
      have Hll := Lib.hid hll
      have Hbase := Lib.hid (fun (j : Nat) (hj : (Value.slice A' m' c').ownBlock = some j) => (Hown.out.lt j hj).1)
      clear hle2 hv0 hv1 hll
      by_cases hek : e.1 = key
      · have hne : (e.1.toList == key.toList) = true := by rw [hek]; simp
        rw [if_pos hek] at hstep
        have Hstep := Lib.hid hstep
        clear hek hstep
        go_wp2
        go_roundw
        case rel => exact ⟨k + 1, A', m', c', by go_num, by omega, rfl, by rw [Hstep.out]; exact Hm, by rw [Hstep.out]; exact Hown, hu⟩
        case measure => simp [intOf]; omega
      · have hne : (e.1.toList == key.toList) = false := by
          simp only [beq_eq_false_iff_ne, ne_eq]; exact fun h => hek (ba_ext h)
        rw [if_neg hek] at hstep
        have Hstep := Lib.hid hstep
        clear hek hstep
        go_wp2_with ((at_builtin; go_must (refine append_row rfl (.tmp 23) (.tmp 29) rfl w1.heap.size _ (.slice A' m' c') (del (l.take k) key) e.1 e.2 rfl rfl (by exact own_upd Hown.out ((Upd.refl Nix _).alloc _) (fun _ _ f => f)) (Blk.new _ _ _) Hll.out (by have := Hwr.out; simp; omega) ?_; intro A2 m2 c2 w2 Hown2 hu2)))
        go_roundw
        case rel => exact ⟨k + 1, A2, m2, c2, by go_num, by omega, rfl, by rw [Hstep.out]; exact (own_len Hown2.out), by rw [Hstep.out]; exact Hown2, (hu.alloc _).ownNix hu2 Hbase.out⟩
        case measure => simp [intOf]; omega
    · obtain rfl : k = n := by omega
      have htk : l.take k = l := List.take_of_length_le (by have := Hlen.out; omega)
      have hlm : decide (m' < k) = (look l key).isSome := by
        rw [← del_less hr key, Hm.out, htk, ← Hlen.out]
      rw [htk] at Hown Hm
      have hC2 := hC.upd hu (fun f => f)
      have hk0 := hC2.cell 0
      have hk1 := hC2.cell 1
      have hf0 := hC2.frozen 0
      have hf1 := hC2.frozen 1
      simp only [List.getElem?_toArray, List.getElem?_cons_zero, List.getElem?_cons_succ] at hk0 hk1
      clear htk
      go_wp2
      have hC3 := hC2.drew
      have hg0 := hC3.cell 0
      have hg1 := hC3.cell 1
      have hh0 := hC3.frozen 0
      have hh1 := hC3.frozen 1
      simp only [List.getElem?_toArray, List.getElem?_cons_zero, List.getElem?_cons_succ] at hg0 hg1
      go_region
      all_goals
       go_wp2
       have hE := (hC2.set_ 0 (.slice A' m' c')).set_ 1 (.int .i64 most)
       have hF0 := (hC2.set_ 0 (.slice A' m' c')).cell 0
       have hE0 := hE.cell 0
       have hE1 := hE.cell 1
       simp only [List.getElem?_toArray, List.getElem?_cons_zero, List.getElem?_cons_succ, List.setIfInBounds_toArray, List.set_cons_zero, List.set_cons_succ] at hE0 hE1 hF0
       have hown9 := Hown.out
       have hblk9 := own_blk_ne hown9 hC2 (by decide)
       have huF : Upd (fun j => j = w.heap.size + 1) wr.drew ((wr.drew.setCell ⟨w.heap.size + 1, 0, none⟩ (.slice A' m' c')).setCell ⟨w.heap.size + 1, 1, none⟩ (.int .i64 most)) := (((Upd.refl (fun j => j = w.heap.size + 1) _).setCell (p := ⟨w.heap.size + 1, 0, none⟩) (fun _ => rfl) _).setCell (p := ⟨w.heap.size + 1, 1, none⟩) (fun _ => rfl) _)
       refine bodyPost_ret (v := .tuple #[.agg #[.slice A' m' c', .int .i64 most], .bool (look l key).isSome]) (by simp [results, Tryd.results16, go_sem, hE0, hE1, hF0]) rfl ⟨_, rfl, ?_, ?_⟩
       · exact own_mono (own_upd (own_upd hown9 ((Upd.refl Nix _).drew) (fun _ _ f => f)) huF (fun j hj e => hblk9 (by rw [hj, e]))) (by have := Hs1.out; omega)
       · exact ((u0.thenNix hu).drew).trans huF (fun j hj e => by omega)
end Go.Proofs.YtfalifenidpdlaaDoor
