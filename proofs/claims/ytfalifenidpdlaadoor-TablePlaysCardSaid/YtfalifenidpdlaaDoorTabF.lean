/- slices.Delete of one row; Drop. -/
import Derived.Test.YtfalifenidpdlaaDoorTabE
set_option linter.unusedVariables false
set_option linter.unusedSimpArgs false
namespace Go.Proofs.YtfalifenidpdlaaDoor
open Go Go.RowKit

theorem zeroEntry (w : World) : (zeroValue 58).run Tryd.prog w = .ok (.agg #[.string ⟨#[]⟩, .int .i64 0]) w := by kernel_rfl

set_option maxRecDepth 100000 in
theorem delete_any (w : World) (base g cap : Nat) (cur : Array Value) (l : List (ByteArray × Int)) (i : Nat)
    (hg : Blk w g 58 cur) (hbg : base ≤ g) (hn : l.length ≤ cap) (hcm : cap ≤ maxLen) (hcs : cur.size = cap * 2) (ht : cur.toList.take (l.length * 2) = flat l) (hlen : l.length ≤ 100000) (hi : i < l.length) :
    Calls Tryd.prog 23 #[.slice (some ⟨g, 0, none⟩) l.length cap, .int .i64 i, .int .i64 (i + 1)] w (InsPost w base (.slice (some ⟨g, 0, none⟩) l.length cap) (l.take i ++ l.drop (i + 1))) := by
  obtain ⟨i0, hi0, hz0, hz1, hz2⟩ := info_parts infoEntry
  generalize hN : l.length = N at *
  have HN := Lib.hid hN; clear hN
  have hcl : cur.toList.length = cap * 2 := by simpa using hcs
  obtain ⟨pr, hd, md, po, hcur, hpr, hhd, hmd⟩ : ∃ pr hd md po : List Value, cur = (pr ++ (hd ++ (md ++ po))).toArray ∧ pr.length = i * 2 ∧ hd.length = 2 ∧ md.length = (N - (i + 1)) * 2 := by
    refine ⟨cur.toList.take (i * 2), (cur.toList.drop (i * 2)).take 2, ((cur.toList.drop (i * 2)).drop 2).take ((N - (i + 1)) * 2), ((cur.toList.drop (i * 2)).drop 2).drop ((N - (i + 1)) * 2), ?_, ?_, ?_, ?_⟩
    · apply Array.ext'; simp only [List.toList_toArray, List.take_append_drop]
    · rw [List.length_take]; omega
    · rw [List.length_take, List.length_drop]; omega
    · rw [List.length_take, List.length_drop, List.length_drop]; omega
  subst hcur
  have e0 : pr ++ (hd ++ (md ++ po)) = (pr ++ hd ++ md) ++ po := by simp
  rw [List.toList_toArray, show N * 2 = (pr ++ hd ++ md).length from by simp only [List.length_append]; omega, e0, List.take_left] at ht
  have hfl1 : flat (l.take i) = pr := by rw [flat_take, ← ht, ← hpr, List.append_assoc, List.take_left]
  have hfl2 : flat (l.drop (i + 1)) = md := by rw [flat_drop, ← ht, show (i + 1) * 2 = (pr ++ hd).length from by simp only [List.length_append]; omega, List.drop_left]
  have hmdo : ∀ u ∈ md, u.oneCell' = true := by rw [← hfl2]; exact flat_one _
  simp only [List.toList_toArray] at hcl
  -- what the append leaves: the rows that moved, then as many cells as before
  obtain ⟨m1, r1, hsp, hm1⟩ : ∃ m1 r1 : List Value, hd ++ (md ++ po) = m1 ++ r1 ∧ m1.length = (N - (i + 1)) * 2 := ⟨(hd ++ (md ++ po)).take ((N - (i + 1)) * 2), (hd ++ (md ++ po)).drop ((N - (i + 1)) * 2), by rw [List.take_append_drop], by rw [List.length_take]; simp only [List.length_append]; omega⟩
  obtain ⟨z1, r2, rfl, hz1l⟩ : ∃ z1 r2 : List Value, r1 = z1 ++ r2 ∧ z1.length = 1 * 2 := ⟨r1.take 2, r1.drop 2, by rw [List.take_append_drop], by
    have := congrArg List.length hsp
    simp only [List.length_append] at this
    rw [List.length_take]; omega⟩
  have hg2 : Blk w.drew g 58 (pr ++ (hd ++ (md ++ po))).toArray := hg.drew
  have src : ∃ sa : Addr, (if cap = i + 1 then some (⟨g, 0, none⟩ : Addr) else some ⟨g, (i + 1) * 2, none⟩) = some sa ∧ ∀ j u, md[j]? = some u → w.drew.cell? (sa.add j) = some u := by
    refine ⟨if cap = i + 1 then (⟨g, 0, none⟩ : Addr) else ⟨g, (i + 1) * 2, none⟩, by split <;> rfl, fun j u h => ?_⟩
    have hj := (List.getElem?_eq_some_iff.1 h).1
    rw [if_neg (by omega), add_flat, hg2.cell, List.getElem?_toArray, List.getElem?_append_right (by omega), hpr, List.getElem?_append_right (by omega), hhd, show (i + 1) * 2 + j - i * 2 - 2 = j from by omega, List.getElem?_append_left hj]; exact h
  obtain ⟨sa, hsa, hsc⟩ := src
  obtain ⟨w3, hap, hb3, hu3⟩ := run_append_in (P := Tryd.prog) w.drew 53 53 58 i0 2 Tryd.underlying53 hi0 hz1 g i cap pr m1 (z1 ++ r2) (by have := hg2; rw [hsp] at this; exact this) hpr sa (N - (i + 1)) (cap - (i + 1)) md hmd (by rw [hm1, hmd]) hsc hmdo (by omega)
  obtain ⟨w4, hclr, hb4, hu4⟩ := run_clear_at (P := Tryd.prog) w3 53 0 58 _ 2 Tryd.underlying53 zeroEntry rfl (by intro u hu; simp [Value.cells] at hu; rcases hu with rfl | rfl <;> rfl) g (N - (i + (N - (i + 1)))) (cap - (i + (N - (i + 1)))) (pr ++ md) z1 r2 (by have := hb3; simpa using this) (by rw [hz1l]; congr 1; omega)
  have hoff : (pr ++ md).length = (i + (N - (i + 1))) * 2 := by simp only [List.length_append]; omega
  rw [hoff] at hclr
  have Hb4 := Lib.hid hb4
  have Hfl1 := Lib.hid hfl1
  have Hfl2 := Lib.hid hfl2
  have Hpr := Lib.hid hpr
  have Hmd := Lib.hid hmd
  have Hm1 := Lib.hid hm1
  have Hhd := Lib.hid hhd
  have Hz1 := Lib.hid hz1l
  have Hcl := Lib.hid hcl
  have Hsp := Lib.hid (congrArg List.length hsp)
  clear hb3 hb4 hfl1 hfl2 hpr hmd hm1 hhd hsp hg2 hmdo ht hcl hcs hg e0 hz1l hsc hoff
  have h1 : ¬ (cap = i) := by omega
  have h2 : ¬ (cap = 0) := by omega
  go_enter Tryd.func23, Tryd.ntmps23
  go_wp2
  have hic : i ≤ cap := by omega
  have hj0 : (0 : Int) ≤ (i : Int) + 1 := by omega
  have hj1 : (i : Int) + 1 ≤ (N : Int) := by omega
  have hj2 : ((i : Int) + 1).toNat = i + 1 := by omega
  go_still_tail 6, (by kernel_rfl)
  change wpList _ _ _ _ _ w.drew
  refine wpList_plain rfl fun K hK => wp_append_run (.tmp 22) (.tmp 25) 53 53 rfl hap (hK _ _ ?_)
  go_wp2
  go_ret
  have hl' : (l.take i ++ l.drop (i + 1)).length = i + (N - (i + 1)) := by
    have := HN.out
    simp only [List.length_append, List.length_take, List.length_drop]; omega
  have hfl : flat (l.take i ++ l.drop (i + 1)) = pr ++ md := by rw [flat_append, Hfl1.out, Hfl2.out]
  have e1 := Hpr.out
  have e2 := Hmd.out
  have e3 := Hm1.out
  have e4 := Hhd.out
  have e5 := Hcl.out
  have e6 := Hsp.out
  have e7 := Hz1.out
  simp only [List.length_append] at e5 e6
  refine ⟨_, rfl, ?_, ?_, .inl rfl⟩
  · rw [hl']
    refine ⟨by rw [flat_length, hl'], .inr ⟨g, cap, _, rfl, hbg, Hb4.out, by omega, hcm, ?_, ?_⟩⟩
    · have hzc : (Builtin.zeroCells (Value.agg #[.string ⟨#[]⟩, .int .i64 0]).cells (N - (i + (N - (i + 1))))).toList.length = (N - (i + (N - (i + 1)))) * 2 := by rw [Array.length_toList, size_zeroCells]; rfl
      simp only [List.length_append, List.size_toArray]
      rw [hzc]
      omega
    · rw [hfl, List.toList_toArray]
      exact List.take_left' (by simp only [List.length_append]; omega)
  · exact ((Upd.refl (fun j => some j = (Value.slice (some ⟨g, 0, none⟩) N cap).ownBlock) w).drew.trans hu3 (fun j hj e => by rw [e]; rfl)).trans hu4 (fun j hj e => by rw [e]; rfl)

theorem drop_nil (key : ByteArray) (w : World) : Calls Tryd.prog 11 #[.pointer none, .string key] w fun e w' => e = .returned (.bool false) ∧ w = w' := by
  go_enter Tryd.func11, Tryd.ntmps11
  go_wp2_with (first | (go_at_call 21; refine (find_nil _ _).mono ?_; rintro e w' ⟨rfl, rfl⟩))
  go_ret
  exact ⟨rfl, rfl⟩

theorem drop_none (key : ByteArray) (w : World) (base p : Nat) (v : Value) (l : List (ByteArray × Int)) (most : Int) (h : Tab w base p v l most) (hl : look l key = none) :
    Calls Tryd.prog 11 #[.pointer (some ⟨p, 0, none⟩), .string key] w fun e w' => e = .returned (.bool false) ∧ Upd Nix w w' := by
  have hs : (look l key).isSome = false := by rw [hl]; rfl
  have Hl := Lib.hid hl; clear hl
  go_enter Tryd.func11, Tryd.ntmps11
  go_wp2_with (first | (go_at_call 21; refine (find_any key _ base p _ l most h).mono ?_; rintro e w1 ⟨rfl, hu⟩))
  go_ret
  exact ⟨rfl, hu⟩

def DropPost (w : World) (base p : Nat) (v : Value) (l : List (ByteArray × Int)) (most : Int) (e : Ending) (w' : World) : Prop :=
  ∃ v', e = .returned (.bool true) ∧ Tab w' base p v' l most ∧ Upd (fun j => j = p ∨ some j = v.ownBlock) w w' ∧ (v'.ownBlock = v.ownBlock ∨ ∃ j, v'.ownBlock = some j ∧ w.heap.size ≤ j)

set_option maxRecDepth 100000 in
theorem drop_some (key : ByteArray) (y : Int) (w : World) (base p : Nat) (v : Value) (l : List (ByteArray × Int)) (most : Int) (h : Tab w base p v l most) (hl : look l key = some y) :
    Calls Tryd.prog 11 #[.pointer (some ⟨p, 0, none⟩), .string key] w (DropPost w base p v (del l key) most) := by
  have hown := h.own
  have hblk := h.blk
  have hr := h.rising
  have hat := some_at hr hl
  have hp := (List.getElem?_eq_some_iff.1 hat).1
  have hne := own_one_other hown hblk
  have hdel := del_eq hr hl
  have hs1 : (look l key).isSome = true := by rw [hl]; rfl
  have Hne := Lib.hid hne; clear hne
  have Hdel := Lib.hid hdel; clear hdel
  have Hl := Lib.hid hl; clear hl
  have Hat := Lib.hid hat; clear hat
  have hlen := h.len
  have hdl : (del l key).length ≤ 100000 := by rw [Hdel.out, List.length_append, List.length_take, List.length_drop]; omega
  rcases hown.2 with ⟨rfl, h0⟩ | ⟨g, cap, cur, rfl, hbg, hg, hn, hm, hs, ht⟩
  · omega
  · have hg' : Blk w g 58 cur := hg
    have Hg := Lib.hid hg'
    have Hs := Lib.hid hs
    have Ht := Lib.hid ht
    clear hg hg' hs ht
    go_enter Tryd.func11, Tryd.ntmps11
    go_wp2_with (first
      | (go_at_call 21; refine (find_any key _ base p _ l most h).mono ?_; rintro e w1 ⟨rfl, hu⟩; have hc0 := (hblk.upd hu (by simp)).cell 0; simp only [List.getElem?_toArray, List.getElem?_cons_zero] at hc0)
      | (go_at_call 23; go_must (refine (delete_any _ base g cap cur l (pos l key) (Hg.out.upd hu (by simp)) hbg hn hm Hs.out Ht.out hlen hp).mono ?_; rintro e2 w2 ⟨v2, rfl, hown2, hu2, hat2⟩; obtain ⟨A2, m2, c2, rfl, Hm2⟩ := own_slice_ hown2; have hb2 := ((hblk.upd hu (by simp)).upd hu2 (by exact fun e => Hne.out e.symm)); have hd0 := hb2.cell 0; simp only [List.getElem?_toArray, List.getElem?_cons_zero] at hd0; have hf0 := hb2.frozen 0)))
    go_ret
    rw [← Hdel.out] at hown2
    have hbp := hb2.set_ 0 (.slice A2 m2 c2)
    refine ⟨_, rfl, ⟨hbp, ?_, hr.del key, hdl, h.base⟩, ?_, ?_⟩
    · exact own_upd (F := fun j => j = p) hown2 ((Upd.refl (fun j => j = p) w2).setCell (fun _ => rfl) _) (fun k hk e => (own_blk_ne hown2 hb2 (by decide)) (by rw [hk, e]))
    · exact (((hu.nix _).trans hu2 (fun j _ e => .inr e)).setCell (fun _ => .inl rfl) _)
    · rcases hat2 with h9 | ⟨j, h9, h10⟩
      · exact .inl h9
      · exact .inr ⟨j, h9, by have := hu.size; omega⟩

def DropAll (w : World) (base p : Nat) (v : Value) (b : Bool) (l : List (ByteArray × Int)) (most : Int) (e : Ending) (w' : World) : Prop :=
  ∃ v', e = .returned (.bool b) ∧ Tab w' base p v' l most ∧ Upd (fun j => j = p ∨ some j = v.ownBlock) w w' ∧ (v'.ownBlock = v.ownBlock ∨ ∃ j, v'.ownBlock = some j ∧ w.heap.size ≤ j)
theorem drop_any (key : ByteArray) (w : World) (base p : Nat) (v : Value) (l : List (ByteArray × Int)) (most : Int) (h : Tab w base p v l most) :
    Calls Tryd.prog 11 #[.pointer (some ⟨p, 0, none⟩), .string key] w (DropAll w base p v (look l key).isSome (del l key) most) := by
  cases hl : look l key with
  | none =>
    refine (drop_none key w base p v l most h hl).mono ?_
    rintro e w' ⟨rfl, hu⟩
    rw [del_none hl]
    exact ⟨v, rfl, ⟨h.blk.upd hu (fun f => f), own_upd h.own hu (fun _ _ f => f), h.rising, h.len, h.base⟩, hu.nix _, .inl rfl⟩
  | some y => exact drop_some key y w base p v l most h hl
end Go.Proofs.YtfalifenidpdlaaDoor
