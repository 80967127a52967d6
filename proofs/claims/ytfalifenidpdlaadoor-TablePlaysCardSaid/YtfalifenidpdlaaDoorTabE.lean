/- Put. -/
import Derived.Test.YtfalifenidpdlaaDoorTabD
set_option linter.unusedVariables false
set_option linter.unusedSimpArgs false
namespace Go.Proofs.YtfalifenidpdlaaDoor
open Go Go.RowKit

theorem insert_any (w : World) (base : Nat) (v : Value) (l : List (ByteArray × Int)) (i : Nat) (gv : Nat) (k : ByteArray) (x : Int) (hown : w.ownsRow base 58 2 v l.length (flat l)) (hlen : l.length ≤ 100000)
    (hv : Blk w gv 58 #[.string k, .int .i64 x]) (hne : v.ownBlock ≠ some gv) (hb : base ≤ w.heap.size) (hi : i ≤ l.length) :
    Calls Tryd.prog 22 #[v, .int .i64 i, .slice (some ⟨gv, 0, none⟩) 1 1] w (InsPost w base v (l.take i ++ (k, x) :: l.drop i)) := by
  by_cases h : i = l.length
  · subst h
    rw [List.take_length, List.drop_length]
    exact insert_end w base v l gv k x hown hlen hv hb
  · rcases hown.2 with ⟨rfl, h0⟩ | ⟨g, cap, cur, rfl, hbg, hg, hn, hm, hs, ht⟩
    · omega
    · by_cases hr : l.length + 1 ≤ cap
      · exact insert_room w base g cap cur l i gv k x hg hbg hm hs ht hlen hv (fun e => hne (by subst e; rfl)) (by omega) hr
      · exact insert_grow w base g cap cur l i gv k x hg hbg hn hm hs ht hlen hv hb (by omega) (by omega)

theorem put_nil (key : ByteArray) (x : Int) (w : World) : Calls Tryd.prog 8 #[.pointer none, .string key, .int .i64 x] w fun e w' => e = .returned (.iface 56 (.int .i64 3)) ∧ w = w' := by
  go_enter Tryd.func8, Tryd.ntmps8
  go_wp2_with (first | (go_at_call 21; refine (find_nil _ _).mono ?_; rintro e w' ⟨rfl, rfl⟩))
  go_ret
  exact ⟨rfl, rfl⟩

def PutPost (w : World) (base p : Nat) (v : Value) (l : List (ByteArray × Int)) (most : Int) (e : Ending) (w' : World) : Prop :=
  ∃ v', e = .returned .nilIface ∧ Tab w' base p v' l most ∧ Upd (fun j => j = p ∨ some j = v.ownBlock) w w' ∧ (v'.ownBlock = v.ownBlock ∨ ∃ j, v'.ownBlock = some j ∧ w.heap.size ≤ j)

theorem put_full (key : ByteArray) (x : Int) (w : World) (base p : Nat) (v : Value) (l : List (ByteArray × Int)) (most : Int) (h : Tab w base p v l most) (hl : look l key = none) (hf : (l.length : Int) = most) :
    Calls Tryd.prog 8 #[.pointer (some ⟨p, 0, none⟩), .string key, .int .i64 x] w fun e w' => e = .returned (.iface 56 (.int .i64 180)) ∧ Upd Nix w w' := by
  obtain ⟨A, c, rfl, hc, hrows, -⟩ := own_rows h.own
  have hblk := h.blk
  have hs : (look l key).isSome = false := by rw [hl]; rfl
  have Hl := Lib.hid hl; clear hl
  have hq : ((l.length : Int) == most) = true := by simpa using hf
  have Hf := Lib.hid hf; clear hf
  go_enter Tryd.func8, Tryd.ntmps8
  go_wp2_with (first | (go_at_call 21; refine (find_any key _ base p _ l most h).mono ?_; rintro e w1 ⟨rfl, hu⟩; have hc0 := (hblk.upd hu (by simp)).cell 0; have hc1 := (hblk.upd hu (by simp)).cell 1; simp only [List.getElem?_toArray, List.getElem?_cons_zero, List.getElem?_cons_succ] at hc0 hc1))
  go_quiet (fail)
  go_wp2
  go_ret
  exact ⟨rfl, hu.drewN _⟩

theorem own_one_other {w : World} {base : Nat} {v : Value} {n : Nat} {xs : List Value} {p : Nat} {cs : Array Value} (h : w.ownsRow base 58 2 v n xs) (hb : Blk w p 55 cs) : v.ownBlock ≠ some p := own_blk_ne h hb (by decide)

set_option maxRecDepth 100000 in
theorem put_there (key : ByteArray) (x y : Int) (w : World) (base p : Nat) (v : Value) (l : List (ByteArray × Int)) (most : Int) (h : Tab w base p v l most) (hl : look l key = some y) :
    Calls Tryd.prog 8 #[.pointer (some ⟨p, 0, none⟩), .string key, .int .i64 x] w (PutPost w base p v (put l key x) most) := by
  have hown := h.own
  have hblk := h.blk
  have hat := some_at h.rising hl
  have hp := (List.getElem?_eq_some_iff.1 hat).1
  rcases hown.2 with ⟨rfl, h0⟩ | ⟨g, cap, cur, rfl, hbg, hg, hn, hm, hs, ht⟩
  · omega
  · have hg' : Blk w g 58 cur := hg
    have hgp : g ≠ p := hg'.ne_ hblk (by decide)
    have hsz : pos l key * 2 + 1 < cur.size := by omega
    have hs1 : (look l key).isSome = true := by rw [hl]; rfl
    have Hl := Lib.hid hl
    have Hat := Lib.hid hat
    have Hs := Lib.hid hs
    have Ht := Lib.hid ht
    have Hg := Lib.hid hg'
    clear hl hat hs ht hg hg'
    go_enter Tryd.func8, Tryd.ntmps8
    go_wp2_with (first | (go_at_call 21; refine (find_any key _ base p _ l most h).mono ?_; rintro e w1 ⟨rfl, hu⟩; have hc0 := (hblk.upd hu (by simp)).cell 0; simp only [List.getElem?_toArray, List.getElem?_cons_zero] at hc0; have hc2 : w1.cell? ⟨g, pos l key * 2 + 1, none⟩ = some cur[pos l key * 2 + 1] := (by rw [(Hg.out.upd hu (by simp)).cell, Array.getElem?_eq_getElem hsz]); have hf2 := (Hg.out.upd hu (by simp)).frozen (pos l key * 2 + 1)))
    go_ret
    have hb1 := Hg.out.upd hu (by simp)
    have hb2 := hb1.set_ (pos l key * 2 + 1) (.int .i64 x)
    have hlen' : (put l key x).length = l.length := by rw [put_length h.rising, hs1]; rfl
    refine ⟨.slice (some ⟨g, 0, none⟩) l.length cap, rfl, ⟨(hblk.upd hu (by simp)).far (by exact fun e => hgp e.symm) _, ?_, h.rising.put key x, by rw [hlen']; exact h.len, h.base⟩, (hu.nix _).setCell (fun _ => .inr rfl) _, .inl rfl⟩
    rw [hlen']
    refine ⟨by rw [flat_length, hlen'], .inr ⟨g, cap, _, rfl, hbg, hb2, hn, hm, by rw [Array.size_setIfInBounds]; exact Hs.out, ?_⟩⟩
    have hpl := pos_le l key
    have e1 : flat (put l key x) = (flat l).set (pos l key * 2 + 1) (.int .i64 x) := by
      unfold put
      rw [hs1, if_pos rfl, flat_append, flat_cons, flat_take, flat_drop]
      have hk := flat_key l (pos l key) _ Hat.out
      have hL := flat_length l
      have hlt : pos l key * 2 < (flat l).length := by omega
      have hlt2 : pos l key * 2 + 1 < (flat l).length := by omega
      conv => rhs; rw [← List.take_append_drop (pos l key * 2) (flat l), List.drop_eq_getElem_cons hlt, List.drop_eq_getElem_cons hlt2]
      rw [List.getElem?_eq_getElem hlt] at hk
      rw [Option.some.inj hk.1]
      rw [List.set_append_right _ _ (by rw [List.length_take]; omega), List.length_take, Nat.min_eq_left (by omega), Nat.add_sub_cancel_left]
      simp [show (pos l key + 1) * 2 = pos l key * 2 + 2 from by omega]
      exact (by rw [List.drop_eq_getElem_cons hlt2, List.set_cons_zero] : _ = (List.drop (pos l key * 2 + 1) (flat l)).set 0 (Value.int IntKind.i64 x))
    rw [e1, ← Ht.out, Array.toList_setIfInBounds, List.take_set]

set_option maxRecDepth 100000 in
theorem put_new (key : ByteArray) (x : Int) (w : World) (base p : Nat) (v : Value) (l : List (ByteArray × Int)) (most : Int) (h : Tab w base p v l most) (hl : look l key = none) (hf : (l.length : Int) ≠ most) (hlen : l.length < 100000) :
    Calls Tryd.prog 8 #[.pointer (some ⟨p, 0, none⟩), .string key, .int .i64 x] w (PutPost w base p v (put l key x) most) := by
  have hown := h.own
  have hblk := h.blk
  have hpb := hblk.lt
  have hbase : base ≤ w.heap.size := Nat.le_trans h.base (Nat.le_of_lt hpb)
  have hr := h.rising
  have hpl := pos_le l key
  have hne := own_one_other hown hblk
  obtain ⟨A, c, rfl, hc, hrows, -⟩ := own_rows hown
  have hs : (look l key).isSome = false := by rw [hl]; rfl
  have hput : put l key x = l.take (pos l key) ++ (key, x) :: l.drop (pos l key) := by unfold put; rw [hs]; rfl
  have hlen' : (put l key x).length = l.length + 1 := by rw [put_length hr, hs]; rfl
  have Hl := Lib.hid hl; clear hl
  have hq : ((l.length : Int) == most) = false := by simpa using hf
  have Hf := Lib.hid hf; clear hf
  have Hput := Lib.hid hput; clear hput
  have Hlen' := Lib.hid hlen'; clear hlen'
  have Hne := Lib.hid hne; clear hne
  go_enter Tryd.func8, Tryd.ntmps8
  go_wp2_with (first | (go_at_call 21; refine (find_any key _ base p _ l most h).mono ?_; rintro e w1 ⟨rfl, hu⟩; have hc0 := (hblk.upd hu (by simp)).cell 0; have hc1 := (hblk.upd hu (by simp)).cell 1; simp only [List.getElem?_toArray, List.getElem?_cons_zero, List.getElem?_cons_succ] at hc0 hc1))
  go_quiet (fail)
  have hc0' := hc0; have hc1' := hc1
  go_wp2_with ((go_at_call 22; go_must (refine (insert_any _ base _ l (pos l key) _ key x (by exact own_upd h.own (((hu.drewN _)).alloc _) (by simp)) h.len (Blk.new _ _ _) (by exact fun e => by have h8 := own_lt h.own _ e; have h9 := hu.size; simp at h8 h9; omega) (by have h9 := hu.size; simp; omega) hpl).mono ?_; rintro e2 w2 ⟨v2, rfl, hown2, hu2, hat2⟩; obtain ⟨A2, m2, c2, rfl, Hm2⟩ := own_slice_ hown2; have hb2 := ((((hblk.upd hu (by simp)).drewN nq).alloc (.cells #[.string key, .int .i64 x] 58)).upd hu2 (by exact fun e => Hne.out e.symm)); have hd0 := hb2.cell 0; simp only [List.getElem?_toArray, List.getElem?_cons_zero] at hd0; have hf0 := hb2.frozen 0)))
  go_ret
  rw [← Hput.out] at hown2
  have hbp := hb2.set_ 0 (.slice A2 m2 c2)
  refine ⟨_, rfl, ⟨hbp, ?_, hr.put key x, by rw [Hlen'.out]; omega, h.base⟩, ?_, ?_⟩
  · exact own_upd (F := fun j => j = p) hown2 ((Upd.refl (fun j => j = p) w2).setCell (fun _ => rfl) _) (fun k hk e => (own_blk_ne hown2 hb2 (by decide)) (by rw [hk, e]))
  · exact (((((hu.drewN nq).alloc _).nix _).trans hu2 (fun j _ e => .inr e)).setCell (fun _ => .inl rfl) _)
  · rcases hat2 with h9 | ⟨j, h9, h10⟩
    · exact .inl h9
    · refine .inr ⟨j, h9, ?_⟩
      have h11 := hu.size
      simp at h10; omega
end Go.Proofs.YtfalifenidpdlaaDoor
