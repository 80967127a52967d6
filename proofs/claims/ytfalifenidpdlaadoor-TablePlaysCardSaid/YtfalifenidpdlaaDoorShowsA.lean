/- 'shows': a table shows what the document's does. -/
import Derived.Test.YtfalifenidpdlaaDoorTabL
import Derived.Test.YtfalifenidpdlaaDoorRefC
set_option linter.unusedVariables false
set_option linter.unusedSimpArgs false
namespace Go.Proofs.YtfalifenidpdlaaDoor
open Go Go.RowKit Go.Shelf
attribute [local go_sem] Oper.semAt_some

theorem run_eql_func (fn : Fn) (a b : Array Value) (w : World) : (binOp .eql 48 (.func fn a b) .nilFunc).run Tryd.prog w = .ok (.bool false) w := by kernel_rfl

/-- Between two rounds; behind a round that has left. -/
def SI (W0 : World) (Bn : Nat) (l : List (ByteArray × Int)) (pre : List (ByteArray × Int)) (W : World) : Prop := pre <+: l ∧ Blk W Bn 3 #[.int .i64 pre.length] ∧ Upd (fun k => k = Bn) W0 W
def SX (W0 : World) (Bn : Nat) (l : List (ByteArray × Int)) (id : Option Nat) (c : Code) (pre : List (ByteArray × Int)) (W : World) : Prop := ¬ pre <+: l ∨ (∃ i, id = some i ∧ c = .exit i ∧ Upd (fun k => k = Bn) W0 W)
theorem upd_from {F : Nat → Prop} {W0 A B : World} {row : Option Nat} (h : Upd F W0 A) (hg : A.grownBy B row) (hr : ∀ r, row = some r → W0.heap.size ≤ r ∧ ∃ o : Obj, A.heap[r]? = some o ∧ o.isCells = false) : Upd F W0 B :=
  h.grown hg (fun k e hk => by have := (hr k e).1; omega)
theorem si_from {W0 : World} {Bn : Nat} {l : List (ByteArray × Int)} (hn : Bn < W0.heap.size) : OwnFrom W0.heap.size (SI W0 Bn l) := fun s A B row hs hg hr =>
  ⟨hs.1, (hg.block Bn hs.2.1.lt (fun e => by have := (hr Bn e.symm).1; omega)).trans hs.2.1, upd_from hs.2.2 hg hr⟩
theorem sx_from {W0 : World} {Bn : Nat} {l : List (ByteArray × Int)} {id : Option Nat} (c : Code) : OwnFrom W0.heap.size (SX W0 Bn l id c) := fun s A B row hs hg hr =>
  hs.imp (fun h => h) (fun ⟨i, e1, e2, hu⟩ => ⟨i, e1, e2, upd_from hu hg hr⟩)
theorem prefix_at {l pre : List (ByteArray × Int)} {x : ByteArray × Int} (h : pre <+: l) (hx : l[pre.length]? = some x) : pre ++ [x] <+: l := by
  obtain ⟨r, rfl⟩ := h
  rw [List.getElem?_append_right (Nat.le_refl _), Nat.sub_self] at hx
  cases r with
  | nil => simp at hx
  | cons y r => simp at hx; subst hx; exact ⟨r, by simp⟩
theorem prefix_not {l pre : List (ByteArray × Int)} {x e : ByteArray × Int} (he : l[pre.length]? = some e) (hne : e ≠ x) : ¬ pre ++ [x] <+: l := by
  rintro ⟨r, rfl⟩
  rw [List.append_assoc, List.getElem?_append_right (Nat.le_refl _), Nat.sub_self] at he
  simp at he
  exact hne he.symm

/-- A function leaves with marks alone among its deferred calls: each is shut, no call is handed over. -/
theorem leaves_marks {F : Fence} {n : Nat} {P : Program} {fn : Func} {tmps : Array Value} {R : Ending → World → Prop} : ∀ (Ds : List Nat) (W : World), Ds.Nodup → (∀ D, D ∈ Ds → W.heap[D]? = some (.deferred (some []))) →
    (∀ W', Upd (fun k => k ∈ Ds) W W' → LeavesInM F n P fn tmps R [] .returning W') → LeavesInM F n P fn tmps R (Ds.map fun D => { target := .collected D, args := #[] }) .returning W := by
  intro Ds
  induction Ds with
  | nil => exact fun W _ _ h => h W (Upd.refl _ W)
  | cons D Ds ih =>
    intro W hn hD h
    have hn' := List.nodup_cons.1 hn
    refine ⟨by simp, .inl ⟨D, _, rfl, run_takeDeferred (hD D List.mem_cons_self), ih (W.putObj D (.deferred none)) hn'.2 (fun E hE => ?_) (fun W' hu => h W' ?_)⟩⟩
    · rw [World.putObj_heap_other (fun e => hn'.1 (by subst e; exact hE))]
      exact hD E (List.mem_cons_of_mem _ hE)
    · exact ((Upd.refl (fun k => k ∈ D :: Ds) W).grown (grownBy_putObj' W D (.deferred none)) (fun k hk _ => by cases hk; exact List.mem_cons_self)).trans hu (fun k _ hk => List.mem_cons_of_mem _ hk)

set_option maxRecDepth 100000 in
set_option maxHeartbeats 4000000 in
theorem shows_any (w : World) (base p : Nat) (v : Value) (l : List (ByteArray × Int)) (most stop : Int) (h : Tab w base p v l most) (h0 : 0 ≤ most) (h1 : most ≤ 9223372036854775807) (AL : Option Addr) (n cL : Nat) (hl : RowsAt w AL n l) (hlow : ∀ ad, AL = some ad → ad.block < w.heap.size) :
    Calls Tryd.prog 19 #[.pointer (some ⟨p, 0, none⟩), .agg #[.slice AL n cL, .int .i64 most], .int .i64 stop] w fun e w' => e = .returned (.bool true) ∧ Upd Nix w w' := by
  have Hlen := Lib.hid hl.1
  have hn100 : n ≤ 100000 := by rw [← hl.1]; exact h.len
  have hfn := run_eql_func
  obtain ⟨w3, hw3⟩ : ∃ w3, w3 = (((w.alloc (.cells #[.slice AL n cL, .int .i64 most] 38)).alloc (.cells #[.int .i64 stop] 3)).alloc (.cells #[.bool false] 4)) := ⟨_, rfl⟩
  have hBm : Blk w3 w.heap.size 38 #[.slice AL n cL, .int .i64 most] := by rw [hw3]; exact ((Blk.new _ _ _).alloc _).alloc _
  have hBs : Blk w3 (w.heap.size + 1) 3 #[.int .i64 stop] := by
    have := (Blk.new (w.alloc (.cells #[.slice AL n cL, .int .i64 most] 38)) 3 #[.int .i64 stop]).alloc (.cells #[.bool false] 4)
    rw [World.size_alloc] at this; rw [hw3]; exact this
  have hBr : Blk w3 (w.heap.size + 2) 4 #[.bool false] := by
    have := Blk.new ((w.alloc (.cells #[.slice AL n cL, .int .i64 most] 38)).alloc (.cells #[.int .i64 stop] 3)) 4 #[.bool false]
    rw [World.size_alloc, World.size_alloc] at this; rw [hw3]; exact this
  have u3 : Upd Nix w w3 := by rw [hw3]; exact (((Upd.refl _ _).alloc _).alloc _).alloc _
  have hs3 : w3.heap.size = w.heap.size + 3 := by rw [hw3]; simp
  have Hs3 := Lib.hid hs3; clear hs3
  have hT := h.nix u3
  have hl3 := hl.upd u3 (fun _ _ f => f)
  have hc0 := hBm.cell 0
  have hc1 := hBm.cell 1
  simp only [List.getElem?_toArray, List.getElem?_cons_zero, List.getElem?_cons_succ] at hc0 hc1
  have hw : IntKind.i64.wrap (most - n) = most - n := IntWalk.i64_in _ (by omega)
  have Hw3 := Lib.hid hw3; clear hw3
  refine callsIn_wide.1 (callsIn_of_wp_marks (n := 3) Tryd.func19 rfl trivial ?_ rfl)
  simp only [Tryd.ntmps19, List.size_toArray, List.length_cons, List.length_nil, Nat.reduceAdd, Nat.reduceSub, Array.replicate_succ, Array.replicate_zero, List.push_toArray, List.append_toArray, List.nil_append, List.cons_append]
  refine wpIn_wide.2 ?_
  go_wp2
  rw [← Hw3.out]
  have hlnn := Hlen.out
  go_quiet ((first | (go_at_call 10; exact Calls.quiet_of_same ((len_any _ base p v l most (hT.nix ((Upd.refl Nix _).drewN _))).mono fun e w' h => ⟨by rw [hlnn] at h; exact h.1, h.2.symm⟩)) | (go_at_call 20; refine Calls.quiet_of ((room_any _ base p v l most (hT.nix ((Upd.refl Nix _).drewN _)) h0 h1).mono fun e w' h => ⟨by rw [hlnn] at h; exact h.1, h.2⟩))))
  go_wp2_with ((go_at_call 18; go_must (refine (all_any _ base p v l most (hT.nix ((Upd.refl Nix _).drewN _))).mono ?_; rintro e w4 ⟨B, v4, rfl, hB, hown4, u4, hBw⟩)))
  obtain ⟨W0, hW0⟩ : ∃ W0, W0 = (w4.alloc (.cells #[.int .i64 0] 3)).alloc (.cells #[.int .i64 0] 3) := ⟨_, rfl⟩
  have uw : Upd Nix w3 W0 := by rw [hW0]; exact ((((Upd.refl Nix w3).drewN _).thenNix u4).alloc _).alloc _
  have uw4 : Upd Nix w4 W0 := by rw [hW0]; exact ((Upd.refl _ _).alloc _).alloc _
  have s4 : w.heap.size + 3 ≤ w4.heap.size := by have := u4.size; have h9 := Hs3.out; simp at this; omega
  have hs0 : W0.heap.size = w4.heap.size + 2 := by rw [hW0]; simp
  have hBt0 : Blk W0 w4.heap.size 3 #[.int .i64 0] := by rw [hW0]; exact (Blk.new _ _ _).alloc _
  have hBn0 : Blk W0 (w4.heap.size + 1) 3 #[.int .i64 0] := by
    have := Blk.new (w4.alloc (.cells #[.int .i64 0] 3)) 3 #[.int .i64 0]
    rw [World.size_alloc] at this; rw [hW0]; exact this
  have HW0 := Lib.hid hW0; clear hW0
  have Hs0 := Lib.hid hs0; clear hs0
  have hll : l.length ≤ 100000 := h.len
  have Hll := Lib.hid hll; clear hll
  have hBmX := hBm.upd uw (fun f => f)
  have hBsX := hBs.upd uw (fun f => f)
  have hBrX := hBr.upd uw (fun f => f)
  have hBtX := hBt0
  have hlX := hl3.upd uw (fun _ _ f => f)
  have hlb : ∀ ad, AL = some ad → ad.block < w.heap.size := fun ad had => hlow ad had
  refine wp_loop_rounds 3 ?_
  rw [rounds_succ]
  go_wp2
  rw [← HW0.out]
  refine (wpIn_wide (n := 3)).1 (wpIn_rangeFunc_ownG rfl (by omega) (gf := 27) (lb := #[.pointer (some ⟨B, 0, none⟩)]) rfl trivial (enters_of Tryd.func27 (by kernel_rfl) rfl)
    (all_stops (3 - 1) (by omega) B w4.heap.size _ v4 l Hll.out W0 (hB.upd uw4 (fun f => f)) (own_upd hown4 uw4 (fun _ _ f => f)) hB.lt (fun k hk => (hown4.lt k hk).2) uw4.size) belowK_t (belowK_b uw4.size) (Below.refl _ _) (fun _ => rfl)
    (SI W0 (w4.heap.size + 1) l) (SX W0 (w4.heap.size + 1) l (some 2))
    (si_from (by have := Hs0.out; omega)) (fun c => sx_from c) ⟨List.nil_prefix, hBn0, Upd.refl _ _⟩
    ?act ?assign ?body ?done ?stop)
  case assign =>
    intro l' x W K hK
    gi_wp2
    exact hK
  case body =>
    rintro l' pre x W ⟨hpre, hbn, hu⟩ hlt
    have ne0 : ∀ j, j < W0.heap.size → j ≠ (w4.heap.size + 1) → ¬ (j = (w4.heap.size + 1)) := fun _ _ h => h
    have hbm := hBmX.upd hu (by omega)
    have hbs := hBsX.upd hu (by omega)
    have hbr := hBrX.upd hu (by omega)
    have hbt := hBtX.upd hu (by omega)
    have hlW := hlX.upd hu (fun ad had e => by have := hlb ad had; omega)
    have hm0 := hbm.cell 0
    have hm1 := hbm.cell 1
    have hst0 := hbs.cell 0
    have hr0 := hbr.cell 0
    have hrf := hbr.frozen 0
    have ht0 := hbt.cell 0
    have hn0 := hbn.cell 0
    have hnf := hbn.frozen 0
    simp only [List.getElem?_toArray, List.getElem?_cons_zero, List.getElem?_cons_succ] at hm0 hm1 hst0 hr0 ht0 hn0
    have hltn : pre.length < n := by have := Hlen.out; omega
    obtain ⟨ad, e, rfl, hle, hx0, hx1⟩ := hlW.get hltn
    have hi0 : (0 : Int) ≤ (pre.length : Int) := by omega
    have hi1 : (pre.length : Int) < (n : Int) := by omega
    have hd1 : decide ((n : Int) ≤ (pre.length : Int)) = false := by simp; omega
    have hwr : IntKind.i64.wrap ((pre.length : Int) + 1) = (pre.length : Int) + 1 := IntWalk.i64_in _ (by have := Hlen.out; omega)
    have HI := Lib.hid hpre; clear hpre
    have Hle := Lib.hid hle; clear hle
    by_cases hk : e.1 = x.1
    · have hq1 : (e.1.toList == x.1.toList) = true := by rw [hk]; simp
      have hq1' : (e.1.toList != x.1.toList) = false := by rw [hk]; simp
      by_cases hv : e.2 = x.2
      · have hq2 : (e.2 == x.2) = true := by simpa using hv
        have hq2' : (e.2 != x.2) = false := by simpa using hv
        have hex : e = x := by cases e; cases x; simp_all
        have Hp := Lib.hid (prefix_at HI.out (by rw [Hle.out, hex]))
        have huN := (hu.setCell (p := ⟨(w4.heap.size + 1), 0, none⟩) (fun _ => rfl) (.int .i64 (pre.length + 1)))
        have hbN := hbn.set_ 0 (.int .i64 (pre.length + 1))
        clear hex hk hv
        by_cases hst : stop < (pre.length : Int) + 1
        · have hd2 : decide (stop < (pre.length : Int) + 1) = true := by simpa using hst
          gi_wp2
          exact ⟨(KeepsOthers.setCell _ _ _).from _, .inr ⟨2, rfl, rfl, huN⟩⟩
        · have hd2 : decide (stop < (pre.length : Int) + 1) = false := by simpa using hst
          gi_wp2
          exact ⟨(KeepsOthers.setCell _ _ _).from _, (Below.refl _ _).setCell (p := ⟨w4.heap.size + 1, 0, none⟩) (by show w4.heap.size ≤ w4.heap.size + 1; omega) _, Hp.out, by rw [List.length_append]; exact hbN, huN⟩
      · have hq2 : (e.2 == x.2) = false := by simpa using hv
        have hq2' : (e.2 != x.2) = true := by simpa using hv
        have Hp := Lib.hid (prefix_not Hle.out (fun h => hv (by rw [h])))
        clear hk hv
        gi_wp2
        exact ⟨(KeepsOthers.setCell _ _ _).from _, .inl Hp.out⟩
    · have hq1 : (e.1.toList == x.1.toList) = false := by simp only [beq_eq_false_iff_ne, ne_eq]; exact fun h => hk (ba_ext h)
      have hq1' : (e.1.toList != x.1.toList) = true := by simp only [bne_iff_ne, ne_eq]; exact fun h => hk (ba_ext h)
      have Hp := Lib.hid (prefix_not Hle.out (fun h => hk (by rw [h])))
      clear hk
      gi_wp2
      exact ⟨(KeepsOthers.setCell _ _ _).from _, .inl Hp.out⟩
  case done =>
    rintro D ys W hD hys hI hK
    clear hys
    have hu := hI.2.2
    clear hI
    have hbm := hBmX.upd hu (by omega)
    have hbs := hBsX.upd hu (by omega)
    have hbr := hBrX.upd hu (by omega)
    have hbt := hBtX.upd hu (by omega)
    have hlW := hlX.upd hu (fun ad had e => by have := hlb ad had; omega)
    have ht0 := hbt.cell 0
    simp only [List.getElem?_toArray, List.getElem?_cons_zero, List.getElem?_cons_succ] at ht0
    have Hu := Lib.hid hu; clear hu
    have HK := Lib.hid hK; clear hK
    go_wp2
    try rw [rounds_succ]
    go_wp2
    obtain ⟨W1, hW1⟩ : ∃ W1, W1 = (W.alloc (.cells #[.int .i64 1] 3)).alloc (.cells #[.int .i64 0] 3) := ⟨_, rfl⟩
    rw [← hW1]
    have uW1 : Upd Nix W W1 := by rw [hW1]; exact ((Upd.refl _ _).alloc _).alloc _
    have s1 : w4.heap.size + 2 ≤ W.heap.size := by have := Hu.out.size; have h9 := Hs0.out; omega
    have hs1 : W1.heap.size = W.heap.size + 2 := by rw [hW1]; simp
    have hBt1 : Blk W1 W.heap.size 3 #[.int .i64 1] := by rw [hW1]; exact (Blk.new _ _ _).alloc _
    have hBn1 : Blk W1 (W.heap.size + 1) 3 #[.int .i64 0] := by
      have := Blk.new (W.alloc (.cells #[.int .i64 1] 3)) 3 #[.int .i64 0]
      rw [World.size_alloc] at this; rw [hW1]; exact this
    have HW1 := Lib.hid hW1; clear hW1
    have Hs1 := Lib.hid hs1; clear hs1
    have gBm := hbm.upd uW1 (fun f => f)
    have gBs := hbs.upd uW1 (fun f => f)
    have gBr := hbr.upd uW1 (fun f => f)
    have gl := hlW.upd uW1 (fun _ _ f => f)
    have u41 : Upd (fun k => k = w4.heap.size + 1) w4 W1 := ((uw4.nix (fun k => k = w4.heap.size + 1)).trans Hu.out (fun _ _ h => h)).thenNix uW1
    refine (wpIn_wide (n := 3)).1 (wpIn_rangeFunc_ownG rfl (by omega) (gf := 27) (lb := #[.pointer (some ⟨B, 0, none⟩)]) rfl trivial (enters_of Tryd.func27 (by kernel_rfl) rfl)
      (all_stops (3 - 1) (by omega) B W.heap.size _ v4 l Hll.out W1 (hB.upd u41 (by have := hB.lt; omega)) (own_upd hown4 u41 (fun k hk e => by have := (hown4.lt k hk).2; omega)) (by have := hB.lt; omega) (fun k hk => by have := (hown4.lt k hk).2; omega) uW1.size) belowK_t (belowK_b uW1.size) (Below.refl _ _) (fun _ => rfl)
      (SI W1 (W.heap.size + 1) l) (SX W1 (W.heap.size + 1) l none)
      (si_from (by have := Hs1.out; omega)) (fun c => sx_from c) ⟨List.nil_prefix, hBn1, Upd.refl _ _⟩
      ?act2 ?assign2 ?body2 ?done2 ?stop2)
    case assign2 =>
      intro l' x W2 K hK
      gi_wp2
      exact hK
    case body2 =>
      rintro l' pre x W2 ⟨hpre, hbn, hu⟩ hlt
      have hbm2 := gBm.upd hu (by omega)
      have hbs2 := gBs.upd hu (by omega)
      have hbr2 := gBr.upd hu (by omega)
      have hbt2 := hBt1.upd hu (by omega)
      have hlW2 := gl.upd hu (fun ad had e => by have := hlb ad had; omega)
      have hm0 := hbm2.cell 0
      have hm1 := hbm2.cell 1
      have hst0 := hbs2.cell 0
      have hr0 := hbr2.cell 0
      have hrf := hbr2.frozen 0
      have ht02 := hbt2.cell 0
      have hn0 := hbn.cell 0
      have hnf := hbn.frozen 0
      simp only [List.getElem?_toArray, List.getElem?_cons_zero, List.getElem?_cons_succ] at hm0 hm1 hst0 hr0 ht02 hn0
      have hltn : pre.length < n := by have := Hlen.out; omega
      obtain ⟨ad, e, rfl, hle, hx0, hx1⟩ := hlW2.get hltn
      have hi0 : (0 : Int) ≤ (pre.length : Int) := by omega
      have hi1 : (pre.length : Int) < (n : Int) := by omega
      have hd1 : decide ((n : Int) ≤ (pre.length : Int)) = false := by simp; omega
      have hwr : IntKind.i64.wrap ((pre.length : Int) + 1) = (pre.length : Int) + 1 := IntWalk.i64_in _ (by have := Hlen.out; omega)
      have HI := Lib.hid hpre; clear hpre
      have Hle := Lib.hid hle; clear hle
      by_cases hk : e.1 = x.1
      · have hq1 : (e.1.toList == x.1.toList) = true := by rw [hk]; simp
        have hq1' : (e.1.toList != x.1.toList) = false := by rw [hk]; simp
        by_cases hv : e.2 = x.2
        · have hq2 : (e.2 == x.2) = true := by simpa using hv
          have hq2' : (e.2 != x.2) = false := by simpa using hv
          have hex : e = x := by cases e; cases x; simp_all
          have Hp := Lib.hid (prefix_at HI.out (by rw [Hle.out, hex]))
          have huN := (hu.setCell (p := ⟨(W.heap.size + 1), 0, none⟩) (fun _ => rfl) (.int .i64 (pre.length + 1)))
          have hbN := hbn.set_ 0 (.int .i64 (pre.length + 1))
          clear hex hk hv
          gi_wp2
          exact ⟨(KeepsOthers.setCell _ _ _).from _, (Below.refl _ _).setCell (p := ⟨W.heap.size + 1, 0, none⟩) (by show W.heap.size ≤ W.heap.size + 1; omega) _, Hp.out, by rw [List.length_append]; exact hbN, huN⟩
        · have hq2 : (e.2 == x.2) = false := by simpa using hv
          have hq2' : (e.2 != x.2) = true := by simpa using hv
          have Hp := Lib.hid (prefix_not Hle.out (fun h => hv (by rw [h])))
          clear hk hv
          gi_wp2
          exact ⟨(KeepsOthers.setCell _ _ _).from _, .inl Hp.out⟩
      · have hq1 : (e.1.toList == x.1.toList) = false := by simp only [beq_eq_false_iff_ne, ne_eq]; exact fun h => hk (ba_ext h)
        have hq1' : (e.1.toList != x.1.toList) = true := by simp only [bne_iff_ne, ne_eq]; exact fun h => hk (ba_ext h)
        have Hp := Lib.hid (prefix_not Hle.out (fun h => hk (by rw [h])))
        clear hk
        gi_wp2
        exact ⟨(KeepsOthers.setCell _ _ _).from _, .inl Hp.out⟩
    case stop2 =>
      rintro D2 c pre W2 hD2 ⟨k, hk, rfl⟩ hX hK2
      rcases hX with hX | ⟨i, e1, _⟩
      · exact absurd (List.take_prefix _ _) hX
      · cases e1
    case done2 =>
      rintro D2 ys2 W2 hD2 rfl ⟨_, hbn, hu⟩ hK2
      have hbm2 := gBm.upd hu (by omega)
      have hbs2 := gBs.upd hu (by omega)
      have hbr2 := gBr.upd hu (by omega)
      have hbt2 := hBt1.upd hu (by omega)
      have hm0 := hbm2.cell 0
      have hr0 := (hbr2.alloc (.cells #[.int .i64 2] 3)).cell 0
      have hrf := (hbr2.alloc (.cells #[.int .i64 2] 3)).frozen 0
      have ht02 := hbt2.cell 0
      have hn0 := hbn.cell 0
      simp only [List.getElem?_toArray, List.getElem?_cons_zero, List.getElem?_cons_succ] at hm0 hr0 ht02 hn0
      rw [hlnn] at hn0
      have Hu2 := Lib.hid hu; clear hu
      have HK2 := Lib.hid hK2; clear hK2
      go_wp2
      try rw [rounds_succ]
      go_wp2
      have hDW : D < W.heap.size := (Array.getElem?_eq_some_iff.1 HK.out).1
      have hD2W : D2 < W2.heap.size := (Array.getElem?_eq_some_iff.1 HK2.out).1
      have hsW := Hu2.out.size
      have uF : Upd (fun k => k = W.heap.size + 1) W W2 := (uW1.nix _).trans Hu2.out (fun _ _ h => h)
      have hKD : W2.heap[D]? = some (.deferred (some [])) := (uF.block D hDW (by omega)).trans HK.out
      have hne : D2 ≠ D := by have := Hs1.out; omega
      have h40 := Hs0.out
      have h41 := Hs1.out
      have hgo : ∀ E, E < W2.heap.size → E ≠ w.heap.size + 1 + 1 → W2.heap[E]? = some (.deferred (some [])) → ((W2.alloc (.cells #[.int .i64 2] 3)).setCell ⟨w.heap.size + 1 + 1, 0, none⟩ (.bool true)).heap[E]? = some (.deferred (some [])) := fun E hE hne' h => by
        rw [Below.heap_setCell _ ⟨w.heap.size + 1 + 1, 0, none⟩ _ E hne', Below.heap_alloc W2 _ E hE, h]
      refine leaves_marks [D2, D] _ (by simp [hne]) (fun E hE => ?_) (fun W' hu' => ?_)
      · simp only [List.mem_cons, List.not_mem_nil, or_false] at hE
        rcases hE with rfl | rfl
        · exact hgo _ hD2W (by omega) HK2.out
        · exact hgo _ (by omega) (by omega) hKD
      · have hc5 := hu'.cell (World.cell?_setCell_same' (W2.alloc (.cells #[.int .i64 2] 3)) ⟨w.heap.size + 1 + 1, 0, none⟩ (.bool true) (by rw [hr0]; rfl)) (by simp only [List.mem_cons, List.not_mem_nil, or_false]; omega)
        have U1 : Upd Nix w W := (u3.thenNix uw).trans Hu.out (fun k hk e => (by omega : False).elim)
        have U2 : Upd Nix w W2 := (U1.thenNix uW1).trans Hu2.out (fun k hk e => (by omega : False).elim)
        refine ⟨.bool true, ?_, rfl, ?_⟩
        · simp [results, Tryd.f19, go_sem, hc5]
        · exact ((U2.alloc _).setCell (fun h => (by have h2 : w.heap.size + 1 + 1 < w.heap.size := h; omega : False).elim) _).trans hu' (fun k hk hm => by simp only [List.mem_cons, List.not_mem_nil, or_false] at hm; exact (by omega : False).elim)

  case stop =>
    rintro D c pre W hD ⟨k, hk, rfl⟩ hX hK
    rcases hX with hX | ⟨i, e1, rfl, huX⟩
    · exact absurd (List.take_prefix _ _) hX
    · cases e1
      have hu := huX
      clear huX
      refine wpIn_wide.2 ?_
      have hbm := hBmX.upd hu (by omega)
      have hbs := hBsX.upd hu (by omega)
      have hbr := hBrX.upd hu (by omega)
      have hbt := hBtX.upd hu (by omega)
      have hlW := hlX.upd hu (fun ad had e => by have := hlb ad had; omega)
      have ht0 := hbt.cell 0
      simp only [List.getElem?_toArray, List.getElem?_cons_zero, List.getElem?_cons_succ] at ht0
      have Hu := Lib.hid hu; clear hu
      have HK := Lib.hid hK; clear hK
      go_wp2
      try rw [rounds_succ]
      go_wp2
      obtain ⟨W1, hW1⟩ : ∃ W1, W1 = (W.alloc (.cells #[.int .i64 1] 3)).alloc (.cells #[.int .i64 0] 3) := ⟨_, rfl⟩
      rw [← hW1]
      have uW1 : Upd Nix W W1 := by rw [hW1]; exact ((Upd.refl _ _).alloc _).alloc _
      have s1 : w4.heap.size + 2 ≤ W.heap.size := by have := Hu.out.size; have h9 := Hs0.out; omega
      have hs1 : W1.heap.size = W.heap.size + 2 := by rw [hW1]; simp
      have hBt1 : Blk W1 W.heap.size 3 #[.int .i64 1] := by rw [hW1]; exact (Blk.new _ _ _).alloc _
      have hBn1 : Blk W1 (W.heap.size + 1) 3 #[.int .i64 0] := by
        have := Blk.new (W.alloc (.cells #[.int .i64 1] 3)) 3 #[.int .i64 0]
        rw [World.size_alloc] at this; rw [hW1]; exact this
      have HW1 := Lib.hid hW1; clear hW1
      have Hs1 := Lib.hid hs1; clear hs1
      have gBm := hbm.upd uW1 (fun f => f)
      have gBs := hbs.upd uW1 (fun f => f)
      have gBr := hbr.upd uW1 (fun f => f)
      have gl := hlW.upd uW1 (fun _ _ f => f)
      have u41 : Upd (fun k => k = w4.heap.size + 1) w4 W1 := ((uw4.nix (fun k => k = w4.heap.size + 1)).trans Hu.out (fun _ _ h => h)).thenNix uW1
      refine (wpIn_wide (n := 3)).1 (wpIn_rangeFunc_ownG rfl (by omega) (gf := 27) (lb := #[.pointer (some ⟨B, 0, none⟩)]) rfl trivial (enters_of Tryd.func27 (by kernel_rfl) rfl)
        (all_stops (3 - 1) (by omega) B W.heap.size _ v4 l Hll.out W1 (hB.upd u41 (by have := hB.lt; omega)) (own_upd hown4 u41 (fun k hk e => by have := (hown4.lt k hk).2; omega)) (by have := hB.lt; omega) (fun k hk => by have := (hown4.lt k hk).2; omega) uW1.size) belowK_t (belowK_b uW1.size) (Below.refl _ _) (fun _ => rfl)
        (SI W1 (W.heap.size + 1) l) (SX W1 (W.heap.size + 1) l none)
        (si_from (by have := Hs1.out; omega)) (fun c => sx_from c) ⟨List.nil_prefix, hBn1, Upd.refl _ _⟩
        ?act3 ?assign3 ?body3 ?done3 ?stop3)
      case assign3 =>
        intro l' x W2 K hK
        gi_wp2
        exact hK
      case body3 =>
        rintro l' pre x W2 ⟨hpre, hbn, hu⟩ hlt
        have hbm2 := gBm.upd hu (by omega)
        have hbs2 := gBs.upd hu (by omega)
        have hbr2 := gBr.upd hu (by omega)
        have hbt2 := hBt1.upd hu (by omega)
        have hlW2 := gl.upd hu (fun ad had e => by have := hlb ad had; omega)
        have hm0 := hbm2.cell 0
        have hm1 := hbm2.cell 1
        have hst0 := hbs2.cell 0
        have hr0 := hbr2.cell 0
        have hrf := hbr2.frozen 0
        have ht02 := hbt2.cell 0
        have hn0 := hbn.cell 0
        have hnf := hbn.frozen 0
        simp only [List.getElem?_toArray, List.getElem?_cons_zero, List.getElem?_cons_succ] at hm0 hm1 hst0 hr0 ht02 hn0
        have hltn : pre.length < n := by have := Hlen.out; omega
        obtain ⟨ad, e, rfl, hle, hx0, hx1⟩ := hlW2.get hltn
        have hi0 : (0 : Int) ≤ (pre.length : Int) := by omega
        have hi1 : (pre.length : Int) < (n : Int) := by omega
        have hd1 : decide ((n : Int) ≤ (pre.length : Int)) = false := by simp; omega
        have hwr : IntKind.i64.wrap ((pre.length : Int) + 1) = (pre.length : Int) + 1 := IntWalk.i64_in _ (by have := Hlen.out; omega)
        have HI := Lib.hid hpre; clear hpre
        have Hle := Lib.hid hle; clear hle
        by_cases hk : e.1 = x.1
        · have hq1 : (e.1.toList == x.1.toList) = true := by rw [hk]; simp
          have hq1' : (e.1.toList != x.1.toList) = false := by rw [hk]; simp
          by_cases hv : e.2 = x.2
          · have hq2 : (e.2 == x.2) = true := by simpa using hv
            have hq2' : (e.2 != x.2) = false := by simpa using hv
            have hex : e = x := by cases e; cases x; simp_all
            have Hp := Lib.hid (prefix_at HI.out (by rw [Hle.out, hex]))
            have huN := (hu.setCell (p := ⟨(W.heap.size + 1), 0, none⟩) (fun _ => rfl) (.int .i64 (pre.length + 1)))
            have hbN := hbn.set_ 0 (.int .i64 (pre.length + 1))
            clear hex hk hv
            gi_wp2
            exact ⟨(KeepsOthers.setCell _ _ _).from _, (Below.refl _ _).setCell (p := ⟨W.heap.size + 1, 0, none⟩) (by show W.heap.size ≤ W.heap.size + 1; omega) _, Hp.out, by rw [List.length_append]; exact hbN, huN⟩
          · have hq2 : (e.2 == x.2) = false := by simpa using hv
            have hq2' : (e.2 != x.2) = true := by simpa using hv
            have Hp := Lib.hid (prefix_not Hle.out (fun h => hv (by rw [h])))
            clear hk hv
            gi_wp2
            exact ⟨(KeepsOthers.setCell _ _ _).from _, .inl Hp.out⟩
        · have hq1 : (e.1.toList == x.1.toList) = false := by simp only [beq_eq_false_iff_ne, ne_eq]; exact fun h => hk (ba_ext h)
          have hq1' : (e.1.toList != x.1.toList) = true := by simp only [bne_iff_ne, ne_eq]; exact fun h => hk (ba_ext h)
          have Hp := Lib.hid (prefix_not Hle.out (fun h => hk (by rw [h])))
          clear hk
          gi_wp2
          exact ⟨(KeepsOthers.setCell _ _ _).from _, .inl Hp.out⟩
      case stop3 =>
        rintro D2 c pre W2 hD2 ⟨k, hk, rfl⟩ hX hK2
        rcases hX with hX | ⟨i, e1, _⟩
        · exact absurd (List.take_prefix _ _) hX
        · cases e1
      case done3 =>
        rintro D2 ys2 W2 hD2 rfl ⟨_, hbn, hu⟩ hK2
        have hbm2 := gBm.upd hu (by omega)
        have hbs2 := gBs.upd hu (by omega)
        have hbr2 := gBr.upd hu (by omega)
        have hbt2 := hBt1.upd hu (by omega)
        have hm0 := hbm2.cell 0
        have hr0 := (hbr2.alloc (.cells #[.int .i64 2] 3)).cell 0
        have hrf := (hbr2.alloc (.cells #[.int .i64 2] 3)).frozen 0
        have ht02 := hbt2.cell 0
        have hn0 := hbn.cell 0
        simp only [List.getElem?_toArray, List.getElem?_cons_zero, List.getElem?_cons_succ] at hm0 hr0 ht02 hn0
        rw [hlnn] at hn0
        have Hu2 := Lib.hid hu; clear hu
        have HK2 := Lib.hid hK2; clear hK2
        go_wp2
        try rw [rounds_succ]
        go_wp2
        have hDW : D < W.heap.size := (Array.getElem?_eq_some_iff.1 HK.out).1
        have hD2W : D2 < W2.heap.size := (Array.getElem?_eq_some_iff.1 HK2.out).1
        have hsW := Hu2.out.size
        have uF : Upd (fun k => k = W.heap.size + 1) W W2 := (uW1.nix _).trans Hu2.out (fun _ _ h => h)
        have hKD : W2.heap[D]? = some (.deferred (some [])) := (uF.block D hDW (by omega)).trans HK.out
        have hne : D2 ≠ D := by have := Hs1.out; omega
        have h40 := Hs0.out
        have h41 := Hs1.out
        have hgo : ∀ E, E < W2.heap.size → E ≠ w.heap.size + 1 + 1 → W2.heap[E]? = some (.deferred (some [])) → ((W2.alloc (.cells #[.int .i64 2] 3)).setCell ⟨w.heap.size + 1 + 1, 0, none⟩ (.bool true)).heap[E]? = some (.deferred (some [])) := fun E hE hne' h => by
          rw [Below.heap_setCell _ ⟨w.heap.size + 1 + 1, 0, none⟩ _ E hne', Below.heap_alloc W2 _ E hE, h]
        refine leaves_marks [D2, D] _ (by simp [hne]) (fun E hE => ?_) (fun W' hu' => ?_)
        · simp only [List.mem_cons, List.not_mem_nil, or_false] at hE
          rcases hE with rfl | rfl
          · exact hgo _ hD2W (by omega) HK2.out
          · exact hgo _ (by omega) (by omega) hKD
        · have hc5 := hu'.cell (World.cell?_setCell_same' (W2.alloc (.cells #[.int .i64 2] 3)) ⟨w.heap.size + 1 + 1, 0, none⟩ (.bool true) (by rw [hr0]; rfl)) (by simp only [List.mem_cons, List.not_mem_nil, or_false]; omega)
          have U1 : Upd Nix w W := (u3.thenNix uw).trans Hu.out (fun k hk e => (by omega : False).elim)
          have U2 : Upd Nix w W2 := (U1.thenNix uW1).trans Hu2.out (fun k hk e => (by omega : False).elim)
          refine ⟨.bool true, ?_, rfl, ?_⟩
          · simp [results, Tryd.f19, go_sem, hc5]
          · exact ((U2.alloc _).setCell (fun h => (by have h2 : w.heap.size + 1 + 1 < w.heap.size := h; omega : False).elim) _).trans hu' (fun k hk hm => by simp only [List.mem_cons, List.not_mem_nil, or_false] at hm; exact (by omega : False).elim)

end Go.Proofs.YtfalifenidpdlaaDoor
