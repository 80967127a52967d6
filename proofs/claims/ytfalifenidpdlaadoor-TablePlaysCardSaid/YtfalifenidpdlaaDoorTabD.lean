/- slices.Insert of one row. -/
import Derived.Test.YtfalifenidpdlaaDoorTabC
import Derived.Test.YtfalifenidpdlaaDoorBase2
import Derived.Lib.Overlaps
set_option linter.unusedVariables false
set_option linter.unusedSimpArgs false
namespace Go.Proofs.YtfalifenidpdlaaDoor
open Go Go.RowKit

theorem flat_append (l r : List (ByteArray × Int)) : flat (l ++ r) = flat l ++ flat r := by simp [flat]
theorem flat_cons (e : ByteArray × Int) (r : List (ByteArray × Int)) : flat (e :: r) = [.string e.1, .int .i64 e.2] ++ flat r := by simp [flat]
theorem flat_take (l : List (ByteArray × Int)) (i : Nat) : flat (l.take i) = (flat l).take (i * 2) := by
  induction l generalizing i with
  | nil => simp [flat]
  | cons x l ih =>
    cases i with
    | zero => simp [flat]
    | succ i => rw [List.take_succ_cons, flat_cons, flat_cons, ih, show (i + 1) * 2 = i * 2 + 2 from by omega]; simp
theorem flat_drop (l : List (ByteArray × Int)) (i : Nat) : flat (l.drop i) = (flat l).drop (i * 2) := by
  induction l generalizing i with
  | nil => simp [flat]
  | cons x l ih =>
    cases i with
    | zero => simp [flat]
    | succ i => rw [List.drop_succ_cons, flat_cons, ih, show (i + 1) * 2 = i * 2 + 2 from by omega]; simp
theorem flat_one (l : List (ByteArray × Int)) : ∀ u ∈ flat l, u.oneCell' = true := by
  intro u hu
  simp only [flat, List.mem_flatMap] at hu
  obtain ⟨e, _, hu⟩ := hu
  simp at hu
  rcases hu with rfl | rfl <;> rfl

def InsPost (w : World) (base : Nat) (v : Value) (l : List (ByteArray × Int)) (e : Ending) (w' : World) : Prop :=
  ∃ v', e = .returned v' ∧ w'.ownsRow base 58 2 v' l.length (flat l) ∧ Upd (fun j => some j = v.ownBlock) w w' ∧ (v'.ownBlock = v.ownBlock ∨ ∃ j, v'.ownBlock = some j ∧ w.heap.size ≤ j)

theorem infoEntry : (Tryd.prog.info? 58).map (fun i => (i.zero, i.size, i.bytes)) = some (some (.agg #[.string ⟨#[]⟩, .int .i64 0]), 2, 24) := by kernel_rfl

theorem infoSize : (Tryd.prog.info? 58).map (·.size) = some 2 := by kernel_rfl

set_option maxRecDepth 100000 in
theorem insert_end (w : World) (base : Nat) (v : Value) (l : List (ByteArray × Int)) (gv : Nat) (k : ByteArray) (x : Int) (hown : w.ownsRow base 58 2 v l.length (flat l)) (hlen : l.length ≤ 100000)
    (hv : Blk w gv 58 #[.string k, .int .i64 x]) (hb : base ≤ w.heap.size) :
    Calls Tryd.prog 22 #[v, .int .i64 l.length, .slice (some ⟨gv, 0, none⟩) 1 1] w (InsPost w base v (l ++ [(k, x)])) := by
  obtain ⟨i0, hi0, hz0, hz1, hz2⟩ := info_parts infoEntry
  obtain ⟨A, c, rfl, hc, hrows, -⟩ := own_rows hown
  have hnews : ∀ j u, ([.string k, .int .i64 x] : List Value)[j]? = some u → w.cell? ((⟨gv, 0, none⟩ : Addr).add j) = some u := fun j u h => by
    rw [add_flat, Nat.zero_add, hv.cell]; simpa using h
  have Hn := Lib.hid hnews; clear hnews
  have Hf := Lib.hid (flat_append l [(k, x)])
  have ob : Hid (∀ a b c d, (Value.slice A a b).ownBlock = (Value.slice A c d).ownBlock) := by intro _ _ _ _; cases A <;> rfl
  generalize hN : l.length = N at *
  have HN := Lib.hid hN; clear hN
  go_enter Tryd.func22, Tryd.ntmps22
  go_wp2_with ((at_builtin; refine wpList_append_own_at _ rfl (.tmp 23) (.tmp 24) 53 rfl base 58 i0 _ 2 24 Tryd.underlying53 hi0 hz0 hz1 hz2 rfl (by omega) (.slice A N c) N (flat l) rfl hown ⟨gv, 0, none⟩ 1 1 [.string k, .int .i64 x] rfl rfl Hn.out (by intro u hu; simp at hu; rcases hu with rfl | rfl <;> rfl) (by unfold maxLen; omega) (by omega) hb ?_; intro v1 w1 hown1 hg1 hnil1 hat1))
  all_goals
    go_ret
    refine ⟨v1, rfl, ?_, (Upd.refl _ _).grown hg1 (fun j hj _ => hj.symm.trans (ob.out _ _ _ _)), hat1.imp (fun h => h.trans (ob.out _ _ _ _)) (fun h => ⟨_, h, Nat.le_refl _⟩)⟩
    rw [Hf.out, List.length_append, HN.out]
    exact hown1

set_option maxRecDepth 100000 in
theorem insert_grow (w : World) (base g cap : Nat) (cur : Array Value) (l : List (ByteArray × Int)) (i : Nat) (gv : Nat) (k : ByteArray) (x : Int)
    (hg : Blk w g 58 cur) (hbg : base ≤ g) (hc : l.length ≤ cap) (hcm : cap ≤ maxLen) (hcs : cur.size = cap * 2) (ht : cur.toList.take (l.length * 2) = flat l) (hlen : l.length ≤ 100000)
    (hv : Blk w gv 58 #[.string k, .int .i64 x]) (hb : base ≤ w.heap.size) (hi : i < l.length) (hfull : cap < l.length + 1) :
    Calls Tryd.prog 22 #[.slice (some ⟨g, 0, none⟩) l.length cap, .int .i64 i, .slice (some ⟨gv, 0, none⟩) 1 1] w (InsPost w base (.slice (some ⟨g, 0, none⟩) l.length cap) (l.take i ++ (k, x) :: l.drop i)) := by
  obtain ⟨i0, hi0, hz0, hz1, hz2⟩ := info_parts infoEntry
  generalize hN : l.length = N at *
  obtain rfl : cap = N := by omega
  have HN := Lib.hid hN; clear hN
  have h1 : ¬ (cap = i) := by omega
  have h2 : ¬ (cap = 0) := by omega
  have holds : ∀ j u, (flat (l.take i))[j]? = some u → w.cell? ((⟨g, 0, none⟩ : Addr).add j) = some u := fun j u h => by
    rw [add_flat, Nat.zero_add, hg.cell, ← Array.getElem?_toList]
    rw [flat_take, ← ht, List.take_take, List.getElem?_take] at h
    split at h
    · exact h
    · cases h
  have hlo : (flat (l.take i)).length = i * 2 := by rw [flat_length, List.length_take]; have := HN.out; omega
  have Ho := Lib.hid holds; clear holds
  have Hlo := Lib.hid hlo; clear hlo
  have Hg := Lib.hid hg; clear hg
  go_enter Tryd.func22, Tryd.ntmps22
  go_wp2_with (first
    | (at_builtin
       go_must (
       refine wpList_plain rfl fun K hK => ?_
       obtain ⟨c2, zs, w1, hrun, hb1, hzl, hc2, hcm2, hu1⟩ := run_append_made (P := Tryd.prog) w 53 3 53 58 .i64 i0 _ 2 24 Tryd.underlying53 Tryd.underlying3 hi0 hz0 hz1 hz2 rfl ⟨g, 0, none⟩ i cap (cap + 1 - i) (cap + 1 - i : Int) (by omega) (flat (l.take i)) Hlo.out Ho.out (by omega) (by omega) (by omega) (by omega) (by omega)
       refine wp_append_run (.tmp 34) (.tmp 39) _ _ rfl hrun ?_
       refine hK _ _ ?_
       clear hK hrun
       have hci : ¬ (c2 = i) := by omega
       have hci1 : ¬ (c2 = i + 1) := by omega
       obtain ⟨zs1, zs2, rfl, hz1l⟩ : ∃ z1 z2, zs = z1 ++ z2 ∧ z1.length = 2 := ⟨zs.take 2, zs.drop 2, by simp, by rw [List.length_take]; omega⟩
       have hmin2 : Nat.min 1 (cap + 1 - i) = 1 := Nat.min_eq_left (by omega)
       obtain ⟨w2, hcp2, hb2, hu2⟩ := run_copy_at (P := Tryd.prog) w1 53 53 3 58 2 w.heap.size (cap + 1 - i) (c2 - i) ⟨gv, 0, none⟩ 1 1 (flat (l.take i)) zs1 zs2 58 [.string k, .int .i64 x] Tryd.underlying53 infoSize hb1 hz1l
         (by rw [hmin2]; rfl) (fun j u h => by rw [add_flat, Nat.zero_add, (hv.upd hu1 (by simp)).cell]; simpa using h) (by intro u hu; simp at hu; rcases hu with rfl | rfl <;> rfl)
       rw [Hlo.out, hmin2] at hcp2
       have hmin3 : Nat.min (cap - i) (i + (cap + 1 - i) - (i + 1)) = cap - i := Nat.min_eq_left (by omega)
       obtain ⟨ys, zs3, rfl, hyl⟩ : ∃ z1 z2, zs2 = z1 ++ z2 ∧ z1.length = (cap - i) * 2 := ⟨zs2.take ((cap - i) * 2), zs2.drop ((cap - i) * 2), by simp, by rw [List.length_take]; simp only [List.length_append] at hzl; omega⟩
       have hdl : (flat (l.drop i)).length = (cap - i) * 2 := by rw [flat_length, List.length_drop]; have := HN.out; omega
       have hgw : g < w.heap.size := Hg.out.lt
       have hg2 : Blk w2.drew g 58 cur := ((Hg.out.upd hu1 (by simp)).upd hu2 (by omega)).drew
       obtain ⟨w3, hcp3, hb3, hu3⟩ := run_copy_at (P := Tryd.prog) w2.drew 53 53 3 58 2 w.heap.size (i + (cap + 1 - i) - (i + 1)) (c2 - (i + 1)) ⟨g, i * 2, none⟩ (cap - i) (cap - i) (flat (l.take i) ++ [.string k, .int .i64 x]) ys zs3 58 (flat (l.drop i)) Tryd.underlying53 infoSize
         (by have := hb2.drew; simpa using this) (by rw [hdl, hyl]) (by rw [hmin3]; exact hdl)
         (fun j u h => by
           rw [add_flat, hg2.cell, ← Array.getElem?_toList]
           rw [flat_drop, ← ht, List.getElem?_drop, List.getElem?_take] at h
           split at h
           · exact h
           · cases h) (flat_one _)
       have hoff : (flat (l.take i) ++ [.string k, .int .i64 x] : List Value).length = (i + 1) * 2 := (by have h9 := Hlo.out; simp only [List.length_append, List.length_cons, List.length_nil]; omega)
       rw [hoff, hmin3] at hcp3
       have Hb3 := Lib.hid hb3
       clear hb2 hmin2 hb1 hmin3 hb3 hg2 hoff hdl)))
  go_region
  go_wp2
  go_ret
  have hl' : (l.take i ++ (k, x) :: l.drop i).length = cap + 1 := by
    have := HN.out
    simp only [List.length_append, List.length_take, List.length_cons, List.length_drop]; omega
  have hfl : flat (l.take i ++ (k, x) :: l.drop i) = flat (l.take i) ++ [.string k, .int .i64 x] ++ flat (l.drop i) := by rw [flat_append, flat_cons]; simp
  have hn : i + (cap + 1 - i) = cap + 1 := by omega
  refine ⟨_, rfl, ?_, ?_, .inr ⟨w.heap.size, rfl, Nat.le_refl _⟩⟩
  · rw [hl']
    refine ⟨by rw [flat_length, hl'], .inr ⟨w.heap.size, c2, _, by rw [hn]; rfl, hb, Hb3.out, by omega, hcm2, ?_, ?_⟩⟩
    · have h9 := Hlo.out
      have h8 : (flat (l.drop i)).length = (cap - i) * 2 := by rw [flat_length, List.length_drop]; have := HN.out; omega
      simp only [List.length_append, List.size_toArray, List.length_cons, List.length_nil] at hzl ⊢
      omega
    · rw [hfl]
      have h9 := Hlo.out
      have h8 : (flat (l.drop i)).length = (cap - i) * 2 := by rw [flat_length, List.length_drop]; have := HN.out; omega
      rw [List.toList_toArray, ← List.append_assoc, List.take_left' (by simp only [List.length_append, List.length_cons, List.length_nil]; omega)]
  · exact (((hu1.nix _).trans hu2 (fun j hj e => by omega)).drew).trans hu3 (fun j hj e => by omega)

theorem Blk.shape {w : World} {g : Nat} {t : TypeId} {cs : Array Value} (h : Blk w g t cs) : w.shape? g = some (t, cs.size) := by unfold Blk at h; simp [World.shape?, h]
theorem sizeEntry (w : World) : (Go.sizeOf 58).run Tryd.prog w = .ok 2 w := by kernel_rfl

set_option maxRecDepth 100000 in
theorem insert_room (w : World) (base g cap : Nat) (cur : Array Value) (l : List (ByteArray × Int)) (i : Nat) (gv : Nat) (k : ByteArray) (x : Int)
    (hg : Blk w g 58 cur) (hbg : base ≤ g) (hcm : cap ≤ maxLen) (hcs : cur.size = cap * 2) (ht : cur.toList.take (l.length * 2) = flat l) (hlen : l.length ≤ 100000)
    (hv : Blk w gv 58 #[.string k, .int .i64 x]) (hne : gv ≠ g) (hi : i < l.length) (hroom : l.length + 1 ≤ cap) :
    Calls Tryd.prog 22 #[.slice (some ⟨g, 0, none⟩) l.length cap, .int .i64 i, .slice (some ⟨gv, 0, none⟩) 1 1] w (InsPost w base (.slice (some ⟨g, 0, none⟩) l.length cap) (l.take i ++ (k, x) :: l.drop i)) := by
  have h31 := @run_callFunc_extern Tryd.prog 31 _ (Extern.SlicesOverlaps.overlaps #[53, 53] #[4]) Tryd.func31 (by kernel_rfl) (by kernel_rfl) (by kernel_rfl) (by kernel_rfl)
  generalize hN : l.length = N at *
  have HN := Lib.hid hN; clear hN
  have h1 : ¬ (cap = i) := by omega
  have h2 : ¬ (cap = 0) := by omega
  have h3 : ¬ (cap = i + 1) := by omega
  have hlt : decide ((cap : Int) < (N : Int) + 1) = false := by simp; omega
  have hov := Lib.run_overlaps_apart (P := Tryd.prog) w 53 4 58 Tryd.underlying53 2 sizeEntry ⟨gv, 0, none⟩ ⟨g, (i + 1) * 2, none⟩ 1 1 (N - i) (cap - (i + 1)) hne 58 58 2 cur.size hv.shape hg.shape (by omega) (hv.frozen _) (hv.frozen _)
  have hcl : cur.toList.length = cap * 2 := by simpa using hcs
  -- the row in parts: what is ahead, what moves, what is spare
  obtain ⟨pr, md, po, hcur, hpr, hmd⟩ : ∃ pr md po, cur = (pr ++ (md ++ po)).toArray ∧ pr.length = i * 2 ∧ md.length = (N - i) * 2 :=
    ⟨cur.toList.take (i * 2), (cur.toList.drop (i * 2)).take ((N - i) * 2), (cur.toList.drop (i * 2)).drop ((N - i) * 2), by apply Array.ext'; simp only [List.toList_toArray, List.take_append_drop], by rw [List.length_take]; omega, by rw [List.length_take, List.length_drop]; omega⟩
  subst hcur
  rw [List.toList_toArray, show N * 2 = (pr ++ md).length from by rw [List.length_append]; omega, ← List.append_assoc, List.take_left] at ht
  have hfl1 : flat (l.take i) = pr := by rw [flat_take, ← ht, ← hpr, List.take_left]
  have hfl2 : flat (l.drop i) = md := by rw [flat_drop, ← ht, ← hpr, List.drop_left]
  have hmdo : ∀ u ∈ md, u.oneCell' = true := by rw [← hfl2]; exact flat_one _
  simp only [List.toList_toArray] at hcl
  -- the cells that move, with the place that they open
  obtain ⟨hd, tl, hpo, htl⟩ : ∃ hd tl, md ++ po = hd ++ tl ∧ hd.length = 2 := ⟨(md ++ po).take 2, (md ++ po).drop 2, by rw [List.take_append_drop], by rw [List.length_take]; simp only [List.length_append] at hcl ⊢; omega⟩
  obtain ⟨m2, p2, rfl, hm2⟩ : ∃ m2 p2, tl = m2 ++ p2 ∧ m2.length = (N - i) * 2 := ⟨tl.take ((N - i) * 2), tl.drop ((N - i) * 2), by rw [List.take_append_drop], by
    have := congrArg List.length hpo
    rw [List.length_take]; simp only [List.length_append] at hcl this; omega⟩
  have hmin3 : Nat.min (N + 1 - i) (N - i) = N - i := Nat.min_eq_right (by omega)
  have hg2 : Blk w.drew g 58 (pr ++ (md ++ po)).toArray := hg.drew
  obtain ⟨w3, hcp3, hb3, hu3⟩ := run_copy_at (P := Tryd.prog) w.drew 53 53 3 58 2 g (N - i) (cap - (i + 1)) ⟨g, i * 2, none⟩ (N + 1 - i) (cap - i) (pr ++ hd) m2 p2 58 md Tryd.underlying53 infoSize
    (by have := hg2; rw [hpo] at this; simpa using this) (by rw [hmd, hm2]) (by rw [hmin3]; exact hmd)
    (fun j u h => by
      have hj := (List.getElem?_eq_some_iff.1 h).1
      rw [add_flat, hg2.cell, List.getElem?_toArray, List.getElem?_append_right (by omega), hpr, Nat.add_sub_cancel_left, List.getElem?_append_left hj]; exact h) hmdo
  have hoff : (pr ++ hd).length = (i + 1) * 2 := by simp only [List.length_append]; omega
  rw [hoff, hmin3] at hcp3
  have hmin4 : Nat.min 1 (N + 1 - i) = 1 := Nat.min_eq_left (by omega)
  obtain ⟨w4, hcp4, hb4, hu4⟩ := run_copy_at (P := Tryd.prog) w3 53 53 3 58 2 g (N + 1 - i) (cap - i) ⟨gv, 0, none⟩ 1 1 pr hd (md ++ p2) 58 [.string k, .int .i64 x] Tryd.underlying53 infoSize
    (by have := hb3; simpa using this) htl (by rw [hmin4]; rfl) (fun j u h => by rw [add_flat, Nat.zero_add, (hv.drew.upd hu3 hne).cell]; simpa using h) (by intro u hu; simp at hu; rcases hu with rfl | rfl <;> rfl)
  rw [hpr, hmin4] at hcp4
  have Hb4 := Lib.hid hb4
  have Hfl1 := Lib.hid hfl1
  have Hfl2 := Lib.hid hfl2
  have Hpr := Lib.hid hpr
  have Hmd := Lib.hid hmd
  have Hm2 := Lib.hid hm2
  have Hhd := Lib.hid htl
  have Hcl := Lib.hid hcl
  have Hpo := Lib.hid (congrArg List.length hpo)
  clear hb3 hb4 hfl1 hfl2 hpr hmd hm2 htl hpo hoff hmin3 hmin4 hg2 hmdo ht hcl hcs hg hv
  go_enter Tryd.func22, Tryd.ntmps22
  go_wp2
  go_region
  go_wp2
  go_ret
  have hl' : (l.take i ++ (k, x) :: l.drop i).length = N + 1 := by
    have := HN.out
    simp only [List.length_append, List.length_take, List.length_cons, List.length_drop]; omega
  have hfl : flat (l.take i ++ (k, x) :: l.drop i) = pr ++ ([.string k, .int .i64 x] ++ md) := by rw [flat_append, flat_cons, Hfl1.out, Hfl2.out]
  have e1 := Hpr.out
  have e2 := Hmd.out
  have e3 := Hm2.out
  have e4 := Hhd.out
  have e5 := Hcl.out
  have e6 := Hpo.out
  simp only [List.length_append] at e5 e6
  refine ⟨_, rfl, ?_, ?_, .inl rfl⟩
  · rw [hl']
    refine ⟨by rw [flat_length, hl'], .inr ⟨g, cap, _, rfl, hbg, Hb4.out, hroom, hcm, ?_, ?_⟩⟩
    · simp only [List.length_append, List.size_toArray, List.length_cons, List.length_nil]
      omega
    · have e7 : pr ++ ([.string k, .int .i64 x] ++ (md ++ p2)) = (pr ++ ([.string k, .int .i64 x] ++ md)) ++ p2 := by simp
      rw [hfl, List.toList_toArray, e7]
      exact List.take_left' (by simp only [List.length_append, List.length_cons, List.length_nil]; omega)
  · exact ((Upd.refl (fun j => some j = (Value.slice (some ⟨g, 0, none⟩) N cap).ownBlock) w).drew.trans hu3 (fun j hj e => by rw [e]; rfl)).trans hu4 (fun j hj e => by rw [e]; rfl)
end Go.Proofs.YtfalifenidpdlaaDoor
