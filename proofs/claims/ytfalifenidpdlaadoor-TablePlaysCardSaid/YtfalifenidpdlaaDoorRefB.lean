/- The document's table: Put, Drop. -/
import Derived.Test.YtfalifenidpdlaaDoorRefA
set_option linter.unusedVariables false
set_option linter.unusedSimpArgs false
namespace Go.Proofs.YtfalifenidpdlaaDoor
open Go Go.RowKit

theorem infoRow : (Tryd.prog.info? 63).map (fun i => (i.zero, i.size, i.bytes)) = some (some (.agg #[.string ⟨#[]⟩, .int .i64 0]), 2, 24) := by kernel_rfl

/-- append of one row. -/
theorem append_row {ops : Array Oper} {rest : List Oper} {o : Oper} {a : Act} {w : World} {Q : Exit → Act → World → Prop} (hgd : o.guard = none) (s x : Operand)
    (ho : o.op = .call { callee := .builtin .append, args := #[s, x], argTypes := #[36, 36] }) (base g : Nat) (v : Value) (l : List (ByteArray × Int)) (k : ByteArray) (y : Int)
    (hs : a.eval s = v) (hx : a.eval x = .slice (some ⟨g, 0, none⟩) 1 1) (hown : w.ownsRow base 63 2 v l.length (flat l)) (hB : Blk w g 63 #[.string k, .int .i64 y]) (hn : l.length ≤ 100000) (hb : base ≤ w.heap.size)
    (h : ∀ A m c w', Hid (w'.ownsRow base 63 2 (.slice A m c) (l ++ [(k, y)]).length (flat (l ++ [(k, y)]))) → Upd (fun j => some j = v.ownBlock) w w' → wpList Tryd.prog ops Q rest (a.put o.dst (.slice A m c)) w') :
    wpList Tryd.prog ops Q (o :: rest) a w := by
  obtain ⟨i0, hi0, hz0, hz1, hz2⟩ := info_parts infoRow
  refine wpList_append_own_at _ hgd s x 36 ho base 63 i0 _ 2 24 Tryd.underlying36 hi0 hz0 hz1 hz2 rfl (by omega) v l.length (flat l) hs hown ⟨g, 0, none⟩ 1 1 [.string k, .int .i64 y] hx rfl
    (fun j u hj => by rw [add_flat, Nat.zero_add, hB.cell]; simpa using hj) (by intro u hu; simp at hu; rcases hu with rfl | rfl <;> rfl) (by unfold maxLen; omega) (by omega) hb ?_
  intro v' w' hown' hg' _ _
  obtain ⟨A, c, rfl⟩ := own_slice hown'
  refine h _ _ _ w' ?_ ((Upd.refl _ _).grown hg' (fun k hk _ => hk.symm))
  show w'.ownsRow _ _ _ _ _ _
  rw [flat_append, List.length_append]
  exact hown'

/-- What the loop of Put has laid so far. -/
def laid (l : List (ByteArray × Int)) (key : ByteArray) (x : Int) (k : Nat) : List (ByteArray × Int) :=
  if k ≤ pos l key then l.take k else l.take (pos l key) ++ (key, x) :: (l.take k).drop (pos l key + if (look l key).isSome then 1 else 0)
theorem laid_before {l : List (ByteArray × Int)} {key : ByteArray} {x : Int} {k : Nat} {e : ByteArray × Int} (he : l[k]? = some e) (h : k < pos l key) : laid l key x (k + 1) = laid l key x k ++ [e] := by
  unfold laid
  rw [if_pos (by omega), if_pos (by omega), List.take_add_one, he]; rfl
theorem laid_here {l : List (ByteArray × Int)} {key : ByteArray} {x : Int} (hn : pos l key < l.length) : laid l key x (pos l key + 1) = if (look l key).isSome then laid l key x (pos l key) ++ [(key, x)] else laid l key x (pos l key) ++ [(key, x)] ++ [l[pos l key]] := by
  have h1 : laid l key x (pos l key) = l.take (pos l key) := by unfold laid; rw [if_pos (Nat.le_refl _)]
  have h2 : laid l key x (pos l key + 1) = l.take (pos l key) ++ (key, x) :: (l.take (pos l key + 1)).drop (pos l key + if (look l key).isSome then 1 else 0) := by unfold laid; rw [if_neg (show ¬ (pos l key + 1 ≤ pos l key) by omega)]
  rw [h1, h2]
  split
  · rw [List.drop_of_length_le (by rw [List.length_take]; omega)]
  · have h3 : (l.take (pos l key)).length = pos l key := by rw [List.length_take]; omega
    rw [Nat.add_zero, List.take_add_one, List.getElem?_eq_getElem hn, List.drop_left' h3]
    simp
theorem laid_after {l : List (ByteArray × Int)} {key : ByteArray} {x : Int} {k : Nat} {e : ByteArray × Int} (he : l[k]? = some e) (h : pos l key < k) : laid l key x (k + 1) = laid l key x k ++ [e] := by
  have hk := (List.getElem?_eq_some_iff.1 he).1
  have hs : pos l key + (if (look l key).isSome then 1 else 0) ≤ (l.take k).length := by
    rw [List.length_take]
    cases (look l key).isSome <;> simp <;> omega
  unfold laid
  rw [if_neg (show ¬ (k + 1 ≤ pos l key) by omega), if_neg (show ¬ (k ≤ pos l key) by omega), List.take_add_one, he]
  show _ ++ _ :: List.drop _ (_ ++ [e]) = _
  rw [List.drop_append_of_le_length hs]
  simp
theorem laid_end {l : List (ByteArray × Int)} {key : ByteArray} {x : Int} (h : pos l key < l.length) : laid l key x l.length = put l key x := by
  unfold laid put
  rw [if_neg (by omega), List.take_length]
theorem laid_end' {l : List (ByteArray × Int)} {key : ByteArray} {x : Int} (h : pos l key = l.length) (hn : look l key = none) : laid l key x l.length ++ [(key, x)] = put l key x := by
  unfold laid put
  rw [if_pos (by omega), h, hn]; simp
theorem laid_length (l : List (ByteArray × Int)) (key : ByteArray) (x : Int) (k : Nat) : (laid l key x k).length ≤ l.length + 1 := by
  have := pos_le l key
  unfold laid
  split
  · rw [List.length_take]; omega
  · simp only [List.length_append, List.length_take, List.length_cons, List.length_drop]; split <;> omega

def RPutPost (w : World) (l : List (ByteArray × Int)) (most : Int) (e : Ending) (w' : World) : Prop :=
  ∃ v, e = .returned (.tuple #[.agg #[v, .int .i64 most], .bool true]) ∧ w'.ownsRow w.heap.size 63 2 v l.length (flat l) ∧ Upd Nix w w'

set_option maxRecDepth 100000 in
theorem rput_full (key : ByteArray) (x : Int) (A : Option Addr) (n c : Nat) (most : Int) (l : List (ByteArray × Int)) (w : World) (hl : RowsAt w A n l) (hr : Rising l) (hn : n ≤ 100000) (hlk : look l key = none) (hf : most ≤ (n : Int)) :
    Calls Tryd.prog 13 #[.agg #[.slice A n c, .int .i64 most], .string key, .int .i64 x] w fun e w' => e = .returned (.tuple #[.agg #[.slice A n c, .int .i64 most], .bool false]) ∧ Upd Nix w w' := by
  have hB := (Blk.new w 38 #[.slice A n c, .int .i64 most]).alloc (.cells #[.slice none 0 0, .int .i64 0] 38)
  have hC := Blk.new (w.alloc (.cells #[.slice A n c, .int .i64 most] 38)) 38 #[.slice none 0 0, .int .i64 0]
  rw [World.size_alloc] at hC
  have u0 : Upd Nix w ((w.alloc (.cells #[.slice A n c, .int .i64 most] 38)).alloc (.cells #[.slice none 0 0, .int .i64 0] 38)) := ((Upd.refl _ _).alloc _).alloc _
  have hl0 := hl.upd u0 (fun _ _ f => f)
  have hp : place l key = -1 := by unfold place; rw [hlk]; rfl
  have hq : decide (most ≤ (n : Int)) = true := by simpa using hf
  have hc0 := hB.cell 0
  have hc1 := hB.cell 1
  simp only [List.getElem?_toArray, List.getElem?_cons_zero, List.getElem?_cons_succ] at hc0 hc1
  clear hlk
  go_enter Tryd.func13, Tryd.ntmps13
  go_wp2_with (first | (go_at_call 24; go_must (refine (rat_any key A n c most l _ hl0 hr hn).mono ?_; rw [hp]; rintro e w1 ⟨rfl, u1⟩; have hd0 := (hB.upd u1 (fun f => f)).cell 0; have hd1 := (hB.upd u1 (fun f => f)).cell 1; have he0 := (hC.upd u1 (fun f => f)).cell 0; have he1 := (hC.upd u1 (fun f => f)).cell 1; have hf0 := (hC.upd u1 (fun f => f)).frozen 0; have hf1 := (hC.upd u1 (fun f => f)).frozen 1;  simp only [List.getElem?_toArray, List.getElem?_cons_zero, List.getElem?_cons_succ] at hd0 hd1 he0 he1)))
  have hE := ((hC.upd u1 (fun f => f)).set_ 0 (.slice A n c)).set_ 1 (.int .i64 most)
  have hE0 := hE.cell 0
  have hE1 := hE.cell 1
  simp only [List.getElem?_toArray, List.getElem?_cons_zero, List.getElem?_cons_succ, List.setIfInBounds_toArray, List.set_cons_zero, List.set_cons_succ] at hE0 hE1
  refine bodyPost_ret (v := .tuple #[.agg #[.slice A n c, .int .i64 most], .bool false]) (by simp [results, Tryd.results13, go_sem, hE0, hE1]) rfl ⟨rfl, ?_⟩
  exact ((u0.thenNix u1).setCell (p := ⟨w.heap.size + 1, 0, none⟩) (fun h => absurd h (by show ¬ (w.heap.size + 1 < w.heap.size); omega)) _).setCell (p := ⟨w.heap.size + 1, 1, none⟩) (fun h => absurd h (by show ¬ (w.heap.size + 1 < w.heap.size); omega)) _

theorem place_case {l : List (ByteArray × Int)} {key : ByteArray} {n : Nat} {most : Int} (h : ¬ (look l key = none ∧ most ≤ (n : Int))) : (place l key = -1 ∧ decide (most ≤ (n : Int)) = false) ∨ ∃ q : Nat, place l key = q := by
  unfold place
  cases hl : look l key with
  | none => exact .inl ⟨rfl, by simpa using fun h2 => h ⟨hl, h2⟩⟩
  | some x => exact .inr ⟨pos l key, rfl⟩

set_option maxRecDepth 100000 in
set_option maxHeartbeats 1000000 in
theorem rput_ok (key : ByteArray) (x : Int) (A : Option Addr) (n c : Nat) (most : Int) (l : List (ByteArray × Int)) (w : World) (hl : RowsAt w A n l) (hr : Rising l) (hn : n < 99000) (hno : ¬ (look l key = none ∧ most ≤ (n : Int))) :
    Calls Tryd.prog 13 #[.agg #[.slice A n c, .int .i64 most], .string key, .int .i64 x] w (RPutPost w (put l key x) most) := by
  have hB := (Blk.new w 38 #[.slice A n c, .int .i64 most]).alloc (.cells #[.slice none 0 0, .int .i64 0] 38)
  have hC := Blk.new (w.alloc (.cells #[.slice A n c, .int .i64 most] 38)) 38 #[.slice none 0 0, .int .i64 0]
  rw [World.size_alloc] at hC
  have u0 : Upd Nix w ((w.alloc (.cells #[.slice A n c, .int .i64 most] 38)).alloc (.cells #[.slice none 0 0, .int .i64 0] 38)) := ((Upd.refl _ _).alloc _).alloc _
  have hl0 := hl.upd u0 (fun _ _ f => f)
  have Hlen := Lib.hid hl.1
  have hc0 := hB.cell 0
  have hc1 := hB.cell 1
  simp only [List.getElem?_toArray, List.getElem?_cons_zero, List.getElem?_cons_succ] at hc0 hc1
  have hcase := place_case hno
  clear hno
  rcases hcase with ⟨hp, hq1⟩ | ⟨q, hp⟩
  all_goals
    have Hp := Lib.hid hp
    clear hp
    go_enter Tryd.func13, Tryd.ntmps13
    go_wp2_with (first | (go_at_call 24; go_must (refine (rat_any key A n c most l _ hl0 hr (by omega)).mono ?_; rw [Hp.out]; rintro e w1 ⟨rfl, u1⟩; have hB1 := hB.upd u1 (fun f => f); have hC1 := hC.upd u1 (fun f => f); have hd0 := hB1.cell 0; have hd1 := hB1.cell 1; simp only [List.getElem?_toArray, List.getElem?_cons_zero, List.getElem?_cons_succ] at hd0 hd1)))
    have hl1 := hl0.upd u1 (fun _ _ f => f)
    have hs1 : w.heap.size + 2 ≤ w1.heap.size := by have := u1.size; simp at this; omega
    have hle := pos_le l key
    go_loopw [8, 9, 10] (fun v d i wr => ∃ (k : Nat) (A' : Option Addr) (m' c' : Nat), i = .int .i64 k ∧ k ≤ n ∧ d = .bool (decide (pos l key < k)) ∧ v = .slice A' m' c' ∧ Hid (wr.ownsRow w1.heap.size 63 2 v (laid l key x k).length (flat (laid l key x k))) ∧ Upd Nix w1 wr) (fun _ _ i _ => n - (intOf i).toNat)
    case atStart => exact ⟨0, none, 0, 0, rfl, by omega, rfl, rfl, by simp [laid]; exact World.ownsRow_nil _ _ _ _, Upd.refl _ _⟩
    case round =>
      obtain ⟨k, A', m', c', rfl, hkn, rfl, rfl, Hown, hu⟩ := hrel
      by_cases hlt : k < n
      · obtain ⟨ad, e, rfl, hle2, hv0, hv1⟩ := hl1.get hlt
        have hx0 := hu.cell hv0 (fun f => f)
        have hx1 := hu.cell hv1 (fun f => f)
        have Hv0 := Lib.hid hv0; have Hv1 := Lib.hid hv1; clear hv0 hv1
        have Hle2 := Lib.hid hle2; clear hle2
        have hB2 := hB1.upd hu (fun f => f)
        have he0 := hB2.cell 0
        simp only [List.getElem?_toArray, List.getElem?_cons_zero] at he0
        have hll := laid_length l key x k
        have Hll := Lib.hid hll
        have hbase : ∀ j, (Value.slice A' m' c').ownBlock = some j → w1.heap.size ≤ j := fun j hj => (Hown.out.lt j hj).1
        have Hbase := Lib.hid hbase; clear hbase hll
        have Hwr := Lib.hid hu.size
        rcases Nat.lt_trichotomy k (pos l key) with hkp | hkp | hkp
        · have hk1 := pos_before l key k e hkp Hle2.out
          have hbl : Op.bytesLess e.1.toList key.toList = true := hk1
          have hne : (e.1.toList == key.toList) = false := by
            simp only [beq_eq_false_iff_ne, ne_eq]; exact fun h => lt_ne hk1 (ba_ext h)
          have hdk : decide (pos l key < k) = false := by simp; omega
          have Hstep := Lib.hid (laid_before (x := x) Hle2.out hkp)
          clear hk1
          go_wp2_with ((at_builtin; go_must (refine append_row rfl (.tmp 57) (.tmp 63) rfl w1.heap.size _ (.slice A' m' c') (laid l key x k) e.1 e.2 rfl rfl (by exact own_upd Hown.out ((Upd.refl Nix _).alloc _) (fun _ _ f => f)) (Blk.new _ _ _) (by have := Hll.out; have := Hlen.out; omega) (by have := Hwr.out; simp; omega) ?_; intro A2 m2 c2 w2 Hown2 hu2)))
          go_roundw
          case rel =>
            refine ⟨k + 1, A2, m2, c2, by go_num, by omega, ?_, rfl, by rw [Hstep.out]; exact Hown2, (hu.alloc _).ownNix hu2 Hbase.out⟩
            rw [show decide (pos l key < k + 1) = false by simp; omega]
          case measure => simp [intOf]; omega
        · subst hkp
          have hk1 := pos_at l key e Hle2.out
          have hbl : Op.bytesLess e.1.toList key.toList = false := hk1
          have hdk : decide (pos l key < pos l key) = false := by simp
          have hpn : pos l key < l.length := by have := Hlen.out; omega
          have hep : l[pos l key] = e := by have := Hle2.out; rw [List.getElem?_eq_getElem hpn] at this; exact Option.some.inj this
          have hstep := laid_here (x := x) hpn
          rw [hep] at hstep
          have hlp := look_pos hr key
          rw [Hle2.out] at hlp
          by_cases hek : e.1 = key
          · have hs : (look l key).isSome = true := by rw [hlp]; simp [hek]
            rw [hs, if_pos rfl] at hstep
            have Hstep := Lib.hid hstep
            have hne : (e.1.toList == key.toList) = true := by rw [hek]; simp
            clear hstep hlp hek hep hk1
            go_wp2_with ((at_builtin; go_must (refine append_row rfl (.tmp 43) (.tmp 47) rfl w1.heap.size _ (.slice A' m' c') (laid l key x (pos l key)) key x rfl rfl (by exact own_upd Hown.out ((Upd.refl Nix _).alloc _) (fun _ _ f => f)) (Blk.new _ _ _) (by have := Hll.out; have := Hlen.out; omega) (by have := Hwr.out; simp; omega) ?_); intro A2 m2 c2 w2 Hown2 hu2; have u2 : Upd Nix w1 w2 := (hu.alloc _).ownNix hu2 Hbase.out; have hy0 := u2.cell Hv0.out (fun f => f); have hy1 := u2.cell Hv1.out (fun f => f); have hz0 := (hB1.upd u2 (fun f => f)).cell 0; simp only [List.getElem?_toArray, List.getElem?_cons_zero] at hz0))
            go_roundw
            case rel =>
              refine ⟨pos l key + 1, A2, m2, c2, by go_num, by omega, ?_, rfl, by rw [Hstep.out]; exact Hown2, u2⟩
              rw [show decide (pos l key < pos l key + 1) = true by simp]
            case measure => simp [intOf]; omega
          · have hs : (look l key).isSome = false := by rw [hlp]; simp [hek]
            rw [hs] at hstep
            simp only [Bool.false_eq_true, if_false] at hstep
            have Hstep := Lib.hid hstep
            have hne : (e.1.toList == key.toList) = false := by
              simp only [beq_eq_false_iff_ne, ne_eq]; exact fun h => hek (ba_ext h)
            have hll2 : (laid l key x (pos l key) ++ [(key, x)]).length ≤ 100000 := by rw [List.length_append]; simp; have := Hll.out; have := Hlen.out; omega
            have Hll2 := Lib.hid hll2
            clear hstep hlp hek hep hk1 hll2
            go_wp2_with (first
              | (at_builtin; (refine append_row rfl (.tmp 43) (.tmp 47) rfl w1.heap.size _ (.slice A' m' c') (laid l key x (pos l key)) key x rfl rfl (by exact own_upd Hown.out ((Upd.refl Nix _).alloc _) (fun _ _ f => f)) (Blk.new _ _ _) (by have := Hll.out; have := Hlen.out; omega) (by have := Hwr.out; simp; omega) ?_); intro A2 m2 c2 w2 Hown2 hu2; have u2 : Upd Nix w1 w2 := (hu.alloc _).ownNix hu2 Hbase.out; have hy0 := u2.cell Hv0.out (fun f => f); have hy1 := u2.cell Hv1.out (fun f => f); have hz0 := (hB1.upd u2 (fun f => f)).cell 0; simp only [List.getElem?_toArray, List.getElem?_cons_zero] at hz0)
              | (at_builtin; go_must (refine append_row rfl (.tmp 57) (.tmp 63) rfl w1.heap.size _ (.slice A2 m2 c2) (laid l key x (pos l key) ++ [(key, x)]) e.1 e.2 rfl rfl (by exact own_upd Hown2.out ((Upd.refl Nix _).alloc _) (fun _ _ f => f)) (Blk.new _ _ _) Hll2.out (by have := u2.size; simp; omega) ?_; intro A3 m3 c3 w3 Hown3 hu3)))
            go_roundw
            case rel =>
              refine ⟨pos l key + 1, A3, m3, c3, by go_num, by omega, ?_, rfl, by rw [Hstep.out]; exact Hown3, (u2.alloc _).ownNix hu3 (fun j hj => (Hown2.out.lt j hj).1)⟩
              rw [show decide (pos l key < pos l key + 1) = true by simp]
            case measure => simp [intOf]; omega
        · have hk1 : e.1 ≠ key := by
            have hpn : pos l key < l.length := by have := Hlen.out; omega
            have h1 := pos_at l key _ (List.getElem?_eq_getElem hpn)
            have h2 := hr.get hkp (List.getElem?_eq_getElem hpn) Hle2.out
            rintro rfl
            rw [h1] at h2; cases h2
          have hne : (e.1.toList == key.toList) = false := by
            simp only [beq_eq_false_iff_ne, ne_eq]; exact fun h => hk1 (ba_ext h)
          have hdk : decide (pos l key < k) = true := by simpa using hkp
          have Hstep := Lib.hid (laid_after (x := x) Hle2.out hkp)
          clear hk1
          go_wp2_with ((at_builtin; go_must (refine append_row rfl (.tmp 57) (.tmp 63) rfl w1.heap.size _ (.slice A' m' c') (laid l key x k) e.1 e.2 rfl rfl (by exact own_upd Hown.out ((Upd.refl Nix _).alloc _) (fun _ _ f => f)) (Blk.new _ _ _) (by have := Hll.out; have := Hlen.out; omega) (by have := Hwr.out; simp; omega) ?_; intro A2 m2 c2 w2 Hown2 hu2)))
          go_roundw
          case rel =>
            refine ⟨k + 1, A2, m2, c2, by go_num, by omega, ?_, rfl, by rw [Hstep.out]; exact Hown2, (hu.alloc _).ownNix hu2 Hbase.out⟩
            rw [show decide (pos l key < k + 1) = true by simp; omega]
          case measure => simp [intOf]; omega
      · obtain rfl : k = n := by omega
        have hB2 := hB1.upd hu (fun f => f)
        have hC2 := hC1.upd hu (fun f => f)
        have he0 := hB2.cell 0
        have he1 := hB2.cell 1
        have hk0 := hC2.cell 0
        have hk1 := hC2.cell 1
        have hf0 := hC2.frozen 0
        have hf1 := hC2.frozen 1
        simp only [List.getElem?_toArray, List.getElem?_cons_zero, List.getElem?_cons_succ] at he0 he1 hk0 hk1
        have Hwr := Lib.hid hu.size
        have Hs1 := Lib.hid hs1
        by_cases hpk : pos l key < k
        · have hdk : decide (pos l key < k) = true := by simpa using hpk
          have hend := laid_end (x := x) (by have := Hlen.out; omega : pos l key < l.length)
          rw [Hlen.out] at hend
          have Hend := Lib.hid hend; clear hend
          go_wp2
          have hE := (hC2.set_ 0 (.slice A' m' c')).set_ 1 (.int .i64 most)
          have hE0 := hE.cell 0
          have hE1 := hE.cell 1
          simp only [List.getElem?_toArray, List.getElem?_cons_zero, List.getElem?_cons_succ, List.setIfInBounds_toArray, List.set_cons_zero, List.set_cons_succ] at hE0 hE1
          have hown9 := Hown.out
          rw [Hend.out] at hown9
          have hblk9 := own_blk_ne hown9 hC2 (by decide)
          have huF : Upd (fun j => j = w.heap.size + 1) wr ((wr.setCell ⟨w.heap.size + 1, 0, none⟩ (.slice A' m' c')).setCell ⟨w.heap.size + 1, 1, none⟩ (.int .i64 most)) := (((Upd.refl (fun j => j = w.heap.size + 1) _).setCell (p := ⟨w.heap.size + 1, 0, none⟩) (fun _ => rfl) _).setCell (p := ⟨w.heap.size + 1, 1, none⟩) (fun _ => rfl) _)
          refine bodyPost_ret (v := .tuple #[.agg #[.slice A' m' c', .int .i64 most], .bool true]) (by simp [results, Tryd.results13, go_sem, hE0, hE1]) rfl ⟨_, rfl, ?_, ?_⟩
          · exact own_mono (own_upd hown9 huF (fun j hj e => hblk9 (by rw [hj, e]))) (by omega)
          · exact ((u0.thenNix u1).thenNix hu).trans huF (fun j hj e => by omega)
        · have hpe : pos l key = l.length := by have := Hlen.out; omega
          have hnone : look l key = none := by rw [look_pos hr, hpe, List.getElem?_eq_none (Nat.le_refl _)]
          have hdk : decide (pos l key < k) = false := by simpa using hpk
          have hend := laid_end' (x := x) hpe hnone
          rw [Hlen.out] at hend
          have Hend := Lib.hid hend
          have hll := laid_length l key x k
          have Hll := Lib.hid hll
          have Hbase := Lib.hid (fun (j : Nat) (hj : (Value.slice A' m' c').ownBlock = some j) => (Hown.out.lt j hj).1)
          clear hend hpe hnone hll
          go_wp2_with ((at_builtin; go_must (refine append_row rfl (.tmp 67) (.tmp 71) rfl w1.heap.size _ (.slice A' m' c') (laid l key x k) key x rfl rfl (by exact own_upd Hown.out ((Upd.refl Nix _).alloc _) (fun _ _ f => f)) (Blk.new _ _ _) (by have := Hll.out; have := Hlen.out; omega) (by have := Hwr.out; simp; omega) ?_; intro A2 m2 c2 w2 Hown2 hu2; have u2 : Upd Nix w1 w2 := (hu.alloc _).ownNix hu2 Hbase.out; have hB3 := hB1.upd u2 (fun f => f); have hC3 := hC1.upd u2 (fun f => f); have ge0 := hB3.cell 0; have ge1 := hB3.cell 1; have gk0 := hC3.cell 0; have gk1 := hC3.cell 1; have gf0 := hC3.frozen 0; have gf1 := hC3.frozen 1; simp only [List.getElem?_toArray, List.getElem?_cons_zero, List.getElem?_cons_succ] at ge0 ge1 gk0 gk1)))
          have hE := (hC3.set_ 0 (.slice A2 m2 c2)).set_ 1 (.int .i64 most)
          have hE0 := hE.cell 0
          have hE1 := hE.cell 1
          simp only [List.getElem?_toArray, List.getElem?_cons_zero, List.getElem?_cons_succ, List.setIfInBounds_toArray, List.set_cons_zero, List.set_cons_succ] at hE0 hE1
          have hown9 := Hown2.out
          rw [Hend.out] at hown9
          have hblk9 := own_blk_ne hown9 hC3 (by decide)
          have huF : Upd (fun j => j = w.heap.size + 1) w2 ((w2.setCell ⟨w.heap.size + 1, 0, none⟩ (.slice A2 m2 c2)).setCell ⟨w.heap.size + 1, 1, none⟩ (.int .i64 most)) := (((Upd.refl (fun j => j = w.heap.size + 1) _).setCell (p := ⟨w.heap.size + 1, 0, none⟩) (fun _ => rfl) _).setCell (p := ⟨w.heap.size + 1, 1, none⟩) (fun _ => rfl) _)
          refine bodyPost_ret (v := .tuple #[.agg #[.slice A2 m2 c2, .int .i64 most], .bool true]) (by simp [results, Tryd.results13, go_sem, hE0, hE1]) rfl ⟨_, rfl, ?_, ?_⟩
          · exact own_mono (own_upd hown9 huF (fun j hj e => hblk9 (by rw [hj, e]))) (by omega)
          · exact ((u0.thenNix u1).thenNix u2).trans huF (fun j hj e => by omega)
end Go.Proofs.YtfalifenidpdlaaDoor
