/- The walk of TableLast. -/
import Derived.Test.YtfalifenidpdlaaDoorTabG
import Derived.Test.YtfalifenidpdlaaDoorLastA
set_option linter.unusedVariables false
set_option linter.unusedSimpArgs false
namespace Go.Proofs.YtfalifenidpdlaaDoor
open Go Go.RowKit

/-- Put, where there is room or the key is there. -/
theorem put_ok (key : ByteArray) (x : Int) (w : World) (base p : Nat) (v : Value) (l : List (ByteArray × Int)) (most : Int) (h : Tab w base p v l most) (hf : (l.length : Int) ≠ most) (hlen : l.length < 100000) :
    Calls Tryd.prog 8 #[.pointer (some ⟨p, 0, none⟩), .string key, .int .i64 x] w (PutPost w base p v (put l key x) most) := by
  cases hl : look l key with
  | none => exact put_new key x w base p v l most h hl hf hlen
  | some y => exact put_there key x y w base p v l most h hl

theorem Upd.own {w wr w' : World} {p : Nat} {v : Value} (h : Upd Nix w wr) (h2 : Upd (fun j => j = p ∨ some j = v.ownBlock) wr w') (hp : w.heap.size ≤ p) (hv : ∀ k, v.ownBlock = some k → w.heap.size ≤ k) : Upd Nix w w' :=
  h.trans h2 (by
    rintro k hk (rfl | e)
    · omega
    · have := hv k e.symm; omega)

/-- The state of the first loop. -/
def Rel1 (w : World) (base pa pb : Nat) (key : ByteArray) (zs : List (ByteArray × Int)) (n : Nat) (vlast vthere vi : Value) (wr : World) : Prop :=
  ∃ (k : Nat) (va : Value), vi = .int .i64 k ∧ k ≤ n ∧ vlast = .int .i64 ((fin (zs.take k) key).getD 0) ∧ vthere = .bool (fin (zs.take k) key).isSome ∧
    Tab wr base pa va (puts (zs.take k)) 60 ∧ Tab wr base pb (.slice none 0 0) [] 60 ∧ Upd Nix w wr

/-- The state of the second loop. -/
def Rel2 (w : World) (base pa pb : Nat) (va : Value) (zs : List (ByteArray × Int)) (vi : Value) (wr : World) : Prop :=
  ∃ (j : Nat) (q : Int) (vb : Value) (l : List (ByteArray × Int)), vi = .int .i64 q ∧ q = (j : Int) - 1 ∧ j ≤ zs.length ∧ (∀ k, look l k = fin (zs.drop j) k) ∧ l.length ≤ zs.length - j ∧
    Tab wr base pa va (puts zs) 60 ∧ Tab wr base pb vb l 60 ∧ (va.ownBlock = none ∨ va.ownBlock ≠ vb.ownBlock) ∧ Upd Nix w wr

set_option maxRecDepth 100000 in
set_option maxHeartbeats 4000000 in
theorem last_walk (w : World) (hL : Laid w) (A B : Option Addr) (n m cA cB : Nat) (ks : List ByteArray) (xs : List Int) (key : ByteArray) (hk : SeqAt w A n (ks.map .string)) (hx : SeqAt w B m (xs.map (.int .i64))) :
    Calls Tryd.prog 3 #[.slice A n cA, .slice B m cB, .string key] w fun e w' => e = .returned (.bool true) ∧ Upd Nix w w' := by
  have hgl : 0 < w.heap.size := World.block_lt_of_cell? w ⟨0, 0, none⟩ hL
  have HL := Lib.hid hL; clear hL
  by_cases hn : 60 < n
  · go_enter Tryd.func3, Tryd.ntmps3
    go_wp2_with (first
      | (go_at_call 6; go_must (refine (alive_any _ HL.out).mono ?_; rintro e w1 ⟨rfl, u1⟩)))
    go_ret
    exact ⟨rfl, u1⟩
  · go_enter Tryd.func3, Tryd.ntmps3
    go_wp2_with (first
      | (go_at_call 6; go_must (refine (alive_any _ HL.out).mono ?_; rintro e w1 ⟨rfl, u1⟩))
      | (go_at_call 7; refine (new_any 60 w1).mono ?_; rintro e w2 ⟨rfl, hw2⟩; have ha : Tab w2 w.heap.size w1.heap.size (.slice none 0 0) [] 60 := (by subst hw2; exact { tab_new w1 60 with base := u1.size, own := World.ownsRow_nil _ _ _ _ }); have u2 : Upd Nix w1 w2 := (by subst hw2; exact (Upd.refl _ _).alloc _); have s2 : w2.heap.size = w1.heap.size + 1 := (by subst hw2; simp); clear hw2)
      | (go_at_call 7; refine (new_any 60 _).mono ?_; rintro e w3 ⟨rfl, hw3⟩; have hb : Tab w3 w.heap.size w2.heap.size (.slice none 0 0) [] 60 := (by subst hw3; exact { tab_new w2 60 with base := by have := u1.size; omega, own := World.ownsRow_nil _ _ _ _ }); have u3 : Upd Nix w2 w3 := (by subst hw3; exact (Upd.refl _ _).alloc _); clear hw3))
    rw [s2] at hb
    have u : Upd Nix w w3 := (u1.thenNix u2).thenNix u3
    have ha' := ha.nix u3
    have Hks := Lib.hid (hk.1); have Hxs := Lib.hid (hx.1)
    generalize hN : min n m = N
    have HN := Lib.hid hN; clear hN
    obtain ⟨zs, hzs⟩ : ∃ zs, zs = ks.zip xs := ⟨_, rfl⟩
    have Hzs := Lib.hid hzs; clear hzs
    have hpp : w1.heap.size ≠ w1.heap.size + 1 := by omega
    have hpw : w.heap.size ≤ w1.heap.size := u1.size
    generalize w1.heap.size = pa at *
    clear u1 u2 u3 ha s2 
    go_loopw [9, 10, 11] (fun a b c wr => Rel1 w w.heap.size pa (pa + 1) key zs N a b c wr) (fun _ _ i _ => N - (intOf i).toNat)
    case atStart => exact ⟨0, _, rfl, by omega, rfl, rfl, ha', hb, u⟩
    case round =>
      obtain ⟨k, va, rfl, hkN, rfl, rfl, hta, htb, hu⟩ := hrel
      by_cases hlt : k < N
      · have hkn : k < n := by have := HN.out; omega
        have hkm : k < m := by have := HN.out; omega
        obtain ⟨ad, s, rfl, hs, hw1⟩ := hk.get hkn
        obtain ⟨bd, x, rfl, hxk, hw2⟩ := hx.get hkm
        obtain ⟨s, hs', rfl⟩ : ∃ s', ks[k]? = some s' ∧ .string s' = s := by simpa using hs
        obtain ⟨x, hx', rfl⟩ : ∃ x', xs[k]? = some x' ∧ .int .i64 x' = x := by simpa using hxk
        have hz : zs[k]? = some (s, x) := by rw [Hzs.out, List.getElem?_zip_eq_some]; exact ⟨hs', hx'⟩
        have Hz := Lib.hid hz; clear hz hs hxk hs' hx'
        have hc1 := hu.cell hw1 (fun f => f)
        have hc2 := hu.cell hw2 (fun f => f)
        have Hw1 := Lib.hid hw1; have Hw2 := Lib.hid hw2; clear hw1 hw2
        have hk0 : (0 : Int) ≤ (k : Int) := by omega
        have hk1 : (k : Int) < (n : Int) := by omega
        have hk2 : (k : Int) < (m : Int) := by omega
        by_cases hbig : 2000 < s.size
        · have hd : decide ((2000 : Int) < (s.size : Int)) = true := by simp; omega
          go_wp2_with fail
          go_quiet (fail)
          go_wp2
          go_ret
          exact ⟨rfl, hu.drewN _⟩
        · have hd : decide ((2000 : Int) < (s.size : Int)) = false := by simp; omega
          have hlk : (puts (zs.take k)).length ≤ k := Nat.le_trans (puts_length _) (List.length_take_le _ _)
          have hsn : zs.take (k + 1) = zs.take k ++ [(s, x)] := by
            have := Hz.out
            rw [List.take_add_one, this]; rfl
          have hfin := fin_snoc (zs.take k) (s, x) key
          have hputs := puts_snoc (zs.take k) (s, x)
          rw [← hsn] at hfin hputs
          have Hfin := Lib.hid hfin; have Hputs := Lib.hid hputs
          clear hfin hputs hsn
          by_cases hkey : s = key
          · subst hkey
            have hq : (s.toList == s.toList) = true := by simp
            go_wp2_with fail
            go_still_tail 16, (by kernel_rfl)
            change wpList _ _ _ _ _ wr.drew
            go_wp2_with ((go_at_call 8; go_must (refine (put_ok s x _ w.heap.size pa va _ 60 (hta.nix (Upd.refl _ _).drew) (by omega) (by omega)).mono ?_; rintro e w4 ⟨v4, rfl, h4, u4, b4⟩; have u5 : Upd Nix w w4 := hu.drew.own u4 hpw (fun j hj => (hta.own.lt j hj).1); have hc3 := u5.cell Hw1.out (fun f => f); have hc4 := u5.cell Hw2.out (fun f => f))))
            go_roundw
            case rel =>
              refine ⟨k + 1, v4, by go_num, by omega, ?_, ?_, ?_, ?_, u5⟩
              · rw [Hfin.out]; simp
              · rw [Hfin.out]; simp
              · rw [Hputs.out]; exact h4
              · refine htb.upd ((Upd.refl _ _).drew.trans u4 (fun _ _ f => f)) ?_ (fun j hj => by cases hj)
                rintro (e | e)
                · omega
                · rcases own_slice hta.own with ⟨A9, c9, rfl⟩
                  exact own_blk_ne hta.own htb.blk (by decide) e.symm
            case measure => simp [intOf]; omega
          · have hq : (s.toList == key.toList) = false := by
              simp only [beq_eq_false_iff_ne, ne_eq]
              exact fun e => hkey (ba_ext e)
            go_wp2_with fail
            go_still_tail 16, (by kernel_rfl)
            change wpList _ _ _ _ _ wr.drew
            go_wp2_with ((go_at_call 8; go_must (refine (put_ok s x _ w.heap.size pa va _ 60 (hta.nix (Upd.refl _ _).drew) (by omega) (by omega)).mono ?_; rintro e w4 ⟨v4, rfl, h4, u4, b4⟩; have u5 : Upd Nix w w4 := hu.drew.own u4 hpw (fun j hj => (hta.own.lt j hj).1); have hc3 := u5.cell Hw1.out (fun f => f); have hc4 := u5.cell Hw2.out (fun f => f))))
            go_roundw
            case rel =>
              refine ⟨k + 1, v4, by go_num, by omega, ?_, ?_, ?_, ?_, u5⟩
              · rw [Hfin.out]; simp [hkey]
              · rw [Hfin.out]; simp [hkey]
              · rw [Hputs.out]; exact h4
              · refine htb.upd ((Upd.refl _ _).drew.trans u4 (fun _ _ f => f)) ?_ (fun j hj => by cases hj)
                rintro (e | e)
                · omega
                · exact own_blk_ne hta.own htb.blk (by decide) e.symm
            case measure => simp [intOf]; omega
      · obtain rfl : k = N := by omega
        have hzl : zs.length = k := by rw [Hzs.out, List.length_zip]; have h1 := Hks.out; have h2 := Hxs.out; simp only [List.length_map] at h1 h2; have := HN.out; omega
        have htk : zs.take k = zs := List.take_of_length_le (by omega)
        rw [htk] at hta ⊢
        clear htk
        have Hzl := Lib.hid hzl; clear hzl
        have hside : (k < n ∧ k ≤ n ∧ m = k) ∨ (¬ k < n ∧ k ≤ m ∧ n = k) := by have := HN.out; omega
        rcases hside with ⟨hkn, hle, rfl⟩ | ⟨hkn, hle, rfl⟩
        all_goals
          go_wp2_with fail
          go_loopw [12] (fun a wr => Rel2 w w.heap.size pa (pa + 1) va zs a wr) (fun i _ => (intOf i + 1).toNat)
          case atStart =>
            exact ⟨_, _, .slice none 0 0, [], rfl, rfl, Nat.le_of_eq Hzl.out.symm, fun k => by rw [List.drop_of_length_le (by have := Hzl.out; omega)]; rfl, by simp, hta, htb, by rcases hob : va.ownBlock with _ | g <;> simp [Value.ownBlock], hu⟩
          case round =>
            obtain ⟨j, q, vb, l, rfl, hq, hjz, hlk, hll, hta2, htb2, hsep, hu2⟩ := hrel
            have Hlk := Lib.hid hlk; clear hlk
            have hz60 : zs.length ≤ 60 := by have := Hzl.out; omega
            by_cases hj : 0 < j
            · obtain ⟨i, rfl⟩ : ∃ i, j = i + 1 := ⟨j - 1, by omega⟩
              obtain rfl : q = (i : Int) := by omega
              clear hq
              have hin : i < n := by have := Hzl.out; omega
              have him : i < m := by have := Hzl.out; omega
              obtain ⟨ad, s, rfl, hs, hw1⟩ := hk.get hin
              obtain ⟨bd, x, rfl, hxk, hw2⟩ := hx.get him
              obtain ⟨s, hs', rfl⟩ : ∃ s', ks[i]? = some s' ∧ .string s' = s := by simpa using hs
              obtain ⟨x, hx', rfl⟩ : ∃ x', xs[i]? = some x' ∧ .int .i64 x' = x := by simpa using hxk
              have hz : zs[i]? = some (s, x) := by rw [Hzs.out, List.getElem?_zip_eq_some]; exact ⟨hs', hx'⟩
              have Hz := Lib.hid hz; clear hz hs hxk hs' hx'
              have hc1 := hu2.cell hw1 (fun f => f)
              have Hw1 := Lib.hid hw1; have Hw2 := Lib.hid hw2; clear hw1 hw2
              have hk0 : (0 : Int) ≤ (i : Int) := by omega
              have hk1 : (i : Int) < (n : Int) := by omega
              have hk2 : (i : Int) < (m : Int) := by omega
              have hfin : ∀ k, fin (zs.drop i) k = (look l k).or (if s = k then some x else none) := fun k => by
                have hil : i < zs.length := by omega
                have he : zs[i] = (s, x) := by have := Hz.out; rw [List.getElem?_eq_getElem hil] at this; exact Option.some.inj this
                rw [List.drop_eq_getElem_cons hil, fin_cons, ← Hlk.out, he]
              have Hfin := Lib.hid hfin; clear hfin
              have hbp : ∀ j, vb.ownBlock = some j → w.heap.size ≤ j := fun j hj => (htb2.own.lt j hj).1
              cases hhas : look l s with
              | some y =>
                have Hhas := Lib.hid hhas
                have hsome : (look l s).isSome = true := by rw [hhas]; rfl
                clear hhas
                go_wp2_with (first | (go_at_call 9; go_must (refine (get_any s _ w.heap.size (pa + 1) vb l 60 htb2).mono ?_; rintro e w4 ⟨rfl, u4⟩)))
                go_quiet (fail)
                go_wp2
                go_roundw
                case rel =>
                  refine ⟨i, (i : Int) - 1, vb, l, by go_num, rfl, by omega, fun k => ?_, by omega, hta2.nix (u4.drewN _), htb2.nix (u4.drewN _), hsep, hu2.thenNix (u4.drewN _)⟩
                  rw [Hfin.out]
                  by_cases e : s = k
                  · subst e; rw [Hhas.out]; rfl
                  · rw [if_neg e]; simp
                case measure => first | (simp [intOf]; done) | (simp [intOf]; omega)
              | none =>
                have Hhas := Lib.hid hhas
                have hsome : (look l s).isSome = false := by rw [hhas]; rfl
                have hr := htb2.rising
                have Hlp := Lib.hid (look_put hr s x)
                have Hpl := Lib.hid (put_length hr s x)
                clear hhas
                go_wp2_with (first | (go_at_call 9; go_must (refine (get_any s _ w.heap.size (pa + 1) vb l 60 htb2).mono ?_; rintro e w4 ⟨rfl, u4⟩; have hc1 := (hu2.thenNix u4).cell Hw1.out (fun f => f); have hc2 := (hu2.thenNix u4).cell Hw2.out (fun f => f))))
                go_still_tail 12, (by kernel_rfl)
                change wpList _ _ _ _ _ w4.drew
                go_wp2_with ((go_at_call 8; go_must (refine (put_ok s x _ w.heap.size (pa + 1) vb _ 60 (htb2.nix (u4.drew)) (by omega) (by omega)).mono ?_; rintro e w5 ⟨v5, rfl, h5, u5, b5⟩)))
                go_roundw
                case rel =>
                  have hu5 : Upd Nix w w5 := (hu2.thenNix u4.drew).own u5 (by omega) hbp
                  refine ⟨i, (i : Int) - 1, v5, put l s x, by go_num, rfl, by omega, fun k => ?_, ?_, ?_, h5, ?_, hu5⟩
                  · rw [Hlp.out, Hfin.out]
                    by_cases e : s = k
                    · subst e; rw [Hhas.out]; simp
                    · simp [e]
                  · rw [Hpl.out, Hhas.out]; simp; omega
                  · refine hta2.upd ((u4.drew.nix _).trans u5 (fun _ _ f => f)) ?_ ?_
                    · rintro (e | e)
                      · omega
                      · exact own_blk_ne htb2.own hta2.blk (by decide) e.symm
                    · rintro k hk (e | e)
                      · exact own_blk_ne hta2.own htb2.blk (by decide) (by rw [hk, e])
                      · rcases hsep with h9 | h9
                        · rw [hk] at h9; cases h9
                        · exact h9 (by rw [hk, e])
                  · rcases b5 with h9 | ⟨jj, h9, h10⟩
                    · rw [h9]; exact hsep
                    · rcases hob : va.ownBlock with _ | kk
                      · exact .inl rfl
                      · have h11 := (hta2.own.lt kk hob).2
                        have h12 := u4.size
                        refine .inr ?_
                        rw [h9]
                        intro e
                        have := Option.some.inj e
                        simp at h10
                        omega
                case measure => first | (simp [intOf]; done) | (simp [intOf]; omega)
            · obtain rfl : j = 0 := by omega
              obtain rfl : q = -1 := by omega
              clear hq hj hjz hll
              have hlz : l = puts zs := look_ext htb2.rising (puts_rising zs) fun k => by rw [Hlk.out, look_puts]; rfl
              subst hlz
              have hlp := look_puts zs key
              have hdel : look (del (puts zs) key) key = none := by rw [look_del, if_pos rfl]
              have Hdel := Lib.hid hdel
              clear hdel
              go_wp2_with (first
                | (go_at_call 9; (with_reducible refine (get_any key _ w.heap.size (pa + 1) vb _ 60 (htb2.nix u4)).mono ?_); rintro e w5 ⟨rfl, u5⟩)
                | (go_at_call 9; (with_reducible refine (get_any key _ w.heap.size pa va _ 60 hta2).mono ?_); rintro e w4 ⟨rfl, u4⟩)
                | (go_at_call 10; (with_reducible refine (len_any _ w.heap.size pa va _ 60 (hta2.nix (u4.thenNix u5))).mono ?_); rintro e w6 ⟨rfl, rfl⟩)
                | (go_at_call 10; (with_reducible refine (len_any _ w.heap.size (pa + 1) vb _ 60 (htb2.nix (u4.thenNix u5))).mono ?_); rintro e w7 ⟨rfl, rfl⟩)
                | (go_at_call 11; (with_reducible refine (drop_none key _ w.heap.size pa v8 _ 60 h8 Hdel.out).mono ?_); rintro e w9 ⟨rfl, u9⟩)
                | (go_at_call 11; (with_reducible refine (drop_any key _ w.heap.size pa va _ 60 (hta2.nix (u4.thenNix u5))).mono ?_); rintro e w8 ⟨v8, rfl, h8, u8, b8⟩))
              go_ret
              exact ⟨rfl, (((hu2.thenNix u4).thenNix u5).own u8 hpw (fun j hj => (hta2.own.lt j hj).1)).thenNix u9⟩
end Go.Proofs.YtfalifenidpdlaaDoor
