/- The walk of TablePlays. -/
import Derived.Test.YtfalifenidpdlaaDoorPlaysA
set_option linter.unusedVariables false
set_option linter.unusedSimpArgs false
namespace Go.Proofs.YtfalifenidpdlaaDoor
open Go Go.RowKit Go.Shelf
attribute [local go_sem] Oper.semAt_some

theorem abox_ne {w : World} {base p : Nat} {v : Value} {l : List (ByteArray × Int)} {M : Int} {g : Nat} {cs : Array Value} (hb : Blk w g 41 cs) (h : Tab w base p v l M) : ¬ (g = p ∨ some g = v.ownBlock) := by
  rintro (e | e)
  · exact Blk.ne_ (t := 41) hb (e ▸ h.blk) (by decide) rfl
  · exact own_blk_ne h.own hb (by decide) e.symm

def PI (W0 : World) (Bn : Nat) (pre : List (ByteArray × Int)) (W : World) : Prop := Blk W Bn 3 #[.int .i64 pre.length] ∧ Upd (fun k => k = Bn) W0 W
theorem pi_from {W0 : World} {Bn : Nat} (hn : Bn < W0.heap.size) : OwnFrom W0.heap.size (PI W0 Bn) := fun s A B row hs hg hr =>
  ⟨(hg.block Bn hs.1.lt (fun e => by have := (hr Bn e.symm).1; omega)).trans hs.1, upd_from hs.2 hg hr⟩
theorem St.mark {w : World} {pb : Nat} {M : Int} {Ds : List Nat} {base p : Nat} {v : Value} {lt : List (ByteArray × Int)} {vm : Value} {lm : List (ByteArray × Int)} {wr : World} {D : Nat} (h : St w pb M Ds base p v lt vm lm wr) (h1 : w.heap.size ≤ D)
    (h2 : wr.heap[D]? = some (.deferred (some []))) (h3 : ∀ E, E ∈ Ds → E < D) : St w pb M (D :: Ds) base p v lt vm lm wr :=
  ⟨h.tab, h.low, h.box, h.boxlow, h.rown, h.upd, fun E hE => (List.mem_cons.1 hE).elim (fun e => by subst e; exact ⟨h1, h2⟩) (h.defs E), List.nodup_cons.2 ⟨fun hm => by have := h3 D hm; omega, h.nodup⟩⟩

def PRel (w : World) (pb : Nat) (M : Int) (n : Nat) (Ds : List Nat) (t i : Value) (wr : World) : Prop :=
  ∃ (k base p : Nat) (v : Value) (l : List (ByteArray × Int)) (vm : Value), t = .pointer (some ⟨p, 0, none⟩) ∧ i = .int .i64 k ∧ k ≤ n ∧ k ≤ 100 ∧ l.length ≤ k ∧ (l.length : Int) ≤ M ∧ St w pb M Ds base p v l vm l wr
def PlaysI (w : World) (pb : Nat) (M most : Int) (A : Option Addr) (n cA : Nat) (a : Act) (wr : World) : Prop :=
  ∃ (u : Nat → Value) (t i : Value) (Ds : List Nat), PRel w pb M n Ds t i wr ∧ a = { tmps := List.toArray (.int .i64 most :: .slice A n cA :: u 2 :: u 3 :: u 4 :: t :: .pointer (some ⟨pb, 0, none⟩) :: i :: u 8 :: u 9 :: u 10 :: u 11 :: u 12 :: u 13 :: u 14 :: u 15 :: u 16 :: u 17 :: u 18 :: u 19 :: u 20 :: u 21 :: u 22 :: u 23 :: u 24 :: u 25 :: u 26 :: u 27 :: u 28 :: u 29 :: u 30 :: u 31 :: u 32 :: u 33 :: u 34 :: u 35 :: u 36 :: u 37 :: u 38 :: u 39 :: u 40 :: u 41 :: u 42 :: u 43 :: u 44 :: u 45 :: u 46 :: u 47 :: u 48 :: u 49 :: u 50 :: u 51 :: u 52 :: u 53 :: u 54 :: u 55 :: u 56 :: u 57 :: u 58 :: u 59 :: u 60 :: u 61 :: u 62 :: u 63 :: u 64 :: u 65 :: u 66 :: u 67 :: u 68 :: u 69 :: u 70 :: u 71 :: u 72 :: u 73 :: u 74 :: u 75 :: u 76 :: u 77 :: u 78 :: u 79 :: u 80 :: u 81 :: u 82 :: u 83 :: u 84 :: u 85 :: u 86 :: u 87 :: u 88 :: u 89 :: u 90 :: u 91 :: u 92 :: u 93 :: u 94 :: u 95 :: u 96 :: u 97 :: u 98 :: u 99 :: u 100 :: u 101 :: u 102 :: u 103 :: u 104 :: u 105 :: u 106 :: u 107 :: u 108 :: u 109 :: u 110 :: u 111 :: u 112 :: u 113 :: u 114 :: u 115 :: u 116 :: u 117 :: u 118 :: u 119 :: u 120 :: u 121 :: u 122 :: u 123 :: u 124 :: u 125 :: u 126 :: u 127 :: u 128 :: u 129 :: u 130 :: u 131 :: u 132 :: u 133 :: u 134 :: u 135 :: u 136 :: u 137 :: u 138 :: u 139 :: u 140 :: u 141 :: u 142 :: u 143 :: u 144 :: u 145 :: u 146 :: u 147 :: u 148 :: u 149 :: u 150 :: u 151 :: u 152 :: u 153 :: u 154 :: u 155 :: []), defers := marks Ds }
theorem PlaysI.intro {w : World} {pb : Nat} {M most : Int} {A : Option Addr} {n cA : Nat} (a : Act) {wr : World} (Ds : List Nat) (h : PRel w pb M n Ds (a.tmps.getD 5 undef) (a.tmps.getD 7 undef) wr)
    (he : a = { tmps := List.toArray (.int .i64 most :: .slice A n cA :: a.tmps.getD 2 undef :: a.tmps.getD 3 undef :: a.tmps.getD 4 undef :: a.tmps.getD 5 undef :: .pointer (some ⟨pb, 0, none⟩) :: a.tmps.getD 7 undef :: a.tmps.getD 8 undef :: a.tmps.getD 9 undef :: a.tmps.getD 10 undef :: a.tmps.getD 11 undef :: a.tmps.getD 12 undef :: a.tmps.getD 13 undef :: a.tmps.getD 14 undef :: a.tmps.getD 15 undef :: a.tmps.getD 16 undef :: a.tmps.getD 17 undef :: a.tmps.getD 18 undef :: a.tmps.getD 19 undef :: a.tmps.getD 20 undef :: a.tmps.getD 21 undef :: a.tmps.getD 22 undef :: a.tmps.getD 23 undef :: a.tmps.getD 24 undef :: a.tmps.getD 25 undef :: a.tmps.getD 26 undef :: a.tmps.getD 27 undef :: a.tmps.getD 28 undef :: a.tmps.getD 29 undef :: a.tmps.getD 30 undef :: a.tmps.getD 31 undef :: a.tmps.getD 32 undef :: a.tmps.getD 33 undef :: a.tmps.getD 34 undef :: a.tmps.getD 35 undef :: a.tmps.getD 36 undef :: a.tmps.getD 37 undef :: a.tmps.getD 38 undef :: a.tmps.getD 39 undef :: a.tmps.getD 40 undef :: a.tmps.getD 41 undef :: a.tmps.getD 42 undef :: a.tmps.getD 43 undef :: a.tmps.getD 44 undef :: a.tmps.getD 45 undef :: a.tmps.getD 46 undef :: a.tmps.getD 47 undef :: a.tmps.getD 48 undef :: a.tmps.getD 49 undef :: a.tmps.getD 50 undef :: a.tmps.getD 51 undef :: a.tmps.getD 52 undef :: a.tmps.getD 53 undef :: a.tmps.getD 54 undef :: a.tmps.getD 55 undef :: a.tmps.getD 56 undef :: a.tmps.getD 57 undef :: a.tmps.getD 58 undef :: a.tmps.getD 59 undef :: a.tmps.getD 60 undef :: a.tmps.getD 61 undef :: a.tmps.getD 62 undef :: a.tmps.getD 63 undef :: a.tmps.getD 64 undef :: a.tmps.getD 65 undef :: a.tmps.getD 66 undef :: a.tmps.getD 67 undef :: a.tmps.getD 68 undef :: a.tmps.getD 69 undef :: a.tmps.getD 70 undef :: a.tmps.getD 71 undef :: a.tmps.getD 72 undef :: a.tmps.getD 73 undef :: a.tmps.getD 74 undef :: a.tmps.getD 75 undef :: a.tmps.getD 76 undef :: a.tmps.getD 77 undef :: a.tmps.getD 78 undef :: a.tmps.getD 79 undef :: a.tmps.getD 80 undef :: a.tmps.getD 81 undef :: a.tmps.getD 82 undef :: a.tmps.getD 83 undef :: a.tmps.getD 84 undef :: a.tmps.getD 85 undef :: a.tmps.getD 86 undef :: a.tmps.getD 87 undef :: a.tmps.getD 88 undef :: a.tmps.getD 89 undef :: a.tmps.getD 90 undef :: a.tmps.getD 91 undef :: a.tmps.getD 92 undef :: a.tmps.getD 93 undef :: a.tmps.getD 94 undef :: a.tmps.getD 95 undef :: a.tmps.getD 96 undef :: a.tmps.getD 97 undef :: a.tmps.getD 98 undef :: a.tmps.getD 99 undef :: a.tmps.getD 100 undef :: a.tmps.getD 101 undef :: a.tmps.getD 102 undef :: a.tmps.getD 103 undef :: a.tmps.getD 104 undef :: a.tmps.getD 105 undef :: a.tmps.getD 106 undef :: a.tmps.getD 107 undef :: a.tmps.getD 108 undef :: a.tmps.getD 109 undef :: a.tmps.getD 110 undef :: a.tmps.getD 111 undef :: a.tmps.getD 112 undef :: a.tmps.getD 113 undef :: a.tmps.getD 114 undef :: a.tmps.getD 115 undef :: a.tmps.getD 116 undef :: a.tmps.getD 117 undef :: a.tmps.getD 118 undef :: a.tmps.getD 119 undef :: a.tmps.getD 120 undef :: a.tmps.getD 121 undef :: a.tmps.getD 122 undef :: a.tmps.getD 123 undef :: a.tmps.getD 124 undef :: a.tmps.getD 125 undef :: a.tmps.getD 126 undef :: a.tmps.getD 127 undef :: a.tmps.getD 128 undef :: a.tmps.getD 129 undef :: a.tmps.getD 130 undef :: a.tmps.getD 131 undef :: a.tmps.getD 132 undef :: a.tmps.getD 133 undef :: a.tmps.getD 134 undef :: a.tmps.getD 135 undef :: a.tmps.getD 136 undef :: a.tmps.getD 137 undef :: a.tmps.getD 138 undef :: a.tmps.getD 139 undef :: a.tmps.getD 140 undef :: a.tmps.getD 141 undef :: a.tmps.getD 142 undef :: a.tmps.getD 143 undef :: a.tmps.getD 144 undef :: a.tmps.getD 145 undef :: a.tmps.getD 146 undef :: a.tmps.getD 147 undef :: a.tmps.getD 148 undef :: a.tmps.getD 149 undef :: a.tmps.getD 150 undef :: a.tmps.getD 151 undef :: a.tmps.getD 152 undef :: a.tmps.getD 153 undef :: a.tmps.getD 154 undef :: a.tmps.getD 155 undef :: []), defers := marks Ds }) : PlaysI w pb M most A n cA a wr := ⟨fun i => a.tmps.getD i undef, _, _, Ds, h, he⟩
def PlaysMu (a : Act) (_ : World) : Nat := 100 - (intOf (a.tmps.getD 7 undef)).toNat

set_option maxRecDepth 100000 in
set_option maxHeartbeats 8000000 in
theorem plays_walk (w : World) (hL : Laid w) (most : Int) (hm1 : most ≤ 9223372036854775807) (A : Option Addr) (n cA : Nat) (acs : List (Int × Int × ByteArray)) (has : ActsAt w A n acs) :
    Calls Tryd.prog 4 #[.int .i64 most, .slice A n cA] w fun e w' => e = .returned (.bool true) ∧ Upd Nix w w' := by
  have hgl : 0 < w.heap.size := World.block_lt_of_cell? w ⟨0, 0, none⟩ hL
  have HL := Lib.hid hL; clear hL
  have hfn := run_eql_func
  have Hhas := Lib.hid has; clear has
  obtain ⟨M, hM⟩ : ∃ M, M = max most 0 := ⟨_, rfl⟩
  have hM0 : 0 ≤ M := by omega
  have hM1 : M ≤ 9223372036854775807 := by omega
  refine callsIn_wide.1 (callsIn_of_wp_marks (n := 3) Tryd.func4 rfl trivial ?_ rfl)
  simp only [Tryd.ntmps4, List.size_toArray, List.length_cons, List.length_nil, Nat.reduceAdd, Nat.reduceSub, Array.replicate_succ, Array.replicate_zero, List.push_toArray, List.append_toArray, List.nil_append, List.cons_append]
  refine wpIn_wide.2 ?_
  go_wp2_with (first
    | (go_at_call 6; go_must (refine (alive_any _ HL.out).mono ?_; rintro e w1 ⟨rfl, u1⟩))
    | (go_at_call 7; refine (new_any most w1).mono ?_; rintro e w2 ⟨rfl, hw2⟩; have ha : Tab w2 w1.heap.size w1.heap.size (.slice none 0 0) [] (max most 0) := (by subst hw2; exact tab_new w1 _); have u2 : Upd Nix w1 w2 := (by subst hw2; exact (Upd.refl _ _).alloc _); clear hw2)
    | (go_at_call 12; refine (rnew_any most w2).mono ?_; rintro e w3 ⟨rfl, u3⟩))
  rw [← hM]
  rw [← hM] at ha
  have HM := Lib.hid hM; clear hM
  have s1 := u1.size
  have s23 := (u2.thenNix u3).size
  have hst0 : St w w3.heap.size M [] w1.heap.size w1.heap.size (.slice none 0 0) [] (.slice none 0 0) [] (w3.alloc (.cells #[.slice none 0 0, .int .i64 M] 38)) :=
    ⟨(ha.nix u3).nix ((Upd.refl _ _).alloc _), s1, Blk.new _ _ _, by omega, World.ownsRow_nil _ _ _ _, (((u1.thenNix u2).thenNix u3).alloc _), fun D h => (by cases h), List.nodup_nil⟩
  generalize w3.heap.size = pb at *
  clear ha u1 u2 u3 s1 s23
  refine wp_loop (PlaysI w pb M most A n cA) PlaysMu ?_ ?_
  · exact PlaysI.intro _ [] ⟨0, _, _, _, [], _, rfl, rfl, by omega, by omega, by simp, by simpa using hM0, hst0⟩ (by kernel_rfl)
  clear hst0
  rintro a wr ⟨u, t, i, Ds, hrel, rfl⟩
  obtain ⟨k, base, p, v, l, vm, rfl, rfl, hkn, hk100, hlk, hlM, hst⟩ := hrel
  by_cases hge : n ≤ k
  · have hlt : ¬ k < n := by omega
    clear hge
    go_wp2
    refine leaves_marks' Ds _ hst.nodup (fun D hD => (hst.defs D hD).2) (fun W' hu' => ⟨.bool true, by simp [results, Tryd.f4, go_sem], rfl, hst.upd.trans hu' (fun j hj hm => by have := (hst.defs j hm).1; exact (by omega : False).elim)⟩)
  have hlt : k < n := by omega
  clear hge
  by_cases h100 : 100 ≤ k
  · have h100' : decide ((k : Int) < 100) = false := by simp; omega
    go_wp2
    refine leaves_marks' Ds _ hst.nodup (fun D hD => (hst.defs D hD).2) (fun W' hu' => ⟨.bool true, by simp [results, Tryd.f4, go_sem], rfl, hst.upd.trans hu' (fun j hj hm => by have := (hst.defs j hm).1; exact (by omega : False).elim)⟩)
  have h100' : decide ((k : Int) < 100) = true := by simp; omega
  obtain ⟨ad, ⟨kind, val, key⟩, rfl, hae, hx0, hx1, hx2⟩ := Hhas.out.get hlt
  have hc0 := hst.upd.cell hx0 (fun f => f)
  have hc1 := hst.upd.cell hx1 (fun f => f)
  have hc2 := hst.upd.cell hx2 (fun f => f)
  clear hx0 hx1 hx2 hae
  dsimp only at hc0 hc1 hc2
  have hk0 : (0 : Int) ≤ (k : Int) := by omega
  have hk1 : (k : Int) < (n : Int) := by omega
  obtain ⟨A2, m2, c2, rfl, Hm2⟩ := own_slice_ hst.rown
  obtain ⟨wa, hwa⟩ : ∃ wa, wa = wr.alloc (.cells #[.int .i64 kind, .int .i64 val, .string key] 41) := ⟨_, rfl⟩
  have uwa : Upd Nix wr wa := by rw [hwa]; exact (Upd.refl _ _).alloc _
  have hBa : Blk wa wr.heap.size 41 #[.int .i64 kind, .int .i64 val, .string key] := by rw [hwa]; exact Blk.new _ _ _
  have Hwa := Lib.hid hwa; clear hwa
  have hsa := hst.nix uwa
  by_cases hbig : 2000 < key.size
  · have hd : decide ((2000 : Int) < (key.size : Int)) = true := by simp; omega
    go_wp2
    rw [← Hwa.out]
    refine leaves_marks' Ds _ hsa.nodup (fun D hD => (hsa.defs D hD).2) (fun W' hu' => ⟨.bool true, by simp [results, Tryd.f4, go_sem], rfl, hsa.upd.trans hu' (fun j hj hm => by have := (hsa.defs j hm).1; exact (by omega : False).elim)⟩)
  have hd : decide ((2000 : Int) < (key.size : Int)) = false := by simp; omega
  clear hbig
  have hmx : ∀ j : Int, 0 ≤ j → True := fun _ _ => trivial
  clear hmx
  have hb0 := hsa.box.cell 0
  have hb1 := hsa.box.cell 1
  rw [Hwa.out] at hb0 hb1
  simp only [List.getElem?_toArray, List.getElem?_cons_zero, List.getElem?_cons_succ] at hb0 hb1
  have hm2n : m2 ≤ 100 := by have := Hm2.out; omega
  have Hmn := Lib.hid hm2n; clear hm2n
  by_cases h0 : kind = 0
  · subst h0
    by_cases hfull : look l key = none ∧ M ≤ (l.length : Int)
    · obtain ⟨hf1, hf2⟩ := hfull
      have Hf1 := Lib.hid hf1; clear hf1
      have Hf2 := Lib.hid hf2; clear hf2
      have hLl : ∀ w', Upd Nix w w' → Laid w' := fun w' hu => HL.out.upd hu (fun f => f)
      have HLl := Lib.hid hLl; clear hLl
      go_wp2_with (first
        | (go_at_call 13; go_must (rw [← Hwa.out]; refine (rput_full key val A2 m2 c2 M l wa (rown_at hsa.rown).1 hsa.tab.rising (by have := Hmn.out; omega) Hf1.out (by have := Hm2.out; have := Hf2.out; omega)).mono ?_; rintro e w1 ⟨rfl, u1⟩; have s1 := hsa.nix u1; have hB1 := hBa.upd u1 (fun f => f); have c0w := s1.box.cell 0; have c1w := s1.box.cell 1; have a1w := hB1.cell 1; have a2w := hB1.cell 2; simp only [List.getElem?_toArray, List.getElem?_cons_zero, List.getElem?_cons_succ] at c0w c1w a1w a2w; have hal := s1.nix ((Upd.refl Nix w1).alloc (.cells #[.slice A2 m2 c2, .int .i64 M] 38)); have hbal := hB1.alloc (.cells #[.slice A2 m2 c2, .int .i64 M] 38); have hne : wr.heap.size ≠ pb := (Blk.ne_ (t := 41) hbal hal.box (by decide)); have l0 := hal.box.cell 0; have l1 := hal.box.cell 1; have f0 := hal.box.frozen 0; have f1 := hal.box.frozen 1; simp only [List.getElem?_toArray, List.getElem?_cons_zero, List.getElem?_cons_succ] at l0 l1; have l2 := (hal.box.set_ 0 (.slice A2 m2 c2)).cell 1; have f2 := (hal.box.set_ 0 (.slice A2 m2 c2)).frozen 1; simp only [List.getElem?_toArray, List.getElem?_cons_zero, List.getElem?_cons_succ, List.setIfInBounds_toArray, List.set_cons_zero] at l2; obtain ⟨X1, hX1⟩ : ∃ X1, X1 = (((w1.alloc (.cells #[.slice A2 m2 c2, .int .i64 M] 38)).setCell ⟨pb, 0, none⟩ (.slice A2 m2 c2)).setCell ⟨pb, 1, none⟩ (.int .i64 M)) := ⟨_, rfl⟩; have sX : St w pb M Ds base p v l (.slice A2 m2 c2) (l) X1 := (by rw [hX1]; exact hal.setm hal.rown); have hBX : Blk X1 wr.heap.size 41 #[.int .i64 0, .int .i64 val, .string key] := (by rw [hX1]; exact (hbal.far (p := ⟨pb, 0, none⟩) hne _).far (p := ⟨pb, 1, none⟩) hne _); have c0X := sX.box.cell 0; have c1X := sX.box.cell 1; have a1X := hBX.cell 1; have a2X := hBX.cell 2; rw [hX1] at c0X c1X a1X a2X; simp only [List.getElem?_toArray, List.getElem?_cons_zero, List.getElem?_cons_succ] at c0X c1X a1X a2X; have HX1 := Lib.hid hX1; clear hX1 hne))
        | (go_at_call 8; go_must (rw [← HX1.out]; refine (put_full key val X1 base p v l M sX.tab Hf1.out (by have := Hf2.out; omega)).mono ?_; rintro e w3 ⟨rfl, u3⟩; have s3 := sX.nix u3; have hB3 := hBX.upd u3 (fun f => f); have c0y := s3.box.cell 0; have c1y := s3.box.cell 1; have a1y := hB3.cell 1; have a2y := hB3.cell 2; simp only [List.getElem?_toArray, List.getElem?_cons_zero, List.getElem?_cons_succ] at c0y c1y a1y a2y))
        | (go_at_call 14; go_must (refine (num_errno 180 w3 (HLl.out _ s3.upd)).mono ?_; rintro e w4 ⟨rfl, u4⟩; have s4 := s3.nix u4; have hB4 := hB3.upd u4 (fun f => f); have c0z := s4.box.cell 0; have c1z := s4.box.cell 1; have a1z := hB4.cell 1; have a2z := hB4.cell 2; simp only [List.getElem?_toArray, List.getElem?_cons_zero, List.getElem?_cons_succ] at c0z c1z a1z a2z))
        | (go_at_call 19; go_must (refine (shows_any w4 base p v (l) M _ s4.tab hM0 hM1 A2 m2 c2 (rown_at s4.rown).1 (rown_at s4.rown).2).mono ?_; rintro e w9 ⟨rfl, u9⟩)))

      refine ⟨PlaysI.intro _ (Ds) ⟨k + 1, base, p, v, l, _, rfl, rfl, by omega, by omega, by omega, hlM, s4.nix u9⟩ (by kernel_rfl), ?_⟩
      show 100 - (intOf (.int .i64 ((k : Int) + 1))).toNat < 100 - (intOf (.int .i64 (k : Int))).toNat
      simp only [intOf]
      omega
    · have Hno := Lib.hid hfull; clear hfull
      have hpl := put_len hsa.tab.rising key val hlM Hno.out
      have Hpl := Lib.hid hpl; clear hpl
      go_wp2_with (first
        | (go_at_call 13; go_must (rw [← Hwa.out]; refine (rput_ok key val A2 m2 c2 M l wa (rown_at hsa.rown).1 hsa.tab.rising (by have := Hmn.out; omega) (by have := Hm2.out; have := Hno.out; rw [Hm2.out]; exact Hno.out)).mono ?_; rintro e w1 ⟨v1, rfl, hown1, u1⟩; obtain ⟨A5, m5, c5, rfl, Hm5⟩ := own_slice_ hown1; have s1 := hsa.nix u1; have hB1 := hBa.upd u1 (fun f => f); have c0w := s1.box.cell 0; have c1w := s1.box.cell 1; have a1w := hB1.cell 1; have a2w := hB1.cell 2; simp only [List.getElem?_toArray, List.getElem?_cons_zero, List.getElem?_cons_succ] at c0w c1w a1w a2w; have hal := s1.nix ((Upd.refl Nix w1).alloc (.cells #[.slice A5 m5 c5, .int .i64 M] 38)); have hbal := hB1.alloc (.cells #[.slice A5 m5 c5, .int .i64 M] 38); have hne : wr.heap.size ≠ pb := (Blk.ne_ (t := 41) hbal hal.box (by decide)); have l0 := hal.box.cell 0; have l1 := hal.box.cell 1; have f0 := hal.box.frozen 0; have f1 := hal.box.frozen 1; simp only [List.getElem?_toArray, List.getElem?_cons_zero, List.getElem?_cons_succ] at l0 l1; have l2 := (hal.box.set_ 0 (.slice A5 m5 c5)).cell 1; have f2 := (hal.box.set_ 0 (.slice A5 m5 c5)).frozen 1; simp only [List.getElem?_toArray, List.getElem?_cons_zero, List.getElem?_cons_succ, List.setIfInBounds_toArray, List.set_cons_zero] at l2; obtain ⟨X1, hX1⟩ : ∃ X1, X1 = (((w1.alloc (.cells #[.slice A5 m5 c5, .int .i64 M] 38)).setCell ⟨pb, 0, none⟩ (.slice A5 m5 c5)).setCell ⟨pb, 1, none⟩ (.int .i64 M)) := ⟨_, rfl⟩; have sX : St w pb M Ds base p v l (.slice A5 m5 c5) (put l key val) X1 := (by rw [hX1]; exact hal.setm (own_upd (own_mono hown1 hsa.upd.size) ((Upd.refl Nix w1).alloc _) (fun _ _ f => f))); have hBX : Blk X1 wr.heap.size 41 #[.int .i64 0, .int .i64 val, .string key] := (by rw [hX1]; exact (hbal.far (p := ⟨pb, 0, none⟩) hne _).far (p := ⟨pb, 1, none⟩) hne _); have c0X := sX.box.cell 0; have c1X := sX.box.cell 1; have a1X := hBX.cell 1; have a2X := hBX.cell 2; rw [hX1] at c0X c1X a1X a2X; simp only [List.getElem?_toArray, List.getElem?_cons_zero, List.getElem?_cons_succ] at c0X c1X a1X a2X; have HX1 := Lib.hid hX1; clear hX1 hne))
        | (go_at_call 8; go_must (rw [← HX1.out]; refine (put_case key val X1 base p v l M sX.tab Hno.out (by omega)).mono ?_; rintro e w3 ⟨v3, rfl, htab3, u3, b3⟩; have s3 := sX.put htab3 u3; have hB3 := hBX.upd u3 (abox_ne hBX sX.tab); have c0y := s3.box.cell 0; have c1y := s3.box.cell 1; have a1y := hB3.cell 1; have a2y := hB3.cell 2; simp only [List.getElem?_toArray, List.getElem?_cons_zero, List.getElem?_cons_succ] at c0y c1y a1y a2y))
        | (go_at_call 19; go_must (refine (shows_any w3 base p v3 (put l key val) M _ s3.tab hM0 hM1 A5 m5 c5 (rown_at s3.rown).1 (rown_at s3.rown).2).mono ?_; rintro e w9 ⟨rfl, u9⟩)))
      refine ⟨PlaysI.intro _ (Ds) ⟨k + 1, base, p, v3, put l key val, _, rfl, rfl, by omega, by omega, by have := Hpl.out.2; omega, Hpl.out.1, s3.nix u9⟩ (by kernel_rfl), ?_⟩
      show 100 - (intOf (.int .i64 ((k : Int) + 1))).toNat < 100 - (intOf (.int .i64 (k : Int))).toNat
      simp only [intOf]
      omega
  by_cases h1 : kind = 1
  · subst h1
    obtain ⟨gv, hgv⟩ : ∃ gv, gv = (look l key).getD 0 := ⟨_, rfl⟩
    obtain ⟨gb, hgb⟩ : ∃ gb, gb = (look l key).isSome := ⟨_, rfl⟩
    have Hgv := Lib.hid hgv; clear hgv
    have Hgb := Lib.hid hgb; clear hgb
    go_wp2_with (first
      | (go_at_call 9; go_must (rw [← Hwa.out]; refine (get_any key wa base p v l M hsa.tab).mono ?_; rw [← Hgv.out, ← Hgb.out]; rintro e w1 ⟨rfl, u1⟩; have s1 := hsa.nix u1; have hB1 := hBa.upd u1 (fun f => f); have c0w := s1.box.cell 0; have c1w := s1.box.cell 1; have a1w := hB1.cell 1; have a2w := hB1.cell 2; simp only [List.getElem?_toArray, List.getElem?_cons_zero, List.getElem?_cons_succ] at c0w c1w a1w a2w))
      | (go_at_call 15; go_must (refine (rget_any key A2 m2 c2 M l w1 (rown_at s1.rown).1 s1.tab.rising (by have := Hmn.out; omega)).mono ?_; rw [← Hgv.out, ← Hgb.out]; rintro e w2 ⟨rfl, u2⟩; have s2 := s1.nix u2; have hB2 := hB1.upd u2 (fun f => f); have c0y := s2.box.cell 0; have c1y := s2.box.cell 1; have a1y := hB2.cell 1; have a2y := hB2.cell 2; simp only [List.getElem?_toArray, List.getElem?_cons_zero, List.getElem?_cons_succ] at c0y c1y a1y a2y))
      | (go_at_call 19; go_must (refine (shows_any w2 base p v (l) M _ s2.tab hM0 hM1 A2 m2 c2 (rown_at s2.rown).1 (rown_at s2.rown).2).mono ?_; rintro e w9 ⟨rfl, u9⟩)))
    refine ⟨PlaysI.intro _ (Ds) ⟨k + 1, base, p, v, l, _, rfl, rfl, by omega, by omega, by omega, hlM, s2.nix u9⟩ (by kernel_rfl), ?_⟩
    show 100 - (intOf (.int .i64 ((k : Int) + 1))).toNat < 100 - (intOf (.int .i64 (k : Int))).toNat
    simp only [intOf]
    omega
  by_cases h2 : kind = 2
  · subst h2
    obtain ⟨gb, hgb⟩ : ∃ gb, gb = (look l key).isSome := ⟨_, rfl⟩
    have Hgb := Lib.hid hgb; clear hgb
    have hdl := del_len l key
    have Hdl := Lib.hid hdl; clear hdl
    go_wp2_with (first
      | (go_at_call 16; go_must (rw [← Hwa.out]; refine (rdrop_any key A2 m2 c2 M l wa (rown_at hsa.rown).1 hsa.tab.rising (by have := Hmn.out; omega)).mono ?_; rw [← Hgb.out]; rintro e w1 ⟨v1, rfl, hown1, u1⟩; obtain ⟨A5, m5, c5, rfl, Hm5⟩ := own_slice_ hown1; have s1 := hsa.nix u1; have hB1 := hBa.upd u1 (fun f => f); have c0w := s1.box.cell 0; have c1w := s1.box.cell 1; have a1w := hB1.cell 1; have a2w := hB1.cell 2; simp only [List.getElem?_toArray, List.getElem?_cons_zero, List.getElem?_cons_succ] at c0w c1w a1w a2w; have hal := s1.nix ((Upd.refl Nix w1).alloc (.cells #[.slice A5 m5 c5, .int .i64 M] 38)); have hbal := hB1.alloc (.cells #[.slice A5 m5 c5, .int .i64 M] 38); have hne : wr.heap.size ≠ pb := (Blk.ne_ (t := 41) hbal hal.box (by decide)); have l0 := hal.box.cell 0; have l1 := hal.box.cell 1; have f0 := hal.box.frozen 0; have f1 := hal.box.frozen 1; simp only [List.getElem?_toArray, List.getElem?_cons_zero, List.getElem?_cons_succ] at l0 l1; have l2 := (hal.box.set_ 0 (.slice A5 m5 c5)).cell 1; have f2 := (hal.box.set_ 0 (.slice A5 m5 c5)).frozen 1; simp only [List.getElem?_toArray, List.getElem?_cons_zero, List.getElem?_cons_succ, List.setIfInBounds_toArray, List.set_cons_zero] at l2; obtain ⟨X1, hX1⟩ : ∃ X1, X1 = (((w1.alloc (.cells #[.slice A5 m5 c5, .int .i64 M] 38)).setCell ⟨pb, 0, none⟩ (.slice A5 m5 c5)).setCell ⟨pb, 1, none⟩ (.int .i64 M)) := ⟨_, rfl⟩; have sX : St w pb M Ds base p v l (.slice A5 m5 c5) (del l key) X1 := (by rw [hX1]; exact hal.setm (own_upd (own_mono hown1 hsa.upd.size) ((Upd.refl Nix w1).alloc _) (fun _ _ f => f))); have hBX : Blk X1 wr.heap.size 41 #[.int .i64 2, .int .i64 val, .string key] := (by rw [hX1]; exact (hbal.far (p := ⟨pb, 0, none⟩) hne _).far (p := ⟨pb, 1, none⟩) hne _); have c0X := sX.box.cell 0; have c1X := sX.box.cell 1; have a1X := hBX.cell 1; have a2X := hBX.cell 2; rw [hX1] at c0X c1X a1X a2X; simp only [List.getElem?_toArray, List.getElem?_cons_zero, List.getElem?_cons_succ] at c0X c1X a1X a2X; have HX1 := Lib.hid hX1; clear hX1 hne))
      | (go_at_call 11; go_must (rw [← HX1.out]; refine (drop_any key X1 base p v l M sX.tab).mono ?_; rw [← Hgb.out]; rintro e w3 ⟨v3, rfl, htab3, u3, b3⟩; have s3 := sX.put htab3 u3; have hB3 := hBX.upd u3 (abox_ne hBX sX.tab); have c0y := s3.box.cell 0; have c1y := s3.box.cell 1; have a1y := hB3.cell 1; have a2y := hB3.cell 2; simp only [List.getElem?_toArray, List.getElem?_cons_zero, List.getElem?_cons_succ] at c0y c1y a1y a2y))
      | (go_at_call 19; go_must (refine (shows_any w3 base p v3 (del l key) M _ s3.tab hM0 hM1 A5 m5 c5 (rown_at s3.rown).1 (rown_at s3.rown).2).mono ?_; rintro e w9 ⟨rfl, u9⟩)))
    refine ⟨PlaysI.intro _ (Ds) ⟨k + 1, base, p, v3, del l key, _, rfl, rfl, by omega, by omega, by have := Hdl.out; omega, by have := Hdl.out; omega, s3.nix u9⟩ (by kernel_rfl), ?_⟩
    show 100 - (intOf (.int .i64 ((k : Int) + 1))).toNat < 100 - (intOf (.int .i64 (k : Int))).toNat
    simp only [intOf]
    omega
  by_cases h3 : kind = 3
  · subst h3
    have hll : l.length ≤ 100000 := by omega
    have Hll := Lib.hid hll; clear hll
    have hpa := hsa.tab.blk.lt
    have hva := fun j hj => (hsa.tab.own.lt j hj).2
    have hwwa := hsa.upd.size
    have Hpa := Lib.hid hpa; have Hva := Lib.hid hva; have Hwwa := Lib.hid hwwa; clear hpa hva hwwa
    go_wp2_with (first
      | (go_at_call 17; go_must (rw [← Hwa.out]; refine (copy_any wa base p v l M hsa.tab).mono ?_; rintro e w1 ⟨p1, v1, rfl, htab1, u1⟩; have s1 := hsa.nix u1; have hB1 := hBa.upd u1 (fun f => f); have c0w := s1.box.cell 0; have c1w := s1.box.cell 1; have a1w := hB1.cell 1; have a2w := hB1.cell 2; simp only [List.getElem?_toArray, List.getElem?_cons_zero, List.getElem?_cons_succ] at c0w c1w a1w a2w))
      | (go_at_call 18; go_must (refine (all_any w1 wa.heap.size p1 v1 l M htab1).mono ?_; rintro e w2 ⟨B, v4, rfl, hB, hown4, u2, hBw⟩; have s2 := s1.nix u2; have htab2 := htab1.nix u2; have hB2 := hB1.upd u2 (fun f => f); have c0x := s2.box.cell 0; have c1x := s2.box.cell 1; have a1x := hB2.cell 1; have a2x := hB2.cell 2; simp only [List.getElem?_toArray, List.getElem?_cons_zero, List.getElem?_cons_succ] at c0x c1x a1x a2x))
      | (go_at_call 8; go_must (refine (put_either _ 1 w2 base p v l M s2.tab hlM (by have := Hll.out; omega)).mono ?_; rintro e w3 ⟨r3, v3, l3, rfl, htab3, u3, b3⟩; have s3 := s2.put htab3 u3; have hB3 := hB2.upd u3 (abox_ne hB2 s2.tab); have c0y := s3.box.cell 0; have c1y := s3.box.cell 1; have a1y := hB3.cell 1; have a2y := hB3.cell 2; simp only [List.getElem?_toArray, List.getElem?_cons_zero, List.getElem?_cons_succ] at c0y c1y a1y a2y))
      | (go_at_call 11; go_must (refine (drop_any key w3 base p v3 l3 M s3.tab).mono ?_; rintro e w5 ⟨v5, rfl, htab5, u5, b5⟩; have s5 := s3.put htab5 u5; have hB5 := hB3.upd u5 (abox_ne hB3 s3.tab); have c0z := s5.box.cell 0; have c1z := s5.box.cell 1; have a1z := hB5.cell 1; have a2z := hB5.cell 2; simp only [List.getElem?_toArray, List.getElem?_cons_zero, List.getElem?_cons_succ] at c0z c1z a1z a2z)))
    have hpa := Hpa.out
    have hva := Hva.out
    have hwwa := Hwwa.out
    have z1 := u1.size
    have z2 := u2.size
    have z3 := u3.size
    have z5 := u5.size
    have U35 : Upd (fun j => j = p ∨ some j = v.ownBlock) w2 w5 := u3.trans u5 (by
      rintro j hj (e | e)
      · exact .inl e
      · rcases b3 with b | ⟨g, hg, hge⟩
        · exact .inr (e.trans b)
        · rw [hg] at e; cases e; exact (by omega : False).elim)
    have hnew : ∀ j, wa.heap.size ≤ j → ¬ (j = p ∨ some j = v.ownBlock) := by
      rintro j hj (e | e)
      · omega
      · have := hva j e.symm; omega
    have htabN : Tab w5 wa.heap.size p1 v1 l M := htab2.upd U35 (hnew _ htab2.base) (fun j hj => hnew _ (htab2.own.lt j hj).1)
    have sN : St w pb M Ds wa.heap.size p1 v1 l (.slice A2 m2 c2) l w5 := ⟨htabN, hwwa, s5.box, s5.boxlow, s5.rown, s5.upd, s5.defs, s5.nodup⟩
    have hBs := hB.upd U35 (hnew _ (by omega))
    have hown5 := own_upd hown4 U35 (fun j hj => hnew _ (by have := (hown4.lt j hj).1; omega))
    obtain ⟨W0, hW0⟩ : ∃ W0, W0 = w5.alloc (.cells #[.int .i64 0] 3) := ⟨_, rfl⟩
    rw [← hW0]
    have u50 : Upd Nix w5 W0 := by rw [hW0]; exact (Upd.refl _ _).alloc _
    have hBn0 : Blk W0 w5.heap.size 3 #[.int .i64 0] := by rw [hW0]; exact Blk.new _ _ _
    have hs0 : W0.heap.size = w5.heap.size + 1 := by rw [hW0]; simp
    have HW0 := Lib.hid hW0; clear hW0
    have Hs0 := Lib.hid hs0; clear hs0
    refine (wpIn_wide (n := 3)).1 (wpIn_rangeFunc_ownG rfl (by omega) (gf := 27) (lb := #[.pointer (some ⟨B, 0, none⟩)]) rfl trivial (enters_of Tryd.func27 (by kernel_rfl) rfl)
      (all_stops (3 - 1) (by omega) B w5.heap.size _ v4 l Hll.out W0 (hBs.upd u50 (fun f => f)) (own_upd hown5 u50 (fun _ _ f => f)) hBs.lt (fun j hj => (hown5.lt j hj).2) u50.size) belowK_t (belowK_b u50.size) (Below.refl _ _) (fun _ => rfl)
      (PI W0 w5.heap.size) (fun _ _ _ => False)
      (pi_from (by have := Hs0.out; omega)) (fun _ _ _ _ _ hs _ _ => hs) ⟨hBn0, Upd.refl _ _⟩
      ?act ?assign ?body ?done ?stop)
    case assign =>
      intro l' x W K hK
      gi_wp2
      exact hK
    case body =>
      rintro l' pre x W ⟨hbn, hu⟩ hlt
      have hn0 := hbn.cell 0
      have hnf := hbn.frozen 0
      simp only [List.getElem?_toArray, List.getElem?_cons_zero] at hn0
      have hwr : IntKind.i64.wrap ((pre.length : Int) + 1) = (pre.length : Int) + 1 := IntWalk.i64_in _ (by have := Hll.out; omega)
      have huN := (hu.setCell (p := ⟨w5.heap.size, 0, none⟩) (fun _ => rfl) (.int .i64 (pre.length + 1)))
      have hbN := hbn.set_ 0 (.int .i64 (pre.length + 1))
      gi_wp2
      exact ⟨(KeepsOthers.setCell _ _ _).from _, (Below.refl _ _).setCell (p := ⟨w5.heap.size, 0, none⟩) (Nat.le_refl _) _, by rw [List.length_append]; exact hbN, huN⟩
    case stop =>
      rintro D c pre W _ _ h _
      exact h.elim
    case done =>
      rintro D ys W hD hys ⟨hbn, hu⟩ hK
      subst hys
      have u5W : Upd Nix w5 W := u50.trans hu (fun j hj e => (by omega : False).elim)
      have sW := sN.nix u5W
      have hBW := hB5.upd u5W (fun f => f)
      have hn0 := hbn.cell 0
      simp only [List.getElem?_toArray, List.getElem?_cons_zero] at hn0
      rw [← Hm2.out] at hn0
      have c0q := sW.box.cell 0
      have c1q := sW.box.cell 1
      have a1q := hBW.cell 1
      have a2q := hBW.cell 2
      simp only [List.getElem?_toArray, List.getElem?_cons_zero, List.getElem?_cons_succ] at c0q c1q a1q a2q
      have sM := sW.mark (D := D) (by have := Hs0.out; have := sN.upd.size; omega) hK (fun E hE => by
        have := (Array.getElem?_eq_some_iff.1 (sN.defs E hE).2).1
        have := Hs0.out
        omega)
      clear hK
      go_wp2_with (first | (go_at_call 19; go_must (refine (shows_any W wa.heap.size p1 v1 (ys) M _ sW.tab hM0 hM1 A2 m2 c2 (rown_at sW.rown).1 (rown_at sW.rown).2).mono ?_; rintro e w9 ⟨rfl, u9⟩)))
      refine ⟨PlaysI.intro _ (D :: Ds) ⟨k + 1, wa.heap.size, p1, v1, ys, _, rfl, rfl, by omega, by omega, by omega, hlM, sM.nix u9⟩ (by kernel_rfl), ?_⟩
      show 100 - (intOf (.int .i64 ((k : Int) + 1))).toNat < 100 - (intOf (.int .i64 (k : Int))).toNat
      simp only [intOf]
      omega
  have hn0 : (kind == 0) = false := by simpa using h0
  have hn1 : (kind == 1) = false := by simpa using h1
  have hn2 : (kind == 2) = false := by simpa using h2
  have hn3 : (kind == 3) = false := by simpa using h3
  clear h0 h1 h2 h3
  go_wp2_with (first
    | (go_at_call 19; go_must (rw [← Hwa.out]; refine (shows_any wa base p v l M _ hsa.tab hM0 hM1 A2 m2 c2 (rown_at hsa.rown).1 (rown_at hsa.rown).2).mono ?_; rintro e w9 ⟨rfl, u9⟩)))
  refine ⟨PlaysI.intro _ Ds ⟨k + 1, base, p, v, l, _, rfl, rfl, by omega, by omega, by omega, hlM, hsa.nix u9⟩ (by kernel_rfl), ?_⟩
  show 100 - (intOf (.int .i64 ((k : Int) + 1))).toNat < 100 - (intOf (.int .i64 (k : Int))).toNat
  simp only [intOf]
  omega
end Go.Proofs.YtfalifenidpdlaaDoor
