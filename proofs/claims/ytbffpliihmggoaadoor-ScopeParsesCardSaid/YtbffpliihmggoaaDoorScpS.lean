/- The document's Put, All, Both, Less, Within. -/
import Derived.Test.YtbffpliihmggoaaDoorScpR
set_option linter.unusedVariables false
set_option linter.unusedSimpArgs false
namespace Go.Proofs.YtbffpliihmggoaaDoor.M
open Go Go.RowKit Go.Sort

def doneS (m : List ByteArray) (x : ByteArray) : Bool := m.any (lt x)
def insS (m : List ByteArray) (x : ByteArray) : List ByteArray := m.takeWhile (fun y => !lt x y) ++ x :: m.dropWhile (fun y => !lt x y)
def outS (m : List ByteArray) (x : ByteArray) : List ByteArray := if doneS m x then insS m x else m
theorem done_no {m : List ByteArray} {x : ByteArray} (h : doneS m x = false) : m.takeWhile (fun y => !lt x y) = m ∧ m.dropWhile (fun y => !lt x y) = [] := by
  have ha : ∀ y ∈ m, (!lt x y) = true := fun y hy => by have := List.any_eq_false.1 h y hy; simpa using this
  have h1 := List.takeWhile_append_of_pos (l₂ := []) ha
  have h2 := List.dropWhile_append_of_pos (l₂ := []) ha
  exact ⟨by simpa using h1, by simpa using h2⟩
theorem done_yes {m : List ByteArray} {x : ByteArray} (h : doneS m x = true) (y : ByteArray) : (m ++ [y]).takeWhile (fun y => !lt x y) = m.takeWhile (fun y => !lt x y) ∧ (m ++ [y]).dropWhile (fun y => !lt x y) = m.dropWhile (fun y => !lt x y) ++ [y] := by
  induction m with
  | nil => simp [doneS] at h
  | cons a m ih =>
    cases ha : lt x a
    · have h' : doneS m x = true := by unfold doneS at h ⊢; simpa [ha] using h
      obtain ⟨h1, h2⟩ := ih h'
      simp [ha, h1, h2]
    · simp [ha]
theorem out_done {m : List ByteArray} {x : ByteArray} (h : doneS m x = true) (y : ByteArray) : outS (m ++ [y]) x = outS m x ++ [y] ∧ doneS (m ++ [y]) x = true := by
  have hd : doneS (m ++ [y]) x = true := by unfold doneS at h ⊢; rw [List.any_append, h]; rfl
  obtain ⟨h1, h2⟩ := done_yes h y
  refine ⟨?_, hd⟩
  unfold outS
  rw [hd, h, if_pos rfl, if_pos rfl]
  unfold insS
  rw [h1, h2]; simp
theorem out_hit {m : List ByteArray} {x y : ByteArray} (h : doneS m x = false) (hy : lt x y = true) : outS (m ++ [y]) x = outS m x ++ [x] ++ [y] ∧ doneS (m ++ [y]) x = true := by
  have hd : doneS (m ++ [y]) x = true := by unfold doneS at h ⊢; rw [List.any_append, h]; simp [hy]
  obtain ⟨h1, h2⟩ := done_no h
  have ha : ∀ z ∈ m, (!lt x z) = true := fun z hz => by have := List.any_eq_false.1 h z hz; simpa using this
  refine ⟨?_, hd⟩
  unfold outS
  rw [hd, h, if_pos rfl, if_neg (by simp)]
  unfold insS
  rw [List.takeWhile_append_of_pos ha, List.dropWhile_append_of_pos ha]
  simp [hy]
theorem out_miss {m : List ByteArray} {x y : ByteArray} (h : doneS m x = false) (hy : lt x y = false) : outS (m ++ [y]) x = outS m x ++ [y] ∧ doneS (m ++ [y]) x = false := by
  have hd : doneS (m ++ [y]) x = false := by unfold doneS at h ⊢; rw [List.any_append, h]; simp [hy]
  refine ⟨?_, hd⟩
  unfold outS
  rw [hd, h, if_neg (by simp), if_neg (by simp)]
theorem out_end {l : List ByteArray} {x : ByteArray} (h : doneS l x = true) (hx : hasS l x = false) : outS l x = putS l x := by unfold outS putS; rw [if_pos h, if_neg (by simp [hx])]; rfl
theorem out_end' {l : List ByteArray} {x : ByteArray} (h : doneS l x = false) (hx : hasS l x = false) : outS l x ++ [x] = putS l x := by
  obtain ⟨h1, h2⟩ := done_no h
  unfold outS putS; rw [if_neg (by simp [h]), if_neg (by simp [hx]), h1, h2]
theorem out_len (l : List ByteArray) (x : ByteArray) : (outS l x).length ≤ l.length + 1 := by
  unfold outS
  split
  · have := congrArg List.length (List.takeWhile_append_dropWhile (p := fun y => !lt x y) (l := l))
    unfold insS
    simp only [List.length_append, List.length_cons] at this ⊢; omega
  · omega
theorem gtr_eq (a b : ByteArray) : (!Op.bytesLess a.toList b.toList && !(a.toList == b.toList)) = lt b a := by
  cases h : lt b a
  · cases h2 : lt a b
    · have := lt_total h h2; subst this; simp
    · unfold lt at h2; simp [h2]
  · have h2 := lt_asymm h
    have h3 : a.toList ≠ b.toList := fun e => lt_ne h (ba_ext e).symm
    unfold lt at h2; simp [h2, h3]

def PutRel (l : List ByteArray) (x : ByteArray) (B : Nat) (w : World) (v d i : Value) (wr : World) : Prop :=
  ∃ (k : Nat) (A : Option Addr) (m c : Nat), k ≤ l.length ∧ v = .slice A m c ∧ d = .bool (doneS (l.take k) x) ∧ i = .int .i64 k ∧ Hid (wr.ownsRow B 9 1 (.slice A m c) (outS (l.take k) x).length ((outS (l.take k) x).map .string)) ∧ Upd Nix w wr
theorem PutRel.intro {l : List ByteArray} {x : ByteArray} {B : Nat} {w : World} {A : Option Addr} {m c k : Nat} {d i : Value} {wr : World} {O : List ByteArray} {b : Bool} (hk : k ≤ l.length) (hd : d = .bool b) (hi : i = .int .i64 k) (hb : doneS (l.take k) x = b) (hO : outS (l.take k) x = O)
    (ho : Hid (wr.ownsRow B 9 1 (.slice A m c) O.length (O.map .string))) (hu : Upd Nix w wr) : PutRel l x B w (.slice A m c) d i wr := by
  subst hO; subst hb
  exact ⟨k, A, m, c, hk, rfl, hd, hi, ho, hu⟩
theorem own_rel {w w1 w2 : World} {A : Option Addr} {m c : Nat} {n : Nat} {xs : List Value} (hu : Upd Nix w w1) (h : w1.ownsRow w.heap.size 9 1 (.slice A m c) n xs) (hu2 : Upd (fun j => some j = (Value.slice A m c).ownBlock) w1 w2) : Upd Nix w w2 :=
  hu.ownNix hu2 (fun j hj => own_low h j hj)

theorem ret_own {w w' : World} {B : Nat} {A : Option Addr} {m c : Nat} {l : List ByteArray} (h : w'.ownsRow B 9 1 (.slice A m c) l.length (l.map .string)) (hu : Upd Nix w w') : RetSeq l w (.returned (.slice A m c)) w' := by
  have hm : m = l.length := (own_len h).out
  subst hm
  refine ⟨A, c, rfl, ?_, seq_own h, hu⟩
  rcases h.2 with ⟨h0, hn⟩ | ⟨g, cap, cur, hv, hb, hg, hn, _⟩
  · omega
  · cases hv; exact hn

set_option maxRecDepth 100000 in
set_option maxHeartbeats 1000000 in
theorem rput_any (A : Option Addr) (n c : Nat) (l : List ByteArray) (x : ByteArray) (w : World) (hl : SeqAt w A n (l.map .string)) (hc : n ≤ c) (hn : n ≤ 900000) :
    Calls Tryd.prog 29 #[.slice A n c, .string x] w (RetSeq (putS l x) w) := by
  have hlen : l.length = n := by simpa using hl.1
  have Hhas := Lib.hid (rhas_any A n c l x w hl (by omega))
  cases hx : hasS l x
  · have Hx := Lib.hid hx; clear hx
    subst hlen
    have Hl := Lib.hid hl; clear hl
    go_enter Tryd.func29, Tryd.ntmps29
    go_wp2_with (go_at_call 9; go_must (refine Hhas.out.mono ?_; rw [Hx.out]; rintro e w1 ⟨rfl, rfl⟩))
    go_loopw [5, 6, 7] (fun v d i wr => PutRel l x w.heap.size w v d i wr) (fun _ _ i _ => l.length - (intOf i).toNat)
    case atStart => exact PutRel.intro (k := 0) (b := false) (O := []) (Nat.zero_le _) rfl rfl rfl rfl ⟨rfl, .inl ⟨rfl, rfl⟩⟩ (Upd.refl _ _)
    case round =>
      obtain ⟨k, Av, mv, cv, hk, rfl, rfl, rfl, Ho, hu⟩ := hrel
      have hol : (outS (l.take k) x).length ≤ 900001 := Nat.le_trans (out_len _ _) (by rw [List.length_take]; omega)
      have hus := hu.size
      by_cases hlt : k < l.length
      · obtain ⟨ad, u, rfl, hu1, hcw⟩ := Hl.out.get hlt
        obtain ⟨s, hs, rfl⟩ : ∃ s, l[k]? = some s ∧ .string s = u := by simpa using hu1
        have hcu : wr.cell? (ad.add k) = some (.string s) := hu.cell hcw (by simp)
        have Hcw := Lib.hid hcw
        have Hts := Lib.hid (take_snoc l k s hs)
        have Hu := Lib.hid hu
        clear hs hu hu1 hcw
        cases hd : doneS (l.take k) x
        · cases hy : lt x s
          · have hgt := (gtr_eq s x).trans hy
            have Hout := Lib.hid (out_miss hd hy)
            clear hy hd
            generalize hO : outS (l.take k) x = O at Ho hol
            have HO := Lib.hid hO; clear hO
            go_wp2_with (at_builtin; go_must (refine append_str rfl (.tmp 32) (.tmp 37) rfl w.heap.size wr.heap.size _ O s rfl rfl (Ho.out.alloc _) (by simp) (by omega) (by simp; omega) ?_; intro A1 m1 c1 w1 H1 hu1; have Hu1 := Lib.hid hu1; clear hu1))
            go_roundw
            case rel => exact PutRel.intro (k := k + 1) hlt rfl (by go_num) (by rw [Hts.out]; exact Hout.out.2) (by rw [Hts.out, Hout.out.1, HO.out]) H1 (own_rel (Hu.out.alloc _) (Ho.out.alloc _) Hu1.out)
            case measure => simp [intOf]; omega
          · have hgt := (gtr_eq s x).trans hy
            have Hout := Lib.hid (out_hit hd hy)
            clear hy hd
            generalize hO : outS (l.take k) x = O at Ho hol
            have HO := Lib.hid hO; clear hO
            go_wp2_with (at_builtin; first
              | (refine append_str rfl (.tmp 28) (.tmp 30) rfl w.heap.size wr.heap.size _ O x rfl rfl (Ho.out.alloc _) (by simp) (by omega) (by simp; omega) ?_; intro A1 m1 c1 w1 H1 hu1; have hcu1 : w1.cell? (ad.add k) = some (.string s) := Upd.cell (own_rel (Hu.out.alloc _) (Ho.out.alloc _) hu1) Hcw.out (fun f => f); have hs1 := (own_rel (Hu.out.alloc _) (Ho.out.alloc _) hu1).size; have Hu1 := Lib.hid hu1; clear hu1)
              | (go_must (refine append_str rfl (.tmp 32) (.tmp 37) rfl w.heap.size w1.heap.size _ (O ++ [x]) s rfl rfl (H1.out.alloc _) (by simp) (by simp; omega) (by simp; omega) ?_; intro A2 m2 c2 w2 H2 hu2; have Hu2 := Lib.hid hu2; clear hu2)))
            go_roundw
            case rel => exact PutRel.intro (k := k + 1) hlt rfl (by go_num) (by rw [Hts.out]; exact Hout.out.2) (by rw [Hts.out, Hout.out.1, HO.out]) H2 (own_rel ((own_rel (Hu.out.alloc _) (Ho.out.alloc _) Hu1.out).alloc _) (H1.out.alloc _) Hu2.out)
            case measure => simp [intOf]; omega
        · have Hout := Lib.hid (out_done hd s)
          clear hd
          generalize hO : outS (l.take k) x = O at Ho hol
          have HO := Lib.hid hO; clear hO
          go_wp2_with (at_builtin; go_must (refine append_str rfl (.tmp 32) (.tmp 37) rfl w.heap.size wr.heap.size _ O s rfl rfl (Ho.out.alloc _) (by simp) (by omega) (by simp; omega) ?_; intro A1 m1 c1 w1 H1 hu1; have Hu1 := Lib.hid hu1; clear hu1))
          go_roundw
          case rel => exact PutRel.intro (k := k + 1) hlt rfl (by go_num) (by rw [Hts.out]; exact Hout.out.2) (by rw [Hts.out, Hout.out.1, HO.out]) H1 (own_rel (Hu.out.alloc _) (Ho.out.alloc _) Hu1.out)
          case measure => simp [intOf]; omega
      · obtain rfl : k = l.length := by omega
        rw [List.take_length] at Ho hol ⊢
        have Hu := Lib.hid hu
        clear hu
        cases hd : doneS l x
        · have He := Lib.hid (out_end' hd Hx.out)
          clear hd
          generalize hO : outS l x = O at Ho hol He
          go_wp2_with (at_builtin; go_must (refine append_str rfl (.tmp 41) (.tmp 43) rfl w.heap.size wr.heap.size _ O x rfl rfl (Ho.out.alloc _) (by simp) (by omega) (by simp; omega) ?_; intro A1 m1 c1 w1 H1 hu1; have Hu1 := Lib.hid hu1; clear hu1))
          go_ret
          rw [← He.out]
          exact ret_own H1.out (own_rel (Hu.out.alloc _) (Ho.out.alloc _) Hu1.out)
        · have He := Lib.hid (out_end hd Hx.out)
          clear hd
          generalize hO : outS l x = O at Ho hol He
          go_wp2_with fail
          go_ret
          rw [← He.out]
          exact ret_own Ho.out Hu.out
  · have hp : putS l x = l := by unfold putS; rw [if_pos hx]
    have Hp := Lib.hid hp
    have Hx := Lib.hid hx
    have Hl := Lib.hid hl
    have Hlen := Lib.hid hlen
    clear hx hp hl hlen
    go_enter Tryd.func29, Tryd.ntmps29
    go_wp2_with (go_at_call 9; go_must (refine Hhas.out.mono ?_; rw [Hx.out]; rintro e w1 ⟨rfl, rfl⟩))
    go_ret
    rw [Hp.out]
    have hlen := Hlen.out
    subst hlen
    exact ⟨A, c, rfl, hc, Hl.out, Upd.refl _ _⟩
end Go.Proofs.YtbffpliihmggoaaDoor.M
