/- scope.Parse, and what it calls. -/
import Derived.Test.YtbffpliihmggoaaDoorScpD
set_option linter.unusedVariables false
set_option linter.unusedSimpArgs false
namespace Go.Proofs.YtbffpliihmggoaaDoor.M
open Go Go.RowKit Go.Sort

/-- Where the first is of which p holds; -1. -/
def fidx (p : ByteArray → Bool) (l : List ByteArray) : Int := if l.any p then (l.findIdx p : Int) else -1
theorem fidx_hit {p : ByteArray → Bool} {l : List ByteArray} {k : Nat} {s : ByteArray} (h : l[k]? = some s) (hp : p s = true) (hl : (l.take k).any p = false) : fidx p l = k := by
  unfold fidx
  have hk := (List.getElem?_eq_some_iff.1 h).1
  have hs := (List.getElem?_eq_some_iff.1 h).2
  rw [if_pos (List.any_eq_true.2 ⟨s, List.mem_of_getElem? h, hp⟩)]
  congr 1
  refine (List.findIdx_eq hk).2 ⟨by rw [hs]; exact hp, fun j hj => ?_⟩
  have := List.any_eq_false.1 hl (l[j]'(by omega)) (by rw [List.mem_iff_getElem]; exact ⟨j, by rw [List.length_take]; omega, by rw [List.getElem_take]⟩)
  simpa using this

set_option maxRecDepth 100000 in
theorem idxfunc_any (g : Nat) (lb : Array Value) (p : ByteArray → Bool) (eg : Enters Tryd.prog g) (A : Option Addr) (n c : Nat) (l : List ByteArray) (w : World)
    (hp : ∀ (s : ByteArray), s ∈ l → Calls Tryd.prog g (#[.string s] ++ lb) w fun e W' => e = .returned (.bool (p s)) ∧ w = W') (hl : SeqAt w A n (l.map .string)) (hn : n ≤ 9223372036854775807) :
    Calls Tryd.prog 42 #[.slice A n c, .func (.func g) #[] lb] w fun e w' => e = .returned (.int .i64 (fidx p l)) ∧ w = w' := by
  have eg' : ∀ (args : Array Value) (w : World), (callFunc g args).run Tryd.prog w = .ok (.enter g args) w := eg
  clear eg
  have HP := Lib.hid hp; clear hp
  have Hlen := Lib.hid (show l.length = n by simpa using hl.1)
  go_enter Tryd.func42, Tryd.ntmps42
  go_wp2
  go_loop [8] (fun i => ∃ k : Nat, k ≤ n ∧ i = .int .i64 k ∧ (l.take k).any p = false) (fun i => n - (intOf i).toNat)
  case atStart => exact ⟨0, by omega, rfl, rfl⟩
  case round =>
    obtain ⟨k, hk, rfl, h1⟩ := hrel
    have H1 := Lib.hid h1; clear h1
    by_cases hlt : k < n
    · obtain ⟨ad, u, rfl, hu, hcu⟩ := hl.get hlt
      obtain ⟨s, hs, rfl⟩ : ∃ s, l[k]? = some s ∧ .string s = u := by simpa using hu
      have Hm := Lib.hid (List.mem_of_getElem? hs)
      have Hts := Lib.hid (take_snoc l k s hs)
      have Hs := Lib.hid hs
      clear hs hu
      cases hps : p s
      · go_wp2_with (go_at_fn g; go_must (refine (HP.out s Hm.out).mono ?_; rintro e w' ⟨rfl, rfl⟩; simp only [hps]))
        go_round
        case rel => exact ⟨k + 1, by omega, by go_num, by rw [Hts.out, List.any_append, H1.out]; simp [hps]⟩
        case measure => simp [intOf]; omega
      · have Hf := Lib.hid (fidx_hit Hs.out hps H1.out)
        go_wp2_with (go_at_fn g; go_must (refine (HP.out s Hm.out).mono ?_; rintro e w' ⟨rfl, rfl⟩; simp only [hps]))
        go_ret
        rw [Hf.out]; exact ⟨rfl, rfl⟩
    · obtain rfl : k = n := by omega
      have hf : fidx p l = -1 := by
        have h2 := H1.out
        rw [← Hlen.out, List.take_length] at h2
        unfold fidx; rw [h2]; rfl
      have Hf := Lib.hid hf; clear hf
      go_wp2_with fail
      go_ret
      rw [Hf.out]; exact ⟨rfl, rfl⟩

theorem contfunc_any (g : Nat) (lb : Array Value) (p : ByteArray → Bool) (eg : Enters Tryd.prog g) (A : Option Addr) (n c : Nat) (l : List ByteArray) (w : World)
    (hp : ∀ (s : ByteArray), s ∈ l → Calls Tryd.prog g (#[.string s] ++ lb) w fun e W' => e = .returned (.bool (p s)) ∧ w = W') (hl : SeqAt w A n (l.map .string)) (hn : n ≤ 9223372036854775807) :
    Calls Tryd.prog 33 #[.slice A n c, .func (.func g) #[] lb] w fun e w' => e = .returned (.bool (l.any p)) ∧ w = w' := by
  have Hc := Lib.hid (idxfunc_any g lb p eg A n c l w hp hl hn)
  clear hp hl
  cases ha : l.any p
  · have hf : fidx p l = -1 := by unfold fidx; rw [ha]; rfl
    have H1 := Lib.hid hf; clear hf
    go_enter Tryd.func33, Tryd.ntmps33
    go_wp2_with (go_at_call 42; go_must (refine Hc.out.mono ?_; rw [H1.out]; rintro e w' ⟨rfl, rfl⟩))
    go_ret
    exact ⟨rfl, rfl⟩
  · have hf : fidx p l = (l.findIdx p : Int) := by unfold fidx; rw [ha]; rfl
    have H1 := Lib.hid hf; clear hf
    go_enter Tryd.func33, Tryd.ntmps33
    go_wp2_with (go_at_call 42; go_must (refine Hc.out.mono ?_; rw [H1.out]; rintro e w' ⟨rfl, rfl⟩))
    go_ret
    exact ⟨by simp, rfl⟩

theorem bad_pred (s : ByteArray) (w : World) (hs : s.size ≤ 9223372036854775807) : Calls Tryd.prog 34 (#[.string s] ++ #[]) w fun e W' => e = .returned (.bool (!isName s)) ∧ w = W' := by
  show Calls Tryd.prog 34 #[.string s] w _
  go_enter Tryd.func34, Tryd.ntmps34
  go_wp2_with (go_at_call 24; refine (name_any s _ hs).mono ?_; rintro e w' ⟨rfl, rfl⟩)
  go_ret
  exact ⟨rfl, rfl⟩

/-- The library's variable holds some number. -/
def MaxCell (w : World) : Prop := ∃ m : Int, w.cell? ⟨1, 0, none⟩ = some (.int .i64 m)
theorem MaxCell.nix {w w' : World} (h : MaxCell w) (hu : Upd Nix w w') : MaxCell w' := by
  obtain ⟨m, hm⟩ := h
  exact ⟨m, hu.cell hm (by simp)⟩

def pieces (s : ByteArray) : List ByteArray := (spl 32 s.data.toList).map baOf
theorem pieces_size (s x : ByteArray) (h : x ∈ pieces s) : x.size ≤ s.size := by
  obtain ⟨y, hy, rfl⟩ := List.mem_map.1 h
  exact (spl_mem hy).1
theorem pieces_len (s : ByteArray) : (pieces s).length ≤ s.size + 1 := by
  unfold pieces; rw [List.length_map]; exact spl_length_le 32 s.data.toList
/-- The scopes of a text. -/
def parseS (s : ByteArray) : Option (List ByteArray) :=
  if s.size = 0 then some [] else if (pieces s).all isName = true ∧ (setS (pieces s)).length ≤ 16 then some (setS (pieces s)) else none

theorem split_any (s : ByteArray) (w : World) (hm : MaxCell w) (hs : s.size ≤ 1000000) :
    Calls Tryd.prog 32 #[.string s, .string ⟨#[32]⟩] w fun e w' => ∃ A c, e = .returned (.slice A (pieces s).length c) ∧ SeqAt w' A (pieces s).length ((pieces s).map .string) ∧ Upd Nix w w' := by
  obtain ⟨m, hm⟩ := hm
  obtain ⟨h1, h2⟩ := splitB_spl 32 s
  refine (Tryd.strings_Split s ⟨#[32]⟩ m w (by omega) hm (by decide)).mono fun e w' ⟨he, hw⟩ => ?_
  have e2 : Lib.countB s ⟨#[32]⟩ + 1 = (pieces s).length := by rw [h2]; unfold pieces; rw [List.length_map]
  have e1 : Lib.splitB ⟨#[32]⟩ 0 (Lib.countB s ⟨#[32]⟩) s = pieces s := h1
  rw [e2] at he
  rw [e1] at hw
  subst hw
  refine ⟨_, _, he, ⟨by simp, fun _ => ⟨_, rfl, fun j u hj => ?_⟩⟩, (Upd.refl _ _).alloc _⟩
  have := (Blk.new w 9 ((pieces s).map Value.string).toArray).cell j
  rw [add_flat, Nat.zero_add, this]
  simpa using hj

def RetSeqE (l : List ByteArray) (w : World) (e : Ending) (w' : World) : Prop :=
  ∃ A c, e = .returned (.tuple #[.slice A l.length c, .nilIface]) ∧ l.length ≤ c ∧ SeqAt w' A l.length (l.map .string) ∧ Upd Nix w w'
def RetBad (w : World) (e : Ending) (w' : World) : Prop :=
  e = .returned (.tuple #[.slice none 0 0, .iface 41 (.int .i64 70)]) ∧ Upd Nix w w'

theorem str_empty {s : ByteArray} (h : s.size = 0) : s.toList = [] ∧ s.toList.isEmpty = true := by
  have : s.toList = [] := by rw [ByteArray.toList_eq]; exact List.eq_nil_of_length_eq_zero h
  exact ⟨this, by rw [this]; rfl⟩
theorem str_some {s : ByteArray} (h : s.size ≠ 0) : s.toList.isEmpty = false := by
  rw [ByteArray.toList_eq]
  cases hd : s.data.toList with
  | nil => exact absurd (show s.size = 0 from congrArg List.length hd) h
  | cons a l => rfl

theorem not_all_any (l : List ByteArray) : l.any (fun s => !isName s) = !l.all isName := by
  induction l with
  | nil => rfl
  | cons a l ih => simp [ih]

set_option maxRecDepth 100000 in
theorem parse_any (s : ByteArray) (w : World) (hm : MaxCell w) (hs : s.size ≤ 200000) :
    Calls Tryd.prog 20 #[.string s] w (match parseS s with | some l => RetSeqE l w | none => RetBad w) := by
  by_cases h0 : s.size = 0
  · have hp : parseS s = some [] := by unfold parseS; rw [if_pos h0]
    rw [hp]
    obtain ⟨e1, e2⟩ := str_empty h0
    clear hp h0
    go_enter Tryd.func20, Tryd.ntmps20
    go_wp2
    go_ret2
    exact ⟨none, 0, rfl, by simp, SeqAt.nil _, Upd.refl _ _⟩
  · have e2 := str_some h0
    have hps : parseS s = if (pieces s).all isName = true ∧ (setS (pieces s)).length ≤ 16 then some (setS (pieces s)) else none := by unfold parseS; rw [if_neg h0]
    have hsz := pieces_size s
    have hpl := pieces_len s
    generalize hP : pieces s = P at hps hsz hpl
    have hsplit := split_any s w hm (by omega)
    rw [hP] at hsplit
    have Hsp := Lib.hid hsplit
    clear hsplit hm h0 hP
    have hall : Hid ((setS ([P].flatten.filter fun _ => true)) = setS P) := by unfold Hid; rw [filter_all]; simp
    have hsl := setS_length P
    have Hsz := Lib.hid hsz; clear hsz
    have hnb := not_all_any P
    by_cases hb : P.all isName = true
    · have hany : P.any (fun s => !isName s) = false := by rw [hnb, hb]; rfl
      have Hany := Lib.hid hany
      clear hnb hany
      by_cases h16 : (setS P).length ≤ 16
      · rw [if_pos ⟨hb, h16⟩] at hps
        rw [hps]
        clear hps hb
        go_enter Tryd.func20, Tryd.ntmps20
        go_wp2_with (first
          | (go_at_call 32; go_must (refine Hsp.out.mono ?_; rintro e w1 ⟨A1, c1, rfl, hs1, hu1⟩; have Hs1 := Lib.hid hs1; clear hs1; have Hu1 := Lib.hid hu1; clear hu1))
          | (go_at_call 27; go_must (refine (set_any 30 #[] (fun _ => true) (enters_of Tryd.func30 (by kernel_rfl) rfl) w1.heap.size 1 [P] _ (always_pred _) (lists_one (c := c1) (by simp) (Hs1.out.nix ((Upd.refl _ _).alloc _))) (by simp) (by simp; omega)).mono ?_; rw [hall.out]; rintro e w2 ⟨A2, c2, rfl, hc2, hs2, hu2⟩; have Hs2 := Lib.hid hs2; clear hs2; have Hu2 := Lib.hid hu2; clear hu2))
          | (go_at_call 33; go_must (refine (contfunc_any 34 #[] (fun s => !isName s) (enters_of Tryd.func34 (by kernel_rfl) rfl) A1 P.length c1 P _ (fun s hs => bad_pred s _ (by have := Hsz.out s hs; omega)) (Hs1.out.nix (((Upd.refl _ _).alloc _).thenNix Hu2.out)) (by omega)).mono ?_; rw [Hany.out]; rintro e w3 ⟨rfl, rfl⟩)))
        go_ret2
        exact ⟨A2, c2, rfl, hc2, Hs2.out, (Hu1.out.alloc _).thenNix Hu2.out⟩
      · rw [if_neg (by rintro ⟨_, h⟩; exact h16 h)] at hps
        rw [hps]
        clear hps hb
        have h16' : ¬ ((setS P).length : Int) ≤ 16 := by omega
        go_enter Tryd.func20, Tryd.ntmps20
        go_wp2_with (first
          | (go_at_call 32; go_must (refine Hsp.out.mono ?_; rintro e w1 ⟨A1, c1, rfl, hs1, hu1⟩; have Hs1 := Lib.hid hs1; clear hs1; have Hu1 := Lib.hid hu1; clear hu1))
          | (go_at_call 27; go_must (refine (set_any 30 #[] (fun _ => true) (enters_of Tryd.func30 (by kernel_rfl) rfl) w1.heap.size 1 [P] _ (always_pred _) (lists_one (c := c1) (by simp) (Hs1.out.nix ((Upd.refl _ _).alloc _))) (by simp) (by simp; omega)).mono ?_; rw [hall.out]; rintro e w2 ⟨A2, c2, rfl, hc2, hs2, hu2⟩; have Hs2 := Lib.hid hs2; clear hs2; have Hu2 := Lib.hid hu2; clear hu2))
          | (go_at_call 33; go_must (refine (contfunc_any 34 #[] (fun s => !isName s) (enters_of Tryd.func34 (by kernel_rfl) rfl) A1 P.length c1 P _ (fun s hs => bad_pred s _ (by have := Hsz.out s hs; omega)) (Hs1.out.nix (((Upd.refl _ _).alloc _).thenNix Hu2.out)) (by omega)).mono ?_; rw [Hany.out]; rintro e w3 ⟨rfl, rfl⟩)))
        go_ret2
        exact ⟨rfl, (Hu1.out.alloc _).thenNix Hu2.out⟩
    · have hb' : P.all isName = false := by simpa using hb
      have hany : P.any (fun s => !isName s) = true := by rw [hnb, hb']; rfl
      have Hany := Lib.hid hany
      rw [if_neg (by rintro ⟨h, _⟩; exact hb h)] at hps
      rw [hps]
      clear hps hb hb' hnb hany
      go_enter Tryd.func20, Tryd.ntmps20
      go_wp2_with (first
        | (go_at_call 32; go_must (refine Hsp.out.mono ?_; rintro e w1 ⟨A1, c1, rfl, hs1, hu1⟩; have Hs1 := Lib.hid hs1; clear hs1; have Hu1 := Lib.hid hu1; clear hu1))
        | (go_at_call 27; go_must (refine (set_any 30 #[] (fun _ => true) (enters_of Tryd.func30 (by kernel_rfl) rfl) w1.heap.size 1 [P] _ (always_pred _) (lists_one (c := c1) (by simp) (Hs1.out.nix ((Upd.refl _ _).alloc _))) (by simp) (by simp; omega)).mono ?_; rw [hall.out]; rintro e w2 ⟨A2, c2, rfl, hc2, hs2, hu2⟩; have Hs2 := Lib.hid hs2; clear hs2; have Hu2 := Lib.hid hu2; clear hu2))
        | (go_at_call 33; go_must (refine (contfunc_any 34 #[] (fun s => !isName s) (enters_of Tryd.func34 (by kernel_rfl) rfl) A1 P.length c1 P _ (fun s hs => bad_pred s _ (by have := Hsz.out s hs; omega)) (Hs1.out.nix (((Upd.refl _ _).alloc _).thenNix Hu2.out)) (by omega)).mono ?_; rw [Hany.out]; rintro e w3 ⟨rfl, rfl⟩)))
      go_ret2
      exact ⟨rfl, (Hu1.out.alloc _).thenNix Hu2.out⟩
end Go.Proofs.YtbffpliihmggoaaDoor.M
