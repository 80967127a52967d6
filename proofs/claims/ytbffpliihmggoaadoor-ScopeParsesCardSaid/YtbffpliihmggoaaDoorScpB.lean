/- scope.set: the rising list of the names that stay. -/
import Derived.Test.YtbffpliihmggoaaDoorScpA
import Derived.Test.YtbffpliihmggoaaDoorScpP
import Derived.Test.YtbffpliihmggoaaDoorShelf
import Derived.Sort.OwnSorted
import Derived.Shelf.Abstract
set_option linter.unusedVariables false
set_option linter.unusedSimpArgs false
namespace Go.Proofs.YtbffpliihmggoaaDoor.M
open Go Go.RowKit Go.Sort

/-- What a function value answers of names: p, in every world in which all that lay in w0 lies unturned. -/
def PredC (g : Nat) (lb : Array Value) (p : ByteArray → Bool) (w0 : World) : Prop :=
  ∀ (W : World) (s : ByteArray), Upd Nix w0 W → Calls Tryd.prog g (#[.string s] ++ lb) W fun e W' => e = .returned (.bool (p s)) ∧ W = W'
theorem PredC.upd {g : Nat} {lb : Array Value} {p : ByteArray → Bool} {w w' : World} (h : PredC g lb p w) (hu : Upd Nix w w') : PredC g lb p w' := fun W s hW => h W s (hu.thenNix hW)

/-- Lists of names, in a row of slices. -/
def ListsAt (w : World) (gl : Nat) (ls : List (List ByteArray)) : Prop :=
  ∀ i l, ls[i]? = some l → ∃ A c, w.cell? ⟨gl, i, none⟩ = some (.slice A l.length c) ∧ SeqAt w A l.length (l.map .string)
theorem ListsAt.nix {w w' : World} {gl : Nat} {ls : List (List ByteArray)} (h : ListsAt w gl ls) (hu : Upd Nix w w') : ListsAt w' gl ls := fun i l hl => by
  obtain ⟨A, c, h1, h2⟩ := h i l hl
  exact ⟨A, c, hu.cell h1 (by simp), h2.nix hu⟩

/-- A slice handed back: it reads as the list, in memory of the call's own (or nowhere). -/
def RetSeq (l : List ByteArray) (w : World) (e : Ending) (w' : World) : Prop :=
  ∃ A c, e = .returned (.slice A l.length c) ∧ l.length ≤ c ∧ SeqAt w' A l.length (l.map .string) ∧ Upd Nix w w'

theorem infoStr : (Tryd.prog.info? 9).map (fun i => (i.zero, i.size, i.bytes)) = some (some (.string ⟨#[]⟩), 1, 16) := by kernel_rfl

theorem seq_own {w : World} {base : Nat} {A : Option Addr} {n c : Nat} {l : List ByteArray} (h : w.ownsRow base 9 1 (.slice A n c) n (l.map .string)) : SeqAt w A n (l.map .string) := by
  rcases h.2 with ⟨h0, hn⟩ | ⟨g, cap, cur, hv, hb, hg, hn, hm, hs, ht⟩
  · cases h0
    have hl := h.1
    exact ⟨by simpa using hl, fun h => by omega⟩
  · cases hv
    refine ⟨by simpa using h.1, fun _ => ⟨_, rfl, fun j u hj => ?_⟩⟩
    exact h.cells (g := g) rfl j u hj

theorem strs_enc (l : List ByteArray) : (l.map (·.data.toList)).map encStr = l.map Value.string := by
  rw [List.map_map]
  apply List.map_congr_left
  intro s _
  show Value.string ⟨s.data.toList.toArray⟩ = Value.string s
  cases s; rfl
theorem enc_strs (l : List (List UInt8)) : l.map encStr = (l.map baOf).map Value.string := by rw [List.map_map]; rfl

/-- Behind the loops: the names are sorted and compacted. -/
def SetRel (p : ByteArray → Bool) (B : Nat) (w : World) (v : Value) (out : List ByteArray) (wr : World) : Prop :=
  wr.ownsRow B 9 1 v out.length (out.map .string) ∧ Upd Nix w wr

theorem sort_own (v : Value) (out : List ByteArray) (B : Nat) (w : World) (h : w.ownsRow B 9 1 v out.length (out.map .string)) (hl : out.length ≤ 1000000) :
    Calls Tryd.prog 39 #[v] w fun e w' => e = .returned (.tuple #[]) ∧ w'.ownsRow B 9 1 v out.length (((out.map (·.data.toList)).mergeSort fun x y => decide (x ≤ y)).map encStr) ∧ Upd (fun j => some j = v.ownBlock) w w' := by
  rcases h.2 with ⟨rfl, h0⟩ | ⟨g, cap, cur, rfl, hb, hg, hn, hm, hs, ht⟩
  · obtain rfl : out = [] := List.eq_nil_of_length_eq_zero h0
    exact (Tryd.slices_Sort_string_none none 0 w).mono fun e w' ⟨he, hw⟩ => by subst hw; exact ⟨he, by simpa using h, Upd.refl _ _⟩
  · have hlen : (out.map (·.data.toList)).length = out.length := by simp
    have hH : Holds encStr w g 0 (out.map (·.data.toList)).toArray := holds_of_block hg (by rw [hlen, strs_enc]; simpa using ht)
    have hc := Tryd.slices_Sort_string g 0 cap (out.map (·.data.toList)) w hH (Array.getElem?_eq_some_iff.1 hg).1 (by rw [hlen]; omega)
    rw [hlen] at hc
    refine hc.mono fun e w' ⟨he, nn, os, hw⟩ => ?_
    subst hw
    refine ⟨he, ?_, (Upd.refl _ _).grown (grownBy_sorted _) (fun k hk _ => by rw [← hk]; rfl)⟩
    have := ownsRow_sorted (n := nn) (os := os) (ss := out.map (·.data.toList)) (ts := (out.map (·.data.toList)).mergeSort fun x y => decide (x ≤ y)) (by simp) hb hg (by rw [hlen]; exact hn) hm hs
    rw [hlen] at this
    exact this

theorem compact_own (v : Value) (zs : List (List UInt8)) (B : Nat) (w : World) (h : w.ownsRow B 9 1 v zs.length (zs.map encStr)) (hl : zs.length ≤ 1000000) :
    Calls Tryd.prog 40 #[v] w fun e w' => ∃ A c, e = .returned (.slice A (Lib.compact zs).length c) ∧ (Lib.compact zs).length ≤ c ∧ SeqAt w' A (Lib.compact zs).length ((Lib.compact zs).map encStr) ∧ Upd (fun j => some j = v.ownBlock) w w' := by
  rcases h.2 with ⟨rfl, h0⟩ | ⟨g, cap, cur, rfl, hb, hg, hn, hm, hs, ht⟩
  · obtain rfl : zs = [] := List.eq_nil_of_length_eq_zero h0
    have e0 : Lib.compact ([] : List (List UInt8)) = [] := rfl
    rw [e0]
    exact (Tryd.slices_Compact_string_empty none 0 w).mono fun e w' ⟨he, hw⟩ => by subst hw; exact ⟨none, 0, he, Nat.le_refl _, SeqAt.nil _, Upd.refl _ _⟩
  · have hH : Holds encStr w g 0 zs.toArray := holds_of_block hg (by simpa using ht)
    refine (Tryd.slices_Compact_string g 0 cap zs w hH (by omega) hn).mono fun e w' ⟨he, q, hw⟩ => ?_
    have hle : (Lib.compact zs).length ≤ zs.length := Lib.compact_length_le zs
    rw [← grow_empty (Sort.putRow encStr (Sort.ahead w q) g 0 _)] at hw
    subst hw
    refine ⟨_, _, he, by omega, ?_, (Upd.refl _ _).grown (grownBy_sorted _) (fun k hk _ => by rw [← hk]; rfl)⟩
    have hlen : (Lib.compact zs ++ List.replicate (zs.length - (Lib.compact zs).length) ([] : List UInt8)).length = zs.length := by simp; omega
    have ho := ownsRow_sorted (n := q) (os := #[]) (ss := zs) (ts := Lib.compact zs ++ List.replicate (zs.length - (Lib.compact zs).length) ([] : List UInt8)) hlen hb hg hn hm hs
    refine ⟨by simp, fun _ => ⟨_, rfl, fun j u hj => ?_⟩⟩
    refine ho.cells (g := g) rfl j u ?_
    rw [List.map_append, List.getElem?_append_left (by have := (List.getElem?_eq_some_iff.1 hj).1; omega)]
    exact hj
end Go.Proofs.YtbffpliihmggoaaDoor.M
