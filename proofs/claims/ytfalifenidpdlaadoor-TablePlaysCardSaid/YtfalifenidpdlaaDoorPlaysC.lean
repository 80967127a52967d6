/- An argument that is a slice of acts. -/
import Derived.Test.YtfalifenidpdlaaDoorPlaysB
import Derived.Deep.Slices
import Derived.Deep.Fields
import Derived.ChangeSame
import Derived.DataShut
set_option linter.unusedVariables false
set_option linter.unusedSimpArgs false
namespace Go.Proofs.YtfalifenidpdlaaDoor
open Go Go.ChangeShapes Go.WideShapes Go.RowKit Go.Deep

theorem flat3_inv (l : List (Int × Int × ByteArray)) : ∀ (j : Nat) (u : Value), (flat3 l)[j]? = some u → ∃ i e, l[i]? = some e ∧ ((j = i * 3 ∧ u = .int .i64 e.1) ∨ (j = i * 3 + 1 ∧ u = .int .i64 e.2.1) ∨ (j = i * 3 + 2 ∧ u = .string e.2.2)) := by
  induction l with
  | nil => intro j u h; simp [flat3] at h
  | cons x l ih =>
    intro j u h
    have hx : flat3 (x :: l) = .int .i64 x.1 :: .int .i64 x.2.1 :: .string x.2.2 :: flat3 l := by simp [flat3]
    rw [hx] at h
    match j, h with
    | 0, h => exact ⟨0, x, rfl, .inl ⟨rfl, by simpa using h.symm⟩⟩
    | 1, h => exact ⟨0, x, rfl, .inr (.inl ⟨rfl, by simpa using h.symm⟩)⟩
    | 2, h => exact ⟨0, x, rfl, .inr (.inr ⟨rfl, by simpa using h.symm⟩)⟩
    | j + 3, h =>
      obtain ⟨i, e, he, hc⟩ := ih j u (by simpa using h)
      refine ⟨i + 1, e, by simpa using he, ?_⟩
      rcases hc with ⟨rfl, hu⟩ | ⟨rfl, hu⟩ | ⟨rfl, hu⟩
      · exact .inl ⟨by omega, hu⟩
      · exact .inr (.inl ⟨by omega, hu⟩)
      · exact .inr (.inr ⟨by omega, hu⟩)

theorem acts_of_cells {W : World} {a : Addr} {n : Nat} (hb : a.block < W.heap.size) (each : ∀ i, i < n → ∃ e : Int × Int × ByteArray, W.cell? (a.add (i * 3)) = some (.int .i64 e.1) ∧ W.cell? (a.add (i * 3 + 1)) = some (.int .i64 e.2.1) ∧ W.cell? (a.add (i * 3 + 2)) = some (.string e.2.2)) :
    ∃ l, ActsAt W (some a) n l := by
  classical
  have h' : ∀ i, ∃ e : Int × Int × ByteArray, i < n → W.cell? (a.add (i * 3)) = some (.int .i64 e.1) ∧ W.cell? (a.add (i * 3 + 1)) = some (.int .i64 e.2.1) ∧ W.cell? (a.add (i * 3 + 2)) = some (.string e.2.2) := fun i => by
    by_cases hi : i < n
    · obtain ⟨e, he⟩ := each i hi; exact ⟨e, fun _ => he⟩
    · exact ⟨(0, 0, ByteArray.empty), fun h => absurd h hi⟩
  obtain ⟨g, hg⟩ := Classical.skolem.1 h'
  refine ⟨(List.range n).map g, by simp, fun hn => ?_⟩
  have h0 := (hg 0 hn).1
  obtain ⟨b, o, s⟩ := a
  have hs : s = none := by
    cases s with
    | none => rfl
    | some k =>
      rw [show (0 : Nat) * 3 = 0 from rfl] at h0
      unfold World.cell? Addr.add at h0
      simp only [if_pos] at h0
      split at h0 <;> simp at h0
  subst hs
  refine ⟨b, o, rfl, hb, fun j u hj => ?_⟩
  obtain ⟨i, e, he, hc⟩ := flat3_inv _ j u hj
  have hi : i < n := by have := (List.getElem?_eq_some_iff.1 he).1; simpa using this
  have hge : g i = e := by rw [List.getElem?_map, List.getElem?_range hi] at he; simpa using he
  have hh := hg i hi
  rw [hge] at hh
  rcases hc with ⟨rfl, rfl⟩ | ⟨rfl, rfl⟩ | ⟨rfl, rfl⟩
  · rw [← add_flat]; exact hh.1
  · rw [← add_flat]; exact hh.2.1
  · rw [← add_flat]; exact hh.2.2

theorem three {α : Type} {l : List α} (h : l.length = 3) : ∃ a b c, l = [a, b, c] := by
  match l, h with
  | [a, b, c], _ => exact ⟨a, b, c, rfl⟩

section
variable {H : Type} {enc : TypeId × Value → H} {W : World} {base : Nat} {spare : Nat → Bool} {held : Bool}
theorem acts_of {fuel : Nat} {A : Option Addr} {n c : Nat} {x : DataW H × List MemPlace} (h : DataW.trod enc Tryd.prog W base spare held fuel 35 [.slice A n c] = some x) : ∃ l, ActsAt W A n l := by
  rcases open_slice Tryd.underlying35 h with ⟨hcs, _⟩ | ⟨a, len, cap, m, f, D, Pl, hcs, hb, hl, hm, hmm, hx, hi⟩
  · simp at hcs; obtain ⟨rfl, rfl, rfl⟩ := hcs; exact ⟨[], rfl, fun h => absurd h (by omega)⟩
  · simp at hcs
    obtain ⟨rfl, rfl, rfl⟩ := hcs
    have hnm : n ≤ m := by rw [hmm]; split <;> omega
    have hC : Tryd.prog.cellsOf 41 = 3 := by kernel_rfl
    have hC3 : Tryd.prog.cellsOf 3 = 1 := by kernel_rfl
    have hC9 : Tryd.prog.cellsOf 9 = 1 := by kernel_rfl
    have each : ∀ i, i < n → ∃ e : Int × Int × ByteArray, W.cell? (a.add (i * 3)) = some (.int .i64 e.1) ∧ W.cell? (a.add (i * 3 + 1)) = some (.int .i64 e.2.1) ∧ W.cell? (a.add (i * 3 + 2)) = some (.string e.2.2) := by
      intro i hin
      obtain ⟨cs', hc, ht⟩ := hi i (by omega)
      rw [hC] at hc
      obtain ⟨_, hcl, hat⟩ := World.cells?_some hc
      obtain ⟨ys, n', _, _, _, hyl, hf⟩ := DataW.trod_struct Tryd.underlying41 ht
      have f0 : DataW.trod enc Tryd.prog W base spare held n' 3 ((cs'.drop 0).take (Tryd.prog.cellsOf 3)) = ys[0]? := hf 0 _ rfl
      have f1 : DataW.trod enc Tryd.prog W base spare held n' 3 ((cs'.drop 1).take (Tryd.prog.cellsOf 3)) = ys[1]? := hf 1 _ rfl
      have f2 : DataW.trod enc Tryd.prog W base spare held n' 9 ((cs'.drop 2).take (Tryd.prog.cellsOf 9)) = ys[2]? := hf 2 _ rfl

      rw [hC3] at f0 f1
      rw [hC9] at f2
      have hyl3 : ys.length = 3 := hyl
      obtain ⟨x0, x1, x2, rfl⟩ := three hcl
      obtain ⟨y0, y1, y2, rfl⟩ := three hyl3
      clear hyl hf ht hc
      · simp at f0 f1 f2
        obtain ⟨z0, e0, _, _⟩ := DataW.trod_int Tryd.underlying3 f0
        obtain ⟨z1, e1, _, _⟩ := DataW.trod_int Tryd.underlying3 f1
        obtain ⟨z2, e2, _, _⟩ := DataW.trod_string Tryd.underlying9 f2
        simp at e0 e1 e2
        subst e0 e1 e2
        refine ⟨(z0, z1, z2), ?_, ?_, ?_⟩
        · have := hat 0 (by omega); rw [add_add] at this; simpa using this
        · have := hat 1 (by omega); rw [add_add] at this; simpa using this
        · have := hat 2 (by omega); rw [add_add] at this; simpa using this
    by_cases hn : 0 < n
    · obtain ⟨e, he, _⟩ := each 0 hn
      exact acts_of_cells (by have := World.block_lt_of_cell? W _ he; simpa [block_of_add] using this) each
    · obtain rfl : n = 0 := by omega
      exact ⟨[], rfl, fun h => absurd h (by omega)⟩
end

theorem plays_walk' (w : World) (hL : Laid w) (most : Int) (A : Option Addr) (n cA : Nat) (acs : List (Int × Int × ByteArray)) (hm : (Lit.int .i64 most).wf = true) (has : ActsAt w A n acs) :
    Calls Tryd.prog 4 #[.int .i64 most, .slice A n cA] w fun e w' => e = .returned (.bool true) ∧ Upd Nix w w' :=
  plays_walk w hL most (Int.le_trans ((Lit.wf_int_iff _ _).1 hm).2 (by decide +kernel)) A n cA acs has
end Go.Proofs.YtfalifenidpdlaaDoor
