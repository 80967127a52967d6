/- Words on memory (blocks known whole, what a call may have changed), of no program. -/
import Derived.WalkKit
import Derived.WalkSpells
import Derived.WalkLawsBesides
import Derived.LaidEql
import Derived.LaidEqlPtr
import Derived.KernelRfl
import Derived.Below
import Derived.Laws.OwnMore
import Derived.Deep.AppendLies
import Derived.Deep.Draws
import Derived.Maps.AppendAt
import Derived.RegionTactic
import Derived.OwnWalk
import Derived.ArgAppend
import Derived.Laws.IdiomCopy
import Derived.BigQuiet
import Derived.Deep.QuietTactic
import Derived.Lib.Hide
import Derived.StillTailTactics
set_option linter.unusedVariables false
set_option linter.unusedSimpArgs false
namespace Go.Proofs.YtbffpliihmggoaaDoor.M
open Go.RowKit

theorem block_of_add (a : Addr) (n : Nat) : (a.add n).block = a.block := by unfold Addr.add; split <;> rfl
theorem add_of_add (a : Addr) (i j : Nat) : (a.add i).add j = a.add (i + j) := by
  unfold Addr.add
  by_cases hi : i = 0 <;> by_cases hj : j = 0 <;> simp [hi, hj, Nat.add_assoc]
theorem add_flat (g o n : Nat) : (⟨g, o, none⟩ : Addr).add n = ⟨g, o + n, none⟩ := by unfold Addr.add; split <;> simp_all

/-- Block g is just the cells cs of element type t, none frozen. -/
def Blk (w : World) (g : Nat) (t : TypeId) (cs : Array Value) : Prop := w.heap[g]? = some (.cells cs t (0, 0))

/-- What a call may have changed of old blocks: those in F. -/
structure Upd (F : Nat → Prop) (w w' : World) : Prop where
  os : w'.os = w.os
  tape : w'.tape = w.tape
  output : w'.output = w.output
  size : w.heap.size ≤ w'.heap.size
  block : ∀ k, k < w.heap.size → ¬ F k → w'.heap[k]? = w.heap[k]?

abbrev Nix : Nat → Prop := fun _ => False

section
variable {F G : Nat → Prop} {w w' w'' : World}
theorem Upd.refl (F : Nat → Prop) (w : World) : Upd F w w := ⟨rfl, rfl, rfl, Nat.le_refl _, fun _ _ _ => rfl⟩
theorem Upd.mono (h : Upd F w w') (hs : ∀ k, k < w.heap.size → F k → G k) : Upd G w w' := ⟨h.os, h.tape, h.output, h.size, fun k hk hg => h.block k hk fun hf => hg (hs k hk hf)⟩
theorem Upd.trans (h : Upd F w w') (h' : Upd G w' w'') (hs : ∀ k, k < w.heap.size → G k → F k) : Upd F w w'' :=
  ⟨h'.os.trans h.os, h'.tape.trans h.tape, h'.output.trans h.output, Nat.le_trans h.size h'.size, fun k hk hf => (h'.block k (Nat.lt_of_lt_of_le hk h.size) fun hg => hf (hs k hk hg)).trans (h.block k hk hf)⟩
theorem Upd.nix (h : Upd Nix w w') (F : Nat → Prop) : Upd F w w' := h.mono fun _ _ hf => hf.elim
theorem Upd.thenNix (h : Upd F w w') (h' : Upd Nix w' w'') : Upd F w w'' := h.trans h' fun _ _ hf => hf.elim
theorem Upd.drew (h : Upd F w w') : Upd F w w'.drew := ⟨h.os, h.tape, h.output, h.size, h.block⟩
theorem Upd.drewN (h : Upd F w w') (n : Nat) : Upd F w (w'.drewN n) := ⟨h.os, h.tape, h.output, h.size, h.block⟩
theorem Upd.alloc (h : Upd F w w') (o : Obj) : Upd F w (w'.alloc o) :=
  h.thenNix ⟨rfl, rfl, rfl, by simp, fun k hk _ => Below.heap_alloc _ _ _ hk⟩
theorem Upd.setCell (h : Upd F w w') {p : Addr} (hp : p.block < w.heap.size → F p.block) (u : Value) : Upd F w (w'.setCell p u) :=
  h.trans (G := fun k => k = p.block) ⟨rfl, rfl, rfl, by simp [World.setCell], fun k _ hk => Below.heap_setCell _ _ _ _ hk⟩ fun k hk e => by subst e; exact hp hk
theorem Upd.setRow (h : Upd F w w') {g : Nat} (hp : g < w.heap.size → F g) (cs : Array Value) : Upd F w (w'.setRow g cs) :=
  h.trans (G := fun k => k = g) ⟨rfl, rfl, rfl, by simp [World.setRow], fun k _ hk => setRow_other _ _ _ _ hk⟩ fun k hk e => by subst e; exact hp hk
theorem Upd.grown (h : Upd F w w') {row : Option Nat} (hg : w'.grownBy w'' row) (hr : ∀ k, row = some k → k < w.heap.size → F k) : Upd F w w'' :=
  h.trans (G := fun k => some k = row) ⟨hg.os, hg.tape, hg.output, hg.size, fun k hk hn => hg.block k hk hn⟩ fun k hk e => hr k e.symm hk
theorem Upd.below (h : Upd Nix w w') : Below w.heap.size w w' := ⟨h.os, h.tape, h.output, h.size, fun k hk => h.block k hk fun f => f⟩
theorem Upd.of_below (h : Below w.heap.size w w') : Upd Nix w w' := ⟨h.os, h.tape, h.output, h.size, fun k hk _ => h.block k hk⟩
theorem Upd.cell (h : Upd F w w') {p : Addr} {v : Value} (hc : w.cell? p = some v) (hp : ¬ F p.block) : w'.cell? p = some v :=
  (World.cell?_of_block (h.block p.block (World.block_lt_of_cell? w p hc) hp)).trans hc
end

section
variable {w w' : World} {g : Nat} {t : TypeId} {cs : Array Value} {F : Nat → Prop}
theorem Blk.lt (h : Blk w g t cs) : g < w.heap.size := by
  rcases Nat.lt_or_ge g w.heap.size with hlt | hge
  · exact hlt
  · unfold Blk at h; rw [Array.getElem?_eq_none hge] at h; cases h
theorem Blk.cell (h : Blk w g t cs) (i : Nat) : w.cell? ⟨g, i, none⟩ = cs[i]? := cell_of_row w g i cs t (0, 0) h
theorem Blk.frozen (h : Blk w g t cs) (i : Nat) : w.frozen? ⟨g, i, none⟩ = false := by
  unfold Blk at h
  simp [World.frozen?, h]
theorem Blk.new (w : World) (t : TypeId) (cs : Array Value) : Blk (w.alloc (.cells cs t)) w.heap.size t cs := heap_alloc_new w _
theorem Blk.drew (h : Blk w g t cs) : Blk w.drew g t cs := h
theorem Blk.drewN (h : Blk w g t cs) (n : Nat) : Blk (w.drewN n) g t cs := h
theorem Blk.alloc (h : Blk w g t cs) (o : Obj) : Blk (w.alloc o) g t cs := (Below.heap_alloc w o g h.lt).trans h
theorem Blk.set_ (h : Blk w g t cs) (i : Nat) (u : Value) : Blk (w.setCell ⟨g, i, none⟩ u) g t (cs.setIfInBounds i u) := by
  unfold Blk at h ⊢
  simp [World.setCell, Array.getElem?_modify, h]
theorem Blk.far (h : Blk w g t cs) {p : Addr} (hp : g ≠ p.block) (u : Value) : Blk (w.setCell p u) g t cs := (Below.heap_setCell w p u g hp).trans h
theorem Blk.row (h : Blk w g t cs) (cs' : Array Value) : Blk (w.setRow g cs') g t cs' := setRow_heap w g cs cs' t (0, 0) h
theorem Blk.upd (h : Blk w g t cs) (hu : Upd F w w') (hg : ¬ F g) : Blk w' g t cs := (hu.block g h.lt hg).trans h
theorem Blk.ne_ {g' : Nat} {t' : TypeId} {cs' : Array Value} (h : Blk w g t cs) (h' : Blk w g' t' cs') (hne : t ≠ t') : g ≠ g' := by
  rintro rfl
  unfold Blk at h h'
  rw [h] at h'
  injection h' with h'
  injection h' with _ ht
  exact hne ht
theorem own_blk_ne {base : Nat} {e : TypeId} {size n : Nat} {v : Value} {xs : List Value} (h : w.ownsRow base e size v n xs) (hg : Blk w g t cs) (hne : e ≠ t) : v.ownBlock ≠ some g := by
  rcases h.2 with ⟨rfl, _⟩ | ⟨g', cap, cur, rfl, _, hh, _⟩
  · simp [Value.ownBlock]
  · intro he
    have : g' = g := by simpa [Value.ownBlock] using he
    subst this
    exact Blk.ne_ (t := e) hh hg hne rfl
theorem own_upd {base : Nat} {e : TypeId} {size n : Nat} {v : Value} {xs : List Value} (h : w.ownsRow base e size v n xs) (hu : Upd F w w') (hf : ∀ k, v.ownBlock = some k → ¬ F k) : w'.ownsRow base e size v n xs := by
  refine ⟨h.1, ?_⟩
  rcases h.2 with hn | ⟨g, cap, cur, rfl, hb, hgg, rest⟩
  · exact .inl hn
  · exact .inr ⟨g, cap, cur, rfl, hb, (hu.block g (Array.getElem?_eq_some_iff.1 hgg).1 (hf g rfl)).trans hgg, rest⟩
theorem own_slice {base : Nat} {e : TypeId} {size n : Nat} {v : Value} {xs : List Value} (h : w.ownsRow base e size v n xs) : ∃ A c, v = .slice A n c := by
  rcases h.2 with ⟨rfl, rfl⟩ | ⟨g, cap, cur, rfl, _⟩
  · exact ⟨none, 0, rfl⟩
  · exact ⟨_, cap, rfl⟩
theorem own_slice_ {base : Nat} {e : TypeId} {size n : Nat} {v : Value} {xs : List Value} (h : w.ownsRow base e size v n xs) : ∃ A m c, v = .slice A m c ∧ Hid (m = n) := by
  obtain ⟨A, c, rfl⟩ := own_slice h
  exact ⟨A, n, c, rfl, rfl⟩
theorem own_mono {base base' : Nat} {e : TypeId} {size n : Nat} {v : Value} {xs : List Value} (h : w.ownsRow base' e size v n xs) (hb : base ≤ base') : w.ownsRow base e size v n xs :=
  ⟨h.1, h.2.imp id fun ⟨g, cap, cur, a, b, c⟩ => ⟨g, cap, cur, a, Nat.le_trans hb b, c⟩⟩
theorem Upd.ownNix {w w1 w2 : World} {v : Value} (h : Upd Nix w w1) (h2 : Upd (fun j => some j = v.ownBlock) w1 w2) (hv : ∀ k, v.ownBlock = some k → w.heap.size ≤ k) : Upd Nix w w2 :=
  h.trans h2 (fun k hk e => by have := hv k e.symm; omega)
theorem own_len {base : Nat} {e : TypeId} {size n : Nat} {A : Option Addr} {m c : Nat} {xs : List Value} (h : w.ownsRow base e size (.slice A m c) n xs) : Hid (m = n) := by
  obtain ⟨A', c', h'⟩ := own_slice h
  cases h'; rfl
theorem own_lt {base : Nat} {e : TypeId} {size n : Nat} {v : Value} {xs : List Value} (h : w.ownsRow base e size v n xs) (k : Nat) (hk : v.ownBlock = some k) : k < w.heap.size := (h.lt k hk).2
end

/-- A slice of one-cell elements that reads as a list. -/
def SeqAt (w : World) (A : Option Addr) (n : Nat) (vs : List Value) : Prop :=
  vs.length = n ∧ (0 < n → ∃ ad, A = some ad ∧ ∀ j u, vs[j]? = some u → w.cell? (ad.add j) = some u)
theorem SeqAt.get {w : World} {A : Option Addr} {n : Nat} {vs : List Value} (h : SeqAt w A n vs) {i : Nat} (hi : i < n) : ∃ ad u, A = some ad ∧ vs[i]? = some u ∧ w.cell? (ad.add i) = some u := by
  obtain ⟨ad, rfl, hc⟩ := h.2 (by omega)
  have hl : i < vs.length := by have := h.1; omega
  exact ⟨ad, vs[i], rfl, List.getElem?_eq_getElem hl, hc i _ (List.getElem?_eq_getElem hl)⟩
theorem SeqAt.upd {F : Nat → Prop} {w w' : World} {A : Option Addr} {n : Nat} {vs : List Value} (h : SeqAt w A n vs) (hu : Upd F w w') (hf : ∀ k, F k → ∀ ad, A = some ad → ad.block ≠ k) : SeqAt w' A n vs :=
  ⟨h.1, fun hn => by
    obtain ⟨ad, rfl, hc⟩ := h.2 hn
    exact ⟨ad, rfl, fun j u hj => hu.cell (hc j u hj) (by rw [block_of_add]; exact fun f => hf _ f ad rfl rfl)⟩⟩
theorem SeqAt.nix {w w' : World} {A : Option Addr} {n : Nat} {vs : List Value} (h : SeqAt w A n vs) (hu : Upd Nix w w') : SeqAt w' A n vs := h.upd hu fun _ f => f.elim
theorem seq_of_cells {α : Type} {f : α → Value} {w : World} {x : Addr} {n cap : Nat} {ss : List α} {d : α} (hz : ss.length = cap) (hl : n ≤ cap) (hc : ∀ i, i < ss.length → w.cell? (x.add i) = some (f (ss.getD i d))) : SeqAt w (some x) n ((ss.take n).map f) := by
  refine ⟨by rw [List.length_map, List.length_take]; omega, fun _ => ⟨x, rfl, fun j u hj => ?_⟩⟩
  rw [List.getElem?_map, List.getElem?_take] at hj
  split at hj
  · obtain ⟨y, hy, rfl⟩ : ∃ y, ss[j]? = some y ∧ f y = u := by simpa using hj
    rw [hc j (List.getElem?_eq_some_iff.1 hy).1, List.getD_eq_getElem?_getD, hy]; rfl
  · simp at hj
theorem SeqAt.nil (w : World) : SeqAt w none 0 [] := ⟨rfl, fun h => absurd h (by omega)⟩
end Go.Proofs.YtbffpliihmggoaaDoor.M
