/- TablePlays: what holds between two rounds. -/
import Derived.Test.YtfalifenidpdlaaDoorShowsA
import Derived.Test.YtfalifenidpdlaaDoorLastB
set_option linter.unusedVariables false
set_option linter.unusedSimpArgs false
namespace Go.Proofs.YtfalifenidpdlaaDoor
open Go Go.RowKit Go.Shelf

def marks (Ds : List Nat) : List Deferred := Ds.map fun D => { target := .collected D, args := #[] }
theorem leaves_marks' {F : Fence} {n : Nat} {P : Program} {fn : Func} {tmps : Array Value} {R : Ending → World → Prop} (Ds : List Nat) (W : World) (h1 : Ds.Nodup) (h2 : ∀ D, D ∈ Ds → W.heap[D]? = some (.deferred (some [])))
    (h : ∀ W', Upd (fun k => k ∈ Ds) W W' → LeavesInM F n P fn tmps R [] .returning W') : LeavesInM F n P fn tmps R (marks Ds) .returning W := leaves_marks Ds W h1 h2 h

/-- The cells of acts; a slice that reads as acts. -/
def flat3 (l : List (Int × Int × ByteArray)) : List Value := l.flatMap fun e => [.int .i64 e.1, .int .i64 e.2.1, .string e.2.2]
theorem flat3_key (l : List (Int × Int × ByteArray)) (i : Nat) (e : Int × Int × ByteArray) (h : l[i]? = some e) : (flat3 l)[i * 3]? = some (.int .i64 e.1) ∧ (flat3 l)[i * 3 + 1]? = some (.int .i64 e.2.1) ∧ (flat3 l)[i * 3 + 2]? = some (.string e.2.2) := by
  induction l generalizing i with
  | nil => simp at h
  | cons x l ih =>
    cases i with
    | zero => simp at h; subst h; simp [flat3]
    | succ i =>
      have := ih i (by simpa using h)
      simp only [flat3, List.flatMap_cons] at this ⊢
      rw [show (i + 1) * 3 = i * 3 + 3 from by omega, show i * 3 + 3 + 1 = i * 3 + 1 + 3 from by omega, show i * 3 + 3 + 2 = i * 3 + 2 + 3 from by omega]
      simpa using this
def ActsAt (w : World) (A : Option Addr) (n : Nat) (l : List (Int × Int × ByteArray)) : Prop :=
  l.length = n ∧ (0 < n → ∃ g o, A = some ⟨g, o, none⟩ ∧ g < w.heap.size ∧ ∀ j u, (flat3 l)[j]? = some u → w.cell? ⟨g, o + j, none⟩ = some u)
theorem add_flat' (g o j : Nat) : (Addr.mk g o none).add j = ⟨g, o + j, none⟩ := add_flat ..
theorem ActsAt.get {w : World} {A : Option Addr} {n : Nat} {l : List (Int × Int × ByteArray)} (h : ActsAt w A n l) {i : Nat} (hi : i < n) :
    ∃ ad e, A = some ad ∧ l[i]? = some e ∧ w.cell? (ad.add (i * 3)) = some (.int .i64 e.1) ∧ w.cell? ⟨(ad.add (i * 3)).block, (ad.add (i * 3)).off + 1, none⟩ = some (.int .i64 e.2.1) ∧ w.cell? ⟨(ad.add (i * 3)).block, (ad.add (i * 3)).off + 2, none⟩ = some (.string e.2.2) := by
  obtain ⟨g, o, rfl, hg, hc⟩ := h.2 (by omega)
  have hl : i < l.length := by have := h.1; omega
  have hk := flat3_key l i _ (List.getElem?_eq_getElem hl)
  refine ⟨_, _, rfl, List.getElem?_eq_getElem hl, ?_, ?_, ?_⟩
  · rw [add_flat]; exact hc _ _ hk.1
  · rw [add_flat]; have := hc _ _ hk.2.1; simpa [Nat.add_assoc] using this
  · rw [add_flat]; have := hc _ _ hk.2.2; simpa [Nat.add_assoc] using this

theorem rown_at {w : World} {base : Nat} {A : Option Addr} {m c : Nat} {l : List (ByteArray × Int)} (h : w.ownsRow base 63 2 (.slice A m c) l.length (flat l)) : RowsAt w A m l ∧ (∀ ad, A = some ad → ad.block < w.heap.size) := by
  obtain ⟨A', c', e, _, hr, hA⟩ := rown_rows h
  cases e
  exact ⟨hr, fun ad had => (h.lt _ (hA ad had).1).2⟩
theorem own_own_ne {w : World} {base base' : Nat} {e e' : TypeId} {s s' n n' : Nat} {v v' : Value} {xs xs' : List Value} (h : w.ownsRow base e s v n xs) (h' : w.ownsRow base' e' s' v' n' xs') (hne : e ≠ e') (k : Nat) (hk : v.ownBlock = some k) : some k ≠ v'.ownBlock := by
  rcases h'.2 with ⟨rfl, _⟩ | ⟨g', cap, cur, rfl, _, hh, _⟩
  · simp [Value.ownBlock]
  · intro he
    have : k = g' := by simpa [Value.ownBlock] using he
    subst this
    exact own_blk_ne h hh hne hk
theorem own_cells {w : World} {base : Nat} {e : TypeId} {s n : Nat} {v : Value} {xs : List Value} (h : w.ownsRow base e s v n xs) (k : Nat) (hk : v.ownBlock = some k) : ∃ o : Obj, w.heap[k]? = some o ∧ o.isCells = true := by
  rcases h.2 with ⟨rfl, _⟩ | ⟨g', cap, cur, rfl, _, hh, _⟩
  · simp [Value.ownBlock] at hk
  · have : g' = k := by simpa [Value.ownBlock] using hk
    subst this
    exact ⟨_, hh, rfl⟩

/-- Between two rounds: the table, the document's table in its box, the marks. -/
structure St (w : World) (pb : Nat) (M : Int) (Ds : List Nat) (base p : Nat) (v : Value) (lt : List (ByteArray × Int)) (vm : Value) (lm : List (ByteArray × Int)) (wr : World) : Prop where
  tab : Tab wr base p v lt M
  low : w.heap.size ≤ base
  box : Blk wr pb 38 #[vm, .int .i64 M]
  boxlow : w.heap.size ≤ pb
  rown : wr.ownsRow w.heap.size 63 2 vm lm.length (flat lm)
  upd : Upd Nix w wr
  defs : ∀ D, D ∈ Ds → w.heap.size ≤ D ∧ wr.heap[D]? = some (.deferred (some []))
  nodup : Ds.Nodup

theorem defs_keep {Ds : List Nat} {lo : Nat} {wr w' : World} {F : Nat → Prop} (h : ∀ D, D ∈ Ds → lo ≤ D ∧ wr.heap[D]? = some (.deferred (some []))) (hu : Upd F wr w') (hF : ∀ k, F k → k < wr.heap.size → ∃ o : Obj, wr.heap[k]? = some o ∧ o.isCells = true) :
    ∀ D, D ∈ Ds → lo ≤ D ∧ w'.heap[D]? = some (.deferred (some [])) := fun D hD => by
  have hd := (h D hD).2
  have hlt := (Array.getElem?_eq_some_iff.1 hd).1
  refine ⟨(h D hD).1, (hu.block D hlt fun f => ?_).trans hd⟩
  obtain ⟨o, ho, hc⟩ := hF D f hlt
  rw [hd] at ho
  cases ho
  cases hc
section
variable {w : World} {pb : Nat} {M : Int} {Ds : List Nat} {base p : Nat} {v : Value} {lt : List (ByteArray × Int)} {vm : Value} {lm : List (ByteArray × Int)} {wr w' : World}
theorem St.nix (h : St w pb M Ds base p v lt vm lm wr) (hu : Upd Nix wr w') : St w pb M Ds base p v lt vm lm w' :=
  ⟨h.tab.nix hu, h.low, h.box.upd hu (fun f => f), h.boxlow, own_upd h.rown hu (fun _ _ f => f), h.upd.thenNix hu, defs_keep h.defs hu (fun _ f => f.elim), h.nodup⟩
theorem St.put {v' : Value} {l' : List (ByteArray × Int)} (h : St w pb M Ds base p v lt vm lm wr) (h2 : Tab w' base p v' l' M) (hu : Upd (fun j => j = p ∨ some j = v.ownBlock) wr w') : St w pb M Ds base p v' l' vm lm w' := by
  have hpb : ¬ (pb = p ∨ some pb = v.ownBlock) := by
    rintro (e | e)
    · exact Blk.ne_ (t := 38) h.box (e ▸ h.tab.blk) (by decide) rfl
    · exact own_blk_ne h.tab.own h.box (by decide) e.symm
  refine ⟨h2, h.low, h.box.upd hu hpb, h.boxlow, own_upd h.rown hu ?_, ?_, defs_keep h.defs hu ?_, h.nodup⟩
  · rintro k hk (e | e)
    · subst e; exact own_blk_ne h.rown h.tab.blk (by decide) hk
    · exact own_own_ne h.rown h.tab.own (by decide) k hk e
  · refine h.upd.trans hu ?_
    rintro k hk (e | e)
    · have := h.low; have := h.tab.base; exact (by omega : False).elim
    · have := h.low; have := (h.tab.own.lt k e.symm).1; exact (by omega : False).elim
  · rintro k (e | e) hk
    · subst e; exact ⟨_, h.tab.blk, rfl⟩
    · exact own_cells h.tab.own k e.symm
theorem St.setm {vm' : Value} {lm' : List (ByteArray × Int)} (h : St w pb M Ds base p v lt vm lm wr) (hown : wr.ownsRow w.heap.size 63 2 vm' lm'.length (flat lm')) :
    St w pb M Ds base p v lt vm' lm' ((wr.setCell ⟨pb, 0, none⟩ vm').setCell ⟨pb, 1, none⟩ (.int .i64 M)) := by
  have hu : Upd (fun k => k = pb) wr ((wr.setCell ⟨pb, 0, none⟩ vm').setCell ⟨pb, 1, none⟩ (.int .i64 M)) := ((Upd.refl (fun k => k = pb) wr).setCell (p := ⟨pb, 0, none⟩) (fun _ => rfl) _).setCell (p := ⟨pb, 1, none⟩) (fun _ => rfl) _
  refine ⟨h.tab.upd hu ?_ ?_, h.low, ?_, h.boxlow, own_upd hown hu ?_, h.upd.trans hu ?_, defs_keep h.defs hu ?_, h.nodup⟩
  · exact fun e => Blk.ne_ (t := 38) h.box (e ▸ h.tab.blk) (by decide) rfl
  · exact fun k hk e => own_blk_ne h.tab.own h.box (by decide) (e ▸ hk)
  · exact (h.box.set_ 0 vm').set_ 1 (.int .i64 M)
  · exact fun k hk e => own_blk_ne hown h.box (by decide) (e ▸ hk)
  · intro k hk e
    have := h.boxlow
    exact (by omega : False).elim
  · rintro k rfl hk; exact ⟨_, h.box, rfl⟩
end

/-- Put, of whatever key: full or not. -/
theorem put_case (key : ByteArray) (x : Int) (w : World) (base p : Nat) (v : Value) (l : List (ByteArray × Int)) (most : Int) (h : Tab w base p v l most) (hno : ¬ (look l key = none ∧ most ≤ (l.length : Int))) (hlen : l.length < 100000) :
    Calls Tryd.prog 8 #[.pointer (some ⟨p, 0, none⟩), .string key, .int .i64 x] w (PutPost w base p v (put l key x) most) := by
  cases hl : look l key with
  | none => exact put_new key x w base p v l most h hl (fun e => hno ⟨hl, by omega⟩) hlen
  | some y => exact put_there key x y w base p v l most h hl
theorem put_either (key : ByteArray) (x : Int) (w : World) (base p : Nat) (v : Value) (l : List (ByteArray × Int)) (most : Int) (h : Tab w base p v l most) (hle : (l.length : Int) ≤ most) (hlen : l.length < 100000) :
    Calls Tryd.prog 8 #[.pointer (some ⟨p, 0, none⟩), .string key, .int .i64 x] w fun e w' => ∃ r v' l', e = .returned r ∧ Tab w' base p v' l' most ∧ Upd (fun j => j = p ∨ some j = v.ownBlock) w w' ∧ (v'.ownBlock = v.ownBlock ∨ ∃ j, v'.ownBlock = some j ∧ w.heap.size ≤ j) := by
  by_cases hf : look l key = none ∧ most ≤ (l.length : Int)
  · refine (put_full key x w base p v l most h hf.1 (by omega)).mono ?_
    rintro e w' ⟨rfl, hu⟩
    exact ⟨_, v, l, rfl, h.nix hu, hu.nix _, .inl rfl⟩
  · refine (put_case key x w base p v l most h hf hlen).mono ?_
    rintro e w' ⟨v', rfl, a, b, c⟩
    exact ⟨_, v', _, rfl, a, b, c⟩
theorem put_len {l : List (ByteArray × Int)} (hr : Rising l) (key : ByteArray) (x : Int) {most : Int} (hle : (l.length : Int) ≤ most) (hno : ¬ (look l key = none ∧ most ≤ (l.length : Int))) : ((put l key x).length : Int) ≤ most ∧ (put l key x).length ≤ l.length + 1 := by
  rw [put_length hr]
  cases hl : look l key with
  | none => have : ¬ most ≤ (l.length : Int) := fun h => hno ⟨hl, h⟩; constructor <;> simp <;> omega
  | some y => constructor <;> simp <;> omega
theorem del_len (l : List (ByteArray × Int)) (key : ByteArray) : (del l key).length ≤ l.length := by unfold del; exact List.length_filter_le _ _
end Go.Proofs.YtfalifenidpdlaaDoor
