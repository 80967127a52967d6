/- Sets of names as rising lists: what sorting and compacting give is the list that rises and has the same members; two such lists are one. Plain law. -/
import Derived.Test.YtbffpliihmggoaaDoorOrd
import Derived.Test.YtbffpliihmggoaaDoorSpl
import Derived.Lib.SlicesCompact
set_option linter.unusedVariables false
set_option linter.unusedSimpArgs false
namespace Go.Proofs.YtbffpliihmggoaaDoor.M
open Go

/-- Names that rise. -/
def Ris (l : List ByteArray) : Prop := l.Pairwise fun a b => lt a b = true
theorem Ris.tail {a : ByteArray} {l : List ByteArray} (h : Ris (a :: l)) : Ris l := (List.pairwise_cons.1 h).2
theorem Ris.head {a : ByteArray} {l : List ByteArray} (h : Ris (a :: l)) : ∀ x ∈ l, lt a x = true := (List.pairwise_cons.1 h).1
theorem ris_ext {l m : List ByteArray} (hl : Ris l) (hm : Ris m) (h : ∀ x, x ∈ l ↔ x ∈ m) : l = m := by
  induction l generalizing m with
  | nil =>
    cases m with
    | nil => rfl
    | cons b m => exact absurd ((h b).2 (by simp)) (by simp)
  | cons a l ih =>
    cases m with
    | nil => exact absurd ((h a).1 (by simp)) (by simp)
    | cons b m =>
      have e : a = b := by
        rcases List.mem_cons.1 ((h a).1 (by simp)) with e | ha
        · exact e
        · rcases List.mem_cons.1 ((h b).2 (by simp)) with e | hb
          · exact e.symm
          · have h1 := hl.head b hb
            have h2 := hm.head a ha
            rw [lt_asymm h1] at h2; cases h2
      subst e
      rw [ih hl.tail hm.tail fun x => ⟨fun hx => ?_, fun hx => ?_⟩]
      · rcases List.mem_cons.1 ((h x).1 (List.mem_cons_of_mem _ hx)) with e | h'
        · subst e; have := hl.head x hx; rw [lt_irrefl] at this; cases this
        · exact h'
      · rcases List.mem_cons.1 ((h x).2 (List.mem_cons_of_mem _ hx)) with e | h'
        · subst e; have := hm.head x hx; rw [lt_irrefl] at this; cases this
        · exact h'

/-- Is a name among them? -/
def hasS (l : List ByteArray) (x : ByteArray) : Bool := l.any fun y => decide (y = x)
theorem hasS_iff (l : List ByteArray) (x : ByteArray) : hasS l x = true ↔ x ∈ l := by simp [hasS]
theorem hasS_no (l : List ByteArray) (x : ByteArray) : hasS l x = false ↔ x ∉ l := by rw [← hasS_iff]; simp
/-- A name more. -/
def putS (l : List ByteArray) (x : ByteArray) : List ByteArray := if hasS l x = true then l else l.takeWhile (fun y => !lt x y) ++ x :: l.dropWhile (fun y => !lt x y)
/-- The rising list of names. -/
def setS (l : List ByteArray) : List ByteArray := l.foldl putS []
theorem mem_putS (l : List ByteArray) (x y : ByteArray) : y ∈ putS l x ↔ y = x ∨ y ∈ l := by
  unfold putS
  split
  · rename_i hx
    rw [hasS_iff] at hx
    constructor
    · exact .inr
    · rintro (rfl | h) <;> assumption
  · have := List.takeWhile_append_dropWhile (p := fun y => !lt x y) (l := l)
    constructor
    · intro h
      simp only [List.mem_append, List.mem_cons] at h
      rcases h with h | h | h
      · exact .inr (by rw [← this]; exact List.mem_append_left _ h)
      · exact .inl h
      · exact .inr (by rw [← this]; exact List.mem_append_right _ h)
    · rintro (rfl | h)
      · simp
      · rw [← this] at h
        simp only [List.mem_append, List.mem_cons] at h ⊢
        exact h.imp id .inr
theorem ris_putS {l : List ByteArray} (h : Ris l) (x : ByteArray) : Ris (putS l x) := by
  unfold putS
  split
  · exact h
  · rename_i hx
    rw [hasS_iff] at hx
    have hs := List.takeWhile_append_dropWhile (p := fun y => !lt x y) (l := l)
    have h' := h
    unfold Ris at h'
    rw [← hs] at h'
    obtain ⟨h1, h2, h3⟩ := List.pairwise_append.1 h'
    have hlow : ∀ y ∈ l.takeWhile (fun y => !lt x y), lt y x = true := fun y hy => by
      have := List.all_eq_true.1 (List.all_takeWhile (p := fun y => !lt x y) (l := l)) y hy
      simp at this
      exact lt_of this fun e => hx (by rw [e]; exact List.takeWhile_subset _ hy)
    have hhigh : ∀ y ∈ l.dropWhile (fun y => !lt x y), lt x y = true := by
      cases hd : l.dropWhile (fun y => !lt x y) with
      | nil => simp
      | cons z r =>
        have hz : lt x z = true := by
          have := List.head?_dropWhile_not (fun y => !lt x y) l
          rw [hd] at this
          simpa using this
        intro y hy
        rcases List.mem_cons.1 hy with rfl | hy
        · exact hz
        · rw [hd] at h2
          exact lt_trans hz ((List.pairwise_cons.1 h2).1 y hy)
    refine List.pairwise_append.2 ⟨h1, List.pairwise_cons.2 ⟨hhigh, h2⟩, fun a ha b hb => ?_⟩
    rcases List.mem_cons.1 hb with rfl | hb
    · exact hlow a ha
    · exact h3 a ha b hb
theorem setS_from (l acc : List ByteArray) (h : Ris acc) : Ris (l.foldl putS acc) ∧ ∀ x, x ∈ l.foldl putS acc ↔ x ∈ acc ∨ x ∈ l := by
  induction l generalizing acc with
  | nil => exact ⟨h, by simp⟩
  | cons a l ih =>
    obtain ⟨h1, h2⟩ := ih (putS acc a) (ris_putS h a)
    refine ⟨h1, fun x => ?_⟩
    rw [List.foldl_cons, h2 x, mem_putS]
    simp only [List.mem_cons]
    constructor
    · rintro ((rfl | h) | h)
      · exact .inr (.inl rfl)
      · exact .inl h
      · exact .inr (.inr h)
    · rintro (h | rfl | h)
      · exact .inl (.inr h)
      · exact .inl (.inl rfl)
      · exact .inr h
theorem ris_setS (l : List ByteArray) : Ris (setS l) := (setS_from l [] List.Pairwise.nil).1
theorem mem_setS (l : List ByteArray) (x : ByteArray) : x ∈ setS l ↔ x ∈ l := by have := (setS_from l [] List.Pairwise.nil).2 x; simpa [setS] using this
theorem setS_of_ris {l : List ByteArray} (h : Ris l) : setS l = l := ris_ext (ris_setS l) h fun x => mem_setS l x
theorem setS_congr {l m : List ByteArray} (h : ∀ x, x ∈ l ↔ x ∈ m) : setS l = setS m := ris_ext (ris_setS l) (ris_setS m) fun x => by rw [mem_setS, mem_setS]; exact h x
theorem setS_snoc (l : List ByteArray) (x : ByteArray) : setS (l ++ [x]) = putS (setS l) x := by simp [setS]
theorem ris_nodup {l : List ByteArray} (h : Ris l) : l.Nodup := h.imp fun {a b} hab e => lt_ne hab e
theorem putS_length (l : List ByteArray) (x : ByteArray) : (putS l x).length ≤ l.length + 1 := by
  unfold putS
  split
  · omega
  · have := congrArg List.length (List.takeWhile_append_dropWhile (p := fun y => !lt x y) (l := l))
    simp only [List.length_append, List.length_cons] at this ⊢; omega
theorem setS_length (l : List ByteArray) : (setS l).length ≤ l.length := by
  suffices ∀ acc : List ByteArray, (l.foldl putS acc).length ≤ acc.length + l.length by simpa [setS] using this []
  induction l with
  | nil => intro acc; simp
  | cons a l ih =>
    intro acc
    rw [List.foldl_cons, List.length_cons]
    have := ih (putS acc a)
    have := putS_length acc a
    omega

/-! ### The library's order of lists of bytes -/
theorem bl_lt (a b : List UInt8) : Op.bytesLess a b = true ↔ a < b := by
  induction a generalizing b with
  | nil => cases b <;> simp [Op.bytesLess]
  | cons x a ih =>
    cases b with
    | nil => simp [Op.bytesLess]
    | cons y b =>
      simp only [Op.bytesLess, Bool.or_eq_true, decide_eq_true_eq, Bool.and_eq_true, beq_iff_eq]
      rw [List.cons_lt_cons_iff, ih]
theorem le_bl (a b : List UInt8) : a ≤ b ↔ Op.bytesLess b a = false := by
  rw [← List.not_lt, ← bl_lt]; simp
def leB (x y : List UInt8) : Bool := decide (x ≤ y)
theorem leB_eq (a b : List UInt8) : leB a b = !Op.bytesLess b a := by
  unfold leB
  cases h : Op.bytesLess b a
  · simp [(le_bl a b).2 h]
  · have : ¬ a ≤ b := fun h' => by rw [(le_bl a b).1 h'] at h; cases h
    simp [this]
theorem sorted_leB (l : List (List UInt8)) : (l.mergeSort leB).Pairwise fun a b => leB a b = true := by
  apply List.pairwise_mergeSort
  · intro a b c h1 h2
    rw [leB_eq] at *
    simp only [Bool.not_eq_true'] at *
    cases h : Op.bytesLess c a
    · rfl
    · -- c < a, b ≤ .. : c < a; a ≤ b gives c < b or ..
      exfalso
      cases hbc : Op.bytesLess b c
      · have : b = c := bl_total b c hbc h2
        subst this; rw [h1] at h; cases h
      · have := bl_trans b c a hbc h; rw [h1] at this; cases this
  · intro a b
    rw [leB_eq, leB_eq]
    cases h : Op.bytesLess b a
    · simp
    · have : Op.bytesLess a b = false := by
        cases h' : Op.bytesLess a b
        · rfl
        · have := bl_trans _ _ _ h h'; rw [bl_irrefl] at this; cases this
      simp [this]

theorem compact_rises (d : Array (List UInt8)) (hd : ∀ i j, i ≤ j → j < d.size → Op.bytesLess d[j]! d[i]! = false) (m : Nat) (hm : m ≤ d.size) :
    (Lib.compactUpTo d m).Pairwise (fun a b => Op.bytesLess a b = true) ∧ (∀ x, x ∈ Lib.compactUpTo d m ↔ ∃ j, j < m ∧ d[j]! = x) := by
  induction m with
  | zero => exact ⟨by simp [Lib.compactUpTo], by simp [Lib.compactUpTo]⟩
  | succ m ih =>
    obtain ⟨h1, h2⟩ := ih (by omega)
    rw [Lib.compactUpTo_succ]
    by_cases hk : Lib.keeps d m = true
    · rw [if_pos hk]
      refine ⟨List.pairwise_append.2 ⟨h1, by simp, fun a ha b hb => ?_⟩, fun x => ?_⟩
      · obtain rfl : b = d[m]! := by simpa using hb
        obtain ⟨j, hj, rfl⟩ := (h2 a).1 ha
        have hne : d[m]! ≠ d[m - 1]! := by
          unfold Lib.keeps at hk
          simp only [decide_eq_true_eq] at hk
          rcases hk with h | h
          · omega
          · exact h
        have hlt : Op.bytesLess d[m - 1]! d[m]! = true := by
          cases h : Op.bytesLess d[m - 1]! d[m]!
          · exact absurd (bl_total _ _ (hd (m - 1) m (by omega) (by omega)) h) hne
          · rfl
        cases h : Op.bytesLess d[j]! d[m - 1]!
        · have := bl_total _ _ h (hd j (m - 1) (by omega) (by omega)); rw [this]; exact hlt
        · exact bl_trans _ _ _ h hlt
      · simp only [List.mem_append, List.mem_singleton, h2]
        constructor
        · rintro (⟨j, hj, rfl⟩ | rfl)
          · exact ⟨j, by omega, rfl⟩
          · exact ⟨m, by omega, rfl⟩
        · rintro ⟨j, hj, rfl⟩
          by_cases e : j = m
          · subst e; exact .inr rfl
          · exact .inl ⟨j, by omega, rfl⟩
    · rw [if_neg hk, List.append_nil]
      refine ⟨h1, fun x => ?_⟩
      rw [h2]
      have he : 0 < m ∧ d[m]! = d[m - 1]! := by
        unfold Lib.keeps at hk
        simp only [decide_eq_true_eq, not_or, Classical.not_not] at hk
        exact ⟨by omega, hk.2⟩
      constructor
      · rintro ⟨j, hj, rfl⟩; exact ⟨j, by omega, rfl⟩
      · rintro ⟨j, hj, rfl⟩
        by_cases e : j = m
        · subst e; exact ⟨j - 1, by omega, he.2.symm⟩
        · exact ⟨j, by omega, rfl⟩

/-- SORTED AND COMPACTED: the set. -/
theorem sort_set (l : List ByteArray) : (Lib.compact ((l.map (·.data.toList)).mergeSort fun x y => decide (x ≤ y))).map baOf = setS l := by
  have hs := sorted_leB (l.map (·.data.toList))
  generalize hS : (l.map (·.data.toList)).mergeSort leB = s at hs
  have hS' : (l.map (·.data.toList)).mergeSort (fun x y => decide (x ≤ y)) = s := hS
  rw [hS']
  have hp : s.Perm (l.map (·.data.toList)) := by rw [← hS]; exact List.mergeSort_perm _ _
  have hd : ∀ i j, i ≤ j → j < s.toArray.size → Op.bytesLess s.toArray[j]! s.toArray[i]! = false := by
    intro i j hij hj
    have hj' : j < s.length := by simpa using hj
    have hi' : i < s.length := by omega
    rcases Nat.lt_or_eq_of_le hij with h | rfl
    · have := List.pairwise_iff_getElem.1 hs i j hi' hj' h
      rw [leB_eq] at this
      simp only [getElem!_pos, List.size_toArray, hj', hi', List.getElem_toArray]
      simpa using this
    · exact bl_irrefl _
  obtain ⟨h1, h2⟩ := compact_rises s.toArray hd s.length (by simp)
  refine ris_ext ?_ (ris_setS l) fun x => ?_
  · unfold Ris
    rw [List.pairwise_map]
    refine h1.imp fun {a b} hab => ?_
    unfold lt; rw [baOf_toList, baOf_toList]; exact hab
  · rw [mem_setS, List.mem_map]
    constructor
    · rintro ⟨y, hy, rfl⟩
      obtain ⟨j, hj, rfl⟩ := (h2 y).1 hy
      have : s.toArray[j]! ∈ s := by simp only [getElem!_pos, List.size_toArray, hj, List.getElem_toArray]; exact List.getElem_mem _
      obtain ⟨z, hz, e⟩ := List.mem_map.1 (hp.mem_iff.1 this)
      rw [← e, baOf_data]; exact hz
    · intro hx
      have : x.data.toList ∈ s := hp.mem_iff.2 (List.mem_map.2 ⟨x, hx, rfl⟩)
      obtain ⟨j, hj, e⟩ := List.getElem_of_mem this
      refine ⟨x.data.toList, (h2 _).2 ⟨j, hj, ?_⟩, baOf_data x⟩
      simp only [getElem!_pos, List.size_toArray, hj, List.getElem_toArray]; exact e
end Go.Proofs.YtbffpliihmggoaaDoor.M
