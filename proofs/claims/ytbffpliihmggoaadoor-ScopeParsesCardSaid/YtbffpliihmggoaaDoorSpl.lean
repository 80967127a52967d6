/- A text cut at each byte c. Plain law. -/
import Derived.Lib.Split
import Derived.Lib.IndexMore
set_option linter.unusedVariables false
set_option linter.unusedSimpArgs false
namespace Go.Proofs.YtbffpliihmggoaaDoor.M
open Go

def baOf (l : List UInt8) : ByteArray := ⟨l.toArray⟩
theorem baOf_data (s : ByteArray) : baOf s.data.toList = s := by cases s; rfl
theorem baOf_toList (l : List UInt8) : (baOf l).toList = l := by rw [ByteArray.toList_eq]; rfl
theorem baOf_size (l : List UInt8) : (baOf l).size = l.length := rfl
theorem data_inj {a b : ByteArray} (h : a.data.toList = b.data.toList) : a = b := by rw [← baOf_data a, h, baOf_data]
theorem baOf_inj {a b : List UInt8} (h : baOf a = baOf b) : a = b := by
  have := congrArg (fun x : ByteArray => x.data.toList) h
  simpa [baOf] using this

/-- Cut at each c. -/
def spl (c : UInt8) : List UInt8 → List (List UInt8)
  | [] => [[]]
  | b :: l => if b = c then [] :: spl c l else match spl c l with | [] => [[b]] | x :: r => (b :: x) :: r
theorem spl_ne (c : UInt8) (l : List UInt8) : spl c l ≠ [] := by
  cases l with
  | nil => simp [spl]
  | cons b l => unfold spl; split; simp; split <;> simp
theorem spl_none {c : UInt8} {l : List UInt8} (h : c ∉ l) : spl c l = [l] := by
  induction l with
  | nil => rfl
  | cons b l ih =>
    have hb : b ≠ c := fun e => h (by simp [e])
    unfold spl
    rw [if_neg hb, ih fun h' => h (List.mem_cons_of_mem _ h')]
theorem spl_app {c : UInt8} {x : List UInt8} (h : c ∉ x) (r : List UInt8) : spl c (x ++ c :: r) = x :: spl c r := by
  induction x with
  | nil => simp [spl]
  | cons b x ih =>
    have hb : b ≠ c := fun e => h (by simp [e])
    rw [List.cons_append, spl, if_neg hb, ih fun h' => h (List.mem_cons_of_mem _ h')]
theorem spl_mem {c : UInt8} {l x : List UInt8} (h : x ∈ spl c l) : x.length ≤ l.length ∧ c ∉ x ∧ ∀ b ∈ x, b ∈ l := by
  induction l generalizing x with
  | nil => simp [spl] at h; subst h; simp
  | cons b l ih =>
    unfold spl at h
    split at h
    · rcases List.mem_cons.1 h with rfl | h
      · simp
      · have := ih h; simp only [List.length_cons]; exact ⟨by omega, this.2.1, fun y hy => List.mem_cons_of_mem _ (this.2.2 y hy)⟩
    · rename_i hb
      cases hs : spl c l with
      | nil => exact absurd hs (spl_ne c l)
      | cons y r =>
        rw [hs] at h
        rcases List.mem_cons.1 h with rfl | h
        · have := @ih y (by rw [hs]; simp)
          simp only [List.length_cons]
          refine ⟨by omega, ?_, ?_⟩
          · intro hc
            rcases List.mem_cons.1 hc with e | hc
            · exact hb e.symm
            · exact this.2.1 hc
          · intro z hz
            rcases List.mem_cons.1 hz with rfl | hz
            · simp
            · exact List.mem_cons_of_mem _ (this.2.2 z hz)
        · have := @ih x (by rw [hs]; exact List.mem_cons_of_mem _ h)
          simp only [List.length_cons]
          exact ⟨by omega, this.2.1, fun y hy => List.mem_cons_of_mem _ (this.2.2 y hy)⟩
theorem spl_length_le (c : UInt8) (l : List UInt8) : (spl c l).length ≤ l.length + 1 := by
  induction l with
  | nil => simp [spl]
  | cons b l ih =>
    unfold spl
    split
    · simp only [List.length_cons]; omega
    · split
      · simp
      · rename_i x r h; rw [h] at ih; simp only [List.length_cons] at *; omega
theorem spl_join {c : UInt8} {l : List (List UInt8)} (h : ∀ x ∈ l, c ∉ x) (hl : l ≠ []) : spl c ([c].intercalate l) = l := by
  induction l with
  | nil => exact absurd rfl hl
  | cons x l ih =>
    cases l with
    | nil => simpa [List.intercalate] using spl_none (h x (by simp))
    | cons y l =>
      have : [c].intercalate (x :: y :: l) = x ++ c :: [c].intercalate (y :: l) := by simp [List.intercalate, List.intersperse]
      rw [this, spl_app (h x (by simp)), ih (fun z hz => h z (List.mem_cons_of_mem _ hz)) (by simp)]

theorem occ_iff (s : List UInt8) (c : UInt8) (i : Nat) : Lib.occAt s [c] i = true ↔ s[i]? = some c := by
  unfold Lib.occAt
  cases h : s.drop i with
  | nil =>
    have : s[i]? = none := by rw [← List.head?_drop, h]; rfl
    simp [this, List.isPrefixOf]
  | cons b r =>
    have : s[i]? = some b := by rw [← List.head?_drop, h]; rfl
    simp only [this, List.isPrefixOf, Bool.and_true, beq_iff_eq, Option.some.injEq]
    exact ⟨fun e => e.symm, fun e => e.symm⟩
theorem first_split {s : List UInt8} {c : UInt8} (hc : c ∈ s) : ∃ x r, s = x ++ c :: r ∧ c ∉ x := by
  induction s with
  | nil => simp at hc
  | cons b s ih =>
    by_cases hb : b = c
    · exact ⟨[], s, by simp [hb], by simp⟩
    · obtain ⟨x, r, e, hx⟩ := ih (by rcases List.mem_cons.1 hc with e | h; exact absurd e.symm hb; exact h)
      exact ⟨b :: x, r, by simp [e], by intro h; rcases List.mem_cons.1 h with e | h; exact hb e.symm; exact hx h⟩
/-- Where the first c is. -/
theorem index_one (s : List UInt8) (c : UInt8) : (Lib.index s [c] = -1 ∧ c ∉ s) ∨ (∃ i : Nat, Lib.index s [c] = i ∧ s = s.take i ++ c :: s.drop (i + 1) ∧ c ∉ s.take i ∧ i < s.length) := by
  by_cases hc : c ∈ s
  · right
    obtain ⟨x, r, e, hx⟩ := first_split hc
    have e0 : s.take x.length = x := by rw [e]; simp
    have e1 : s.drop (x.length + 1) = r := by rw [e, ← List.drop_drop]; simp
    refine ⟨x.length, Lib.index_first (by rw [e]; simp) ?_ ?_, ?_, ?_, by rw [e]; simp⟩
    · rw [occ_iff, e]; simp
    · intro j hj
      cases ho : Lib.occAt s [c] j with
      | false => rfl
      | true =>
        rw [occ_iff, e, List.getElem?_append_left hj] at ho
        exact absurd (List.mem_of_getElem? ho) hx
    · rw [e0, e1]; exact e
    · rw [e0]; exact hx
  · left
    refine ⟨Lib.index_none fun j hj => ?_, hc⟩
    cases ho : Lib.occAt s [c] j with
    | false => rfl
    | true => rw [occ_iff] at ho; exact absurd (List.mem_of_getElem? ho) hc

theorem split_spl (c : UInt8) : ∀ (n : Nat) (s : List UInt8), s.length ≤ n → Lib.splitK [c] 0 (Lib.count s [c]) s = spl c s ∧ (spl c s).length = Lib.count s [c] + 1 := by
  intro n
  induction n with
  | zero =>
    intro s h
    obtain rfl : s = [] := List.eq_nil_of_length_eq_zero (by omega)
    have h0 : Lib.index [] [c] = -1 := rfl
    rw [Lib.count_miss h0]; exact ⟨rfl, rfl⟩
  | succ n ih =>
    intro s h
    rcases index_one s c with ⟨hi, hc⟩ | ⟨i, hi, e, hx, hlt⟩
    · rw [Lib.count_miss hi, spl_none hc]; exact ⟨rfl, rfl⟩
    · have hne : ([c] : List UInt8) ≠ [] := by simp
      have hsp : spl c s = s.take i :: spl c (s.drop (i + 1)) := by
        have := spl_app hx (s.drop (i + 1)); rw [← e] at this; exact this
      obtain ⟨h1, h2⟩ := ih (s.drop (i + 1)) (by rw [List.length_drop]; omega)
      rw [Lib.count_hit hne hi, hsp]
      have e1 : (1 : Nat) + Lib.count (s.drop (i + ([c] : List UInt8).length)) [c] = Lib.count (s.drop (i + 1)) [c] + 1 := by simp only [List.length_singleton]; omega
      refine ⟨?_, ?_⟩
      · rw [e1, Lib.splitK, if_neg (by rw [hi]; simp)]
        have e2 : (Lib.index s [c]).toNat = i := by omega
        rw [e2]; simp only [Nat.add_zero, List.length_singleton]; rw [h1]
      · rw [e1, List.length_cons, h2]

/-- The library's cut at a byte. -/
theorem splitB_spl (c : UInt8) (s : ByteArray) : Lib.splitB ⟨#[c]⟩ 0 (Lib.countB s ⟨#[c]⟩) s = (spl c s.data.toList).map baOf ∧ Lib.countB s ⟨#[c]⟩ + 1 = (spl c s.data.toList).length := by
  obtain ⟨h1, h2⟩ := split_spl c s.data.toList.length s.data.toList (Nat.le_refl _)
  have h3 := Lib.splitB_data ⟨#[c]⟩ 0 (Lib.countB s ⟨#[c]⟩) s
  refine ⟨?_, h2.symm⟩
  have e : Lib.splitK (ByteArray.mk #[c]).data.toList 0 (Lib.countB s ⟨#[c]⟩) s.data.toList = spl c s.data.toList := h1
  rw [e] at h3
  rw [← h3, List.map_map]
  conv => lhs; rw [← List.map_id (Lib.splitB ⟨#[c]⟩ 0 (Lib.countB s ⟨#[c]⟩) s)]
  exact List.map_congr_left fun x _ => (baOf_data x).symm
end Go.Proofs.YtbffpliihmggoaaDoor.M
