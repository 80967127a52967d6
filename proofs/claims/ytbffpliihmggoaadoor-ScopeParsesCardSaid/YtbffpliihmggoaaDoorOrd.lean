/- The order of texts by their bytes; where a key stands among rising keys. Plain law, no program. -/
import Derived.Laws.Strings
set_option linter.unusedVariables false
set_option linter.unusedSimpArgs false
namespace Go.Proofs.YtbffpliihmggoaaDoor.M
open Go

theorem bl_irrefl : ∀ (a : List UInt8), Op.bytesLess a a = false
  | [] => by simp [Op.bytesLess]
  | a :: l => by simp [Op.bytesLess, bl_irrefl l]
theorem u8_lt_asymm {a b : UInt8} (h : a < b) : ¬ b < a := by
  rw [UInt8.lt_iff_toNat_lt] at *; omega
theorem bl_trans : ∀ (a b c : List UInt8), Op.bytesLess a b = true → Op.bytesLess b c = true → Op.bytesLess a c = true
  | [], [], c, h, _ => by simp [Op.bytesLess] at h
  | [], b :: bs, [], _, h => by simp [Op.bytesLess] at h
  | [], b :: bs, c :: cs, _, _ => by simp [Op.bytesLess]
  | a :: as, [], c, h, _ => by simp [Op.bytesLess] at h
  | a :: as, b :: bs, [], _, h => by simp [Op.bytesLess] at h
  | a :: as, b :: bs, c :: cs, h1, h2 => by
    simp only [Op.bytesLess, Bool.or_eq_true, decide_eq_true_eq, Bool.and_eq_true, beq_iff_eq] at *
    rcases h1 with h1 | ⟨rfl, h1⟩
    · rcases h2 with h2 | ⟨rfl, h2⟩
      · left; rw [UInt8.lt_iff_toNat_lt] at *; omega
      · left; exact h1
    · rcases h2 with h2 | ⟨rfl, h2⟩
      · left; exact h2
      · right; exact ⟨rfl, bl_trans as bs cs h1 h2⟩
theorem bl_total : ∀ (a b : List UInt8), Op.bytesLess a b = false → Op.bytesLess b a = false → a = b
  | [], [], _, _ => rfl
  | [], b :: bs, h, _ => by simp [Op.bytesLess] at h
  | a :: as, [], _, h => by simp [Op.bytesLess] at h
  | a :: as, b :: bs, h1, h2 => by
    simp only [Op.bytesLess, Bool.or_eq_false_iff, decide_eq_false_iff_not, Bool.and_eq_false_iff, beq_eq_false_iff_ne] at *
    have e : a = b := by
      have h1' := h1.1; have h2' := h2.1
      rw [UInt8.lt_iff_toNat_lt] at *
      exact UInt8.toNat_inj.1 (by omega)
    subst e
    rw [bl_total as bs (by rcases h1.2 with h | h; exact absurd rfl h; exact h) (by rcases h2.2 with h | h; exact absurd rfl h; exact h)]
theorem ba_ext {a b : ByteArray} (h : a.toList = b.toList) : a = b := by
  have e : ∀ c : ByteArray, c.toList = c.data.toList := ByteArray.toList_eq
  cases a; cases b
  have := h
  simp only [e] at this
  congr
  exact Array.toList_inj.1 this

/-- a < b, as Go has it. -/
def lt (a b : ByteArray) : Bool := Op.bytesLess a.toList b.toList
theorem lt_irrefl (a : ByteArray) : lt a a = false := bl_irrefl _
theorem lt_trans {a b c : ByteArray} (h : lt a b = true) (h' : lt b c = true) : lt a c = true := bl_trans _ _ _ h h'
theorem lt_total {a b : ByteArray} (h : lt a b = false) (h' : lt b a = false) : a = b := ba_ext (bl_total _ _ h h')
theorem lt_asymm {a b : ByteArray} (h : lt a b = true) : lt b a = false := by
  cases hb : lt b a
  · rfl
  · have := lt_trans h hb; rw [lt_irrefl] at this; cases this
theorem lt_le_trans {a b c : ByteArray} (h : lt a b = true) (h' : lt c b = false) : lt a c = true := by
  cases hac : lt a c
  · cases hca : lt c a
    · have := lt_total hac hca; subst this; rw [h] at h'; cases h'
    · rw [lt_trans hca h] at h'; cases h'
  · rfl
theorem le_lt_trans {a b c : ByteArray} (h : lt b a = false) (h' : lt b c = true) : lt a c = true := by
  cases hac : lt a c
  · cases hba : lt a b
    · have := lt_total hba h; subst this; rw [h'] at hac; cases hac
    · rw [lt_trans hba h'] at hac; cases hac
  · rfl
theorem lt_ne {a b : ByteArray} (h : lt a b = true) : a ≠ b := by rintro rfl; rw [lt_irrefl] at h; cases h
theorem lt_of {a b : ByteArray} (h : lt a b = false) (hn : a ≠ b) : lt b a = true := by
  cases hb : lt b a
  · exact absurd (lt_total h hb) hn
  · rfl

section
variable {α : Type}
/-- Rows with rising keys. -/
def Rising (l : List (ByteArray × α)) : Prop := l.Pairwise fun a b => lt a.1 b.1 = true
/-- How many rows have a lesser key. -/
def pos (l : List (ByteArray × α)) (key : ByteArray) : Nat := (l.takeWhile fun e => lt e.1 key).length
/-- The value under a key. -/
def look : List (ByteArray × α) → ByteArray → Option α
  | [], _ => none
  | (k, v) :: l, key => if k = key then some v else look l key
/-- With a row. -/
def put (l : List (ByteArray × α)) (key : ByteArray) (v : α) : List (ByteArray × α) :=
  l.take (pos l key) ++ (key, v) :: l.drop (pos l key + if (look l key).isSome then 1 else 0)
/-- Without a row. -/
def del (l : List (ByteArray × α)) (key : ByteArray) : List (ByteArray × α) := l.filter fun e => e.1 ≠ key

theorem pos_le (l : List (ByteArray × α)) (key : ByteArray) : pos l key ≤ l.length := by
  unfold pos; exact (List.takeWhile_sublist _).length_le
theorem Rising.tail {a : ByteArray × α} {l : List (ByteArray × α)} (h : Rising (a :: l)) : Rising l := (List.pairwise_cons.1 h).2
theorem Rising.head {a : ByteArray × α} {l : List (ByteArray × α)} (h : Rising (a :: l)) : ∀ x ∈ l, lt a.1 x.1 = true := (List.pairwise_cons.1 h).1
theorem Rising.get {l : List (ByteArray × α)} (h : Rising l) {i j : Nat} {a b : ByteArray × α} (hij : i < j) (hi : l[i]? = some a) (hj : l[j]? = some b) : lt a.1 b.1 = true := by
  obtain ⟨hi', rfl⟩ := List.getElem?_eq_some_iff.1 hi
  obtain ⟨hj', rfl⟩ := List.getElem?_eq_some_iff.1 hj
  exact List.pairwise_iff_getElem.1 h i j hi' hj' hij
/-- A place with lesser keys ahead and no lesser ones behind is the place. -/
theorem pos_of (l : List (ByteArray × α)) (key : ByteArray) (i : Nat) (hi : i ≤ l.length) (h1 : ∀ j a, j < i → l[j]? = some a → lt a.1 key = true) (h2 : ∀ a, l[i]? = some a → lt a.1 key = false) : pos l key = i := by
  induction l generalizing i with
  | nil => simp at hi; subst hi; rfl
  | cons x l ih =>
    cases i with
    | zero =>
      have := h2 x rfl
      simp [pos, this]
    | succ i =>
      have hx := h1 0 x (by omega) rfl
      have := ih i (by simpa using hi) (fun j a hj ha => h1 (j + 1) a (by omega) (by simpa using ha)) (fun a ha => h2 a (by simpa using ha))
      unfold pos at this ⊢
      simp [hx, this]
theorem pos_before (l : List (ByteArray × α)) (key : ByteArray) : ∀ j a, j < pos l key → l[j]? = some a → lt a.1 key = true := by
  induction l with
  | nil => intro j a h; simp [pos] at h
  | cons x l ih =>
    intro j a hj ha
    cases hx : lt x.1 key
    · simp [pos, hx] at hj
    · cases j with
      | zero => simp at ha; subst ha; exact hx
      | succ j => exact ih j a (by simp [pos, hx] at hj; exact hj) (by simpa using ha)
theorem pos_at (l : List (ByteArray × α)) (key : ByteArray) : ∀ a, l[pos l key]? = some a → lt a.1 key = false := by
  induction l with
  | nil => intro a h; simp at h
  | cons x l ih =>
    intro a ha
    cases hx : lt x.1 key
    · simp [pos, hx] at ha; subst ha; exact hx
    · refine ih a ?_
      simpa [pos, hx] using ha
/-- Under a key there is a row just where the place holds it. -/
theorem look_pos {l : List (ByteArray × α)} (h : Rising l) (key : ByteArray) : look l key = match l[pos l key]? with | some a => if a.1 = key then some a.2 else none | none => none := by
  induction l with
  | nil => simp [look]
  | cons x l ih =>
    obtain ⟨k, v⟩ := x
    have hh := h.head
    cases hx : lt k key
    · simp only [pos, List.takeWhile_cons, hx, look, List.length_nil, List.getElem?_cons_zero, Bool.false_eq_true, if_false]
      by_cases e : k = key
      · simp [e]
      · rw [if_neg e, if_neg e]
        have hlt := lt_of hx e
        have : ∀ y ∈ l, y.1 ≠ key := fun y hy e2 => by
          have := lt_trans hlt (hh y hy)
          rw [e2, lt_irrefl] at this; cases this
        clear ih h hh
        induction l with
        | nil => rfl
        | cons y l ih2 =>
          obtain ⟨k2, v2⟩ := y
          simp only [look]
          rw [if_neg (this (k2, v2) (by simp))]
          exact ih2 fun z hz => this z (by simp [hz])
    · have e : k ≠ key := lt_ne hx
      simp only [look, if_neg e, pos, List.takeWhile_cons, hx, if_true, List.length_cons, List.getElem?_cons_succ]
      exact ih h.tail
theorem look_mem {l : List (ByteArray × α)} {key : ByteArray} {v : α} (h : look l key = some v) : (key, v) ∈ l := by
  induction l with
  | nil => simp [look] at h
  | cons x l ih =>
    obtain ⟨k, u⟩ := x
    simp only [look] at h
    split at h
    · rename_i e; subst e; simp at h; subst h; simp
    · exact List.mem_cons_of_mem _ (ih h)
theorem look_none {l : List (ByteArray × α)} {key : ByteArray} (h : look l key = none) : ∀ a ∈ l, a.1 ≠ key := by
  induction l with
  | nil => intro a ha; cases ha
  | cons x l ih =>
    obtain ⟨k, u⟩ := x
    simp only [look] at h
    split at h
    · cases h
    · rename_i e
      intro a ha
      rcases List.mem_cons.1 ha with rfl | ha
      · exact e
      · exact ih h a ha
theorem look_append (l r : List (ByteArray × α)) (key : ByteArray) : look (l ++ r) key = (look l key).or (look r key) := by
  induction l with
  | nil => simp [look]
  | cons x l ih =>
    obtain ⟨k, v⟩ := x
    simp only [List.cons_append, look]
    split
    · rfl
    · exact ih
theorem look_none_of {l : List (ByteArray × α)} {key : ByteArray} (h : ∀ a ∈ l, a.1 ≠ key) : look l key = none := by
  cases e : look l key
  · rfl
  · exact absurd rfl (h _ (look_mem e))
theorem some_at {l : List (ByteArray × α)} (h : Rising l) {key : ByteArray} {v : α} (hl : look l key = some v) : l[pos l key]? = some (key, v) := by
  rw [look_pos h] at hl
  split at hl
  · rename_i a ha
    split at hl
    · rename_i e
      cases hl
      rw [ha, ← e]
    · cases hl
  · cases hl
theorem none_at {l : List (ByteArray × α)} (h : Rising l) {key : ByteArray} (hl : look l key = none) : ∀ a, l[pos l key]? = some a → lt key a.1 = true := by
  intro a ha
  refine lt_of (pos_at l key a ha) ?_
  exact look_none hl a (List.mem_of_getElem? ha)
theorem drop_after {l : List (ByteArray × α)} (h : Rising l) (key : ByteArray) : ∀ a ∈ l.drop (pos l key + if (look l key).isSome then 1 else 0), lt key a.1 = true := by
  intro a ha
  obtain ⟨j, hj⟩ := List.mem_iff_getElem?.1 ha
  rw [List.getElem?_drop] at hj
  cases hl : look l key with
  | none =>
    rw [hl] at hj
    simp only [Option.isSome_none, Bool.false_eq_true, if_false, Nat.add_zero] at hj
    by_cases h0 : j = 0
    · subst h0; exact none_at h hl a (by simpa using hj)
    · have hp : pos l key < l.length := by
        have := (List.getElem?_eq_some_iff.1 hj).1; omega
      have h1 : l[pos l key]? = some l[pos l key] := List.getElem?_eq_getElem hp
      exact lt_trans (none_at h hl _ h1) (h.get (by omega) h1 hj)
  | some v =>
    rw [hl] at hj
    simp only [Option.isSome_some, if_true] at hj
    exact h.get (i := pos l key) (by omega) (some_at h hl) hj
theorem take_before (l : List (ByteArray × α)) (key : ByteArray) : ∀ a ∈ l.take (pos l key), lt a.1 key = true := by
  intro a ha
  obtain ⟨j, hj⟩ := List.mem_iff_getElem?.1 ha
  rw [List.getElem?_take] at hj
  split at hj
  · exact pos_before l key j a (by assumption) hj
  · cases hj
theorem Rising.put {l : List (ByteArray × α)} (h : Rising l) (key : ByteArray) (v : α) : Rising (put l key v) := by
  unfold Go.Proofs.YtbffpliihmggoaaDoor.M.put Rising
  rw [List.pairwise_append]
  refine ⟨h.sublist (List.take_sublist _ _), ?_, ?_⟩
  · rw [List.pairwise_cons]
    exact ⟨fun a ha => drop_after h key a ha, h.sublist (List.drop_sublist _ _)⟩
  · intro a ha b hb
    have h1 := take_before l key a ha
    rcases List.mem_cons.1 hb with rfl | hb
    · exact h1
    · exact lt_trans h1 (drop_after h key b hb)
theorem look_put {l : List (ByteArray × α)} (h : Rising l) (key : ByteArray) (v : α) (k : ByteArray) : look (put l key v) k = if key = k then some v else look l k := by
  have e : l = l.take (pos l key) ++ l.drop (pos l key) := (List.take_append_drop _ _).symm
  have hk1 : look (l.take (pos l key)) key = none := look_none_of fun a ha => lt_ne (take_before l key a ha)
  unfold put
  rw [look_append]
  simp only [look]
  by_cases hkk : key = k
  · subst hkk
    rw [hk1]; simp
  · rw [if_neg hkk, if_neg hkk]
    conv => rhs; rw [e]
    rw [look_append]
    congr 1
    cases hl : look l key with
    | none => simp
    | some u =>
      have h1 := some_at h hl
      have hp : pos l key < l.length := (List.getElem?_eq_some_iff.1 h1).1
      rw [List.drop_eq_getElem_cons hp]
      have : l[pos l key] = (key, u) := by
        have := (List.getElem?_eq_some_iff.1 h1).2; exact this
      rw [this]
      simp [look, hkk]
theorem put_length {l : List (ByteArray × α)} (h : Rising l) (key : ByteArray) (v : α) : (put l key v).length = if (look l key).isSome then l.length else l.length + 1 := by
  have hp := pos_le l key
  unfold put
  cases hl : look l key with
  | none => simp; omega
  | some u =>
    have h1 := (List.getElem?_eq_some_iff.1 (some_at h hl)).1
    simp; omega
theorem Rising.del {l : List (ByteArray × α)} (h : Rising l) (key : ByteArray) : Rising (del l key) := h.sublist List.filter_sublist
theorem look_del {l : List (ByteArray × α)} (key k : ByteArray) : look (del l key) k = if key = k then none else look l k := by
  induction l with
  | nil => simp [del, look]
  | cons x l ih =>
    obtain ⟨k2, v⟩ := x
    unfold del at ih ⊢
    by_cases e : k2 = key
    · subst e
      simp only [List.filter_cons, ne_eq, not_true_eq_false, decide_false, Bool.false_eq_true, if_false, ih, look]
      by_cases e2 : k2 = k
      · simp [e2]
      · simp [e2]
    · simp only [List.filter_cons, ne_eq, e, not_false_eq_true, decide_true, if_true, look, ih]
      by_cases e2 : key = k
      · subst e2; simp [e]
      · simp [e2]
theorem del_eq {l : List (ByteArray × α)} (h : Rising l) {key : ByteArray} {v : α} (hl : look l key = some v) : del l key = l.take (pos l key) ++ l.drop (pos l key + 1) := by
  have h1 := some_at h hl
  have hp : pos l key < l.length := (List.getElem?_eq_some_iff.1 h1).1
  have hg : l[pos l key] = (key, v) := (List.getElem?_eq_some_iff.1 h1).2
  have e : l = l.take (pos l key) ++ (key, v) :: l.drop (pos l key + 1) := by
    conv => lhs; rw [← List.take_append_drop (pos l key) l, List.drop_eq_getElem_cons hp, hg]
  have hd := drop_after h key
  rw [hl] at hd
  unfold del
  conv => lhs; rw [e]
  rw [List.filter_append, List.filter_cons]
  simp only [ne_eq, not_true_eq_false, decide_false, Bool.false_eq_true, if_false]
  congr 1
  · rw [List.filter_eq_self]
    intro a ha; simpa using lt_ne (take_before l key a ha)
  · rw [List.filter_eq_self]
    intro a ha; simpa using (lt_ne (hd a (by simpa using ha))).symm
theorem del_none {l : List (ByteArray × α)} {key : ByteArray} (hl : look l key = none) : del l key = l := by
  unfold del
  rw [List.filter_eq_self]
  intro a ha; simpa using look_none hl a ha
/-- Rising rows that answer alike are the same. -/
theorem look_ext {l r : List (ByteArray × α)} (h : Rising l) (h' : Rising r) (he : ∀ k, look l k = look r k) : l = r := by
  induction l generalizing r with
  | nil =>
    cases r with
    | nil => rfl
    | cons y r => have := he y.1; simp [look] at this
  | cons x l ih =>
    cases r with
    | nil => have := he x.1; simp [look] at this
    | cons y r =>
      obtain ⟨k, v⟩ := x
      obtain ⟨k', v'⟩ := y
      have hk : k = k' := by
        cases hlt : lt k k'
        · cases hlt' : lt k' k
          · exact lt_total hlt hlt'
          · have := he k'
            simp only [look, if_true] at this
            rw [if_neg (lt_ne hlt').symm] at this
            have hm := look_mem this
            have := h.head _ hm
            rw [lt_asymm hlt'] at this; cases this
        · have := he k
          simp only [look, if_true] at this
          rw [if_neg (lt_ne hlt).symm] at this
          have hm := look_mem this.symm
          have := h'.head _ hm
          rw [lt_asymm hlt] at this; cases this
      subst hk
      have hv : v = v' := by have := he k; simpa [look] using this
      subst hv
      congr 1
      refine ih h.tail h'.tail fun z => ?_
      by_cases e : k = z
      · subst e
        rw [look_none_of fun a ha => (lt_ne (h.head a ha)).symm, look_none_of fun a ha => (lt_ne (h'.head a ha)).symm]
      · have := he z
        simpa [look, e] using this
end
end Go.Proofs.YtbffpliihmggoaaDoor.M
