/- Rows put in order, and rows put from the last on if they aren't there yet, come to the same. Plain law. -/
import Derived.Test.YtfalifenidpdlaaDoorOrd
set_option linter.unusedVariables false
set_option linter.unusedSimpArgs false
namespace Go.Proofs.YtfalifenidpdlaaDoor
open Go

section
variable {α : Type}
/-- What was put last under a key. -/
def fin (l : List (ByteArray × α)) (k : ByteArray) : Option α := l.foldl (fun acc e => if e.1 = k then some e.2 else acc) none
/-- All put, in order. -/
def puts (l : List (ByteArray × α)) : List (ByteArray × α) := l.foldl (fun t e => put t e.1 e.2) []

theorem puts_snoc (l : List (ByteArray × α)) (e : ByteArray × α) : puts (l ++ [e]) = put (puts l) e.1 e.2 := by simp [puts]
theorem fin_snoc (l : List (ByteArray × α)) (e : ByteArray × α) (k : ByteArray) : fin (l ++ [e]) k = if e.1 = k then some e.2 else fin l k := by simp [fin]
theorem fin_from (l : List (ByteArray × α)) (k : ByteArray) (a : Option α) : l.foldl (fun acc e => if e.1 = k then some e.2 else acc) a = (fin l k).or a := by
  unfold fin
  induction l generalizing a with
  | nil => simp
  | cons x l ih =>
    simp only [List.foldl_cons]
    rw [ih, ih (if x.1 = k then some x.2 else none)]
    by_cases h : x.1 = k
    · simp only [h, if_true]; cases List.foldl (fun acc e => if e.1 = k then some e.2 else acc) none l <;> rfl
    · simp only [h, if_false]; cases List.foldl (fun acc e => if e.1 = k then some e.2 else acc) none l <;> rfl
theorem fin_cons (x : ByteArray × α) (l : List (ByteArray × α)) (k : ByteArray) : fin (x :: l) k = (fin l k).or (if x.1 = k then some x.2 else none) := by
  show List.foldl _ _ l = _
  rw [fin_from]
theorem puts_rising (l : List (ByteArray × α)) : Rising (puts l) := by
  unfold puts
  suffices ∀ t, Rising t → Rising (l.foldl (fun t e => put t e.1 e.2) t) from this [] List.Pairwise.nil
  induction l with
  | nil => exact fun t h => h
  | cons x l ih => exact fun t h => ih _ (h.put _ _)
theorem look_puts (l : List (ByteArray × α)) (k : ByteArray) : look (puts l) k = fin l k := by
  suffices ∀ t : List (ByteArray × α), Rising t → look (l.foldl (fun t e => put t e.1 e.2) t) k = (fin l k).or (look t k) by
    have := this [] List.Pairwise.nil
    simpa [puts, look] using this
  induction l with
  | nil => intro t _; simp [fin]
  | cons x l ih =>
    intro t ht
    rw [List.foldl_cons, ih _ (ht.put _ _), look_put ht, fin_cons]
    cases fin l k <;> simp
    split <;> simp
theorem puts_length (l : List (ByteArray × α)) : (puts l).length ≤ l.length := by
  suffices ∀ t : List (ByteArray × α), Rising t → (l.foldl (fun t e => put t e.1 e.2) t).length ≤ l.length + t.length by
    simpa [puts] using this [] List.Pairwise.nil
  induction l with
  | nil => intro t _; simp
  | cons x l ih =>
    intro t ht
    rw [List.foldl_cons]
    refine Nat.le_trans (ih _ (ht.put _ _)) ?_
    rw [put_length ht]
    split <;> simp <;> omega
end
end Go.Proofs.YtfalifenidpdlaaDoor
