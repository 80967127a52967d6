/- The built-in copy and append over elements of any size, blocks known whole; of no program. -/
import Derived.Test.YtfalifenidpdlaaDoorBase
import Derived.Laws.CopyOwn
set_option linter.unusedVariables false
set_option linter.unusedSimpArgs false
namespace Go.Proofs.YtfalifenidpdlaaDoor
open Go Go.RowKit

section
variable {P : Program} {o : Oper} {a : Act} {w w' : World} {K : Act → World → Prop} {Q : Exit → Act → World → Prop}
theorem wp_copy_run (d s : Operand) (dT sT : TypeId) (ho : o.op = .call { callee := .builtin .copy, args := #[d, s], argTypes := #[dT, sT] }) {v : Value}
    (hrun : (Builtin.copy_ #[dT, sT] o.type #[a.eval d, a.eval s]).run P w = .ok v w') (h : K (a.put o.dst v) w') : o.wp P a w K Q := by
  unfold Oper.wp
  simp [execOp, ho, resolve, invoke, builtin, hrun, Result.andThen]
  exact h
theorem wp_append_run (d s : Operand) (dT sT : TypeId) (ho : o.op = .call { callee := .builtin .append, args := #[d, s], argTypes := #[dT, sT] }) {v : Value}
    (hrun : (Builtin.append_ #[dT, sT] o.type #[a.eval d, a.eval s]).run P w = .ok v w') (h : K (a.put o.dst v) w') : o.wp P a w K Q := by
  unfold Oper.wp
  simp [execOp, ho, resolve, invoke, builtin, hrun, Result.andThen]
  exact h
theorem step_of_wp {ops : Array Oper} {E : Prop} (hgd : o.guard = none) (h : o.wp P a w K Q) : if Region.wanted o (yielded ops a.tmps) = true then Oper.wp P o a w K Q else E := by
  rw [if_pos (by simp [Region.wanted, hgd])]; exact h
end

section
variable {P : Program}
/-- copy, whatever the size of an element: cells 'mid' of block g give way to 'cs'. -/
theorem run_copy_at (w : World) (dT sT ty elem : TypeId) (size g dLen dCap : Nat) (a : Addr) (sLen sCap : Nat) (pre mid post : List Value) (t : TypeId) (cs : List Value)
    (hu : P.underlying dT = some (.slice elem)) (hs : (P.info? elem).map (·.size) = some size)
    (hg : Blk w g t (pre ++ (mid ++ post)).toArray) (hm : mid.length = cs.length) (hn : cs.length = Nat.min sLen dLen * size)
    (hsrc : ∀ j v, cs[j]? = some v → w.cell? (a.add j) = some v) (h1 : ∀ v ∈ cs, v.oneCell' = true) :
    ∃ w', (Builtin.copy_ #[dT, sT] ty #[.slice (some ⟨g, pre.length, none⟩) dLen dCap, .slice (some a) sLen sCap]).run P w = .ok (goInt (Nat.min sLen dLen)) w' ∧ Blk w' g t (pre ++ (cs ++ post)).toArray ∧ Upd (fun k => k = g) w w' := by
  have hl := run_loadCells_list (P := P) w a cs hsrc
  have hst := run_storeCells_at P g pre.length t cs 0 (pre ++ (mid ++ post)).toArray w hg (by simp; omega) h1
  refine ⟨_, ?_, hg.row _, (Upd.refl (fun k => k = g) w).setRow (fun _ => rfl) _⟩
  cases hq : P.info? elem with
  | none => simp [hq] at hs
  | some i =>
    have hi : i.size = size := by simpa [hq] using hs
    subst hi
    have e : (pre ++ (mid ++ post)).take (pre.length + 0) ++ cs ++ (pre ++ (mid ++ post)).drop (pre.length + 0 + cs.length) = pre ++ (cs ++ post) := by
      rw [Nat.add_zero, List.take_left, List.drop_append, ← hm]
      simp
    simp only [List.toList_toArray] at hst
    rw [e] at hst
    simp [Builtin.copy_, run_underlying hu, Builtin.lenOf, Builtin.firstCells, sizeOf, typeInfo, hq, ← hn, hl, hst]

/-- append of so many zero elements, past the capacity: a new row. -/
theorem run_append_made (w : World) (t ti ty e : TypeId) (k : IntKind) (i : TypeInfo) (z : Value) (size bytes : Nat) (ht : P.underlying t = some (.slice e)) (hti : P.underlying ti = some (.int k)) (hi : P.info? e = some i) (hz : i.zero = some z)
    (hsize : i.size = size) (hby0 : i.bytes = bytes) (hzs : z.cells.size = size)
    (b : Addr) (sLen sCap n : Nat) (m : Int) (hm : m = n) (olds : List Value) (hlo : olds.length = sLen * size) (holds : ∀ j v, olds[j]? = some v → w.cell? (b.add j) = some v) (hsz : 0 < size)
    (h0 : 0 < n) (hg : sCap < sLen + n) (h63 : sLen + n ≤ 1000000000) (hby : bytes ≤ 100000) :
    ∃ c zs w', (Builtin.append_ #[t, ti] ty #[.slice (some b) sLen sCap, .int .i64 m]).run P w = .ok (.slice (some ⟨w.heap.size, 0, none⟩) (sLen + n) c) w' ∧ Blk w' w.heap.size e (olds ++ zs).toArray ∧ zs.length = (c - sLen) * size ∧ sLen + n ≤ c ∧ c ≤ maxLen ∧ Upd Nix w w' := by
  subst hm; subst hsize; subst hby0
  have hn : n ≤ 1000000000 := by omega
  have hnn : ¬ (sLen + n ≤ sCap) := by omega
  have h63' : ¬ (9223372036854775807 < ((sLen : Int) + (n : Int))) := by omega
  have hb2 : (sLen + n) * i.bytes ≤ 140737488355328 := by
    have := Nat.mul_le_mul h63 hby; omega
  have h48 := growslice_fits (need := sLen + n) (old := sCap) (by omega) hb2
  have h48' : ¬ (281474976710656 < Builtin.nextslicecap (sLen + n) sCap * i.bytes) := by omega
  have hfo := run_firstCells_some (P := P) w.drew i.size sLen b sLen sCap olds hlo (by simpa using holds)
  have hw : IntKind.i64.wrap (n : Int) = n := by simp [IntKind.wrap, IntKind.bits, IntKind.signed]; omega
  have hneg : ¬ ((n : Int) < 0) := by omega
  have hbig : ¬ (281474976710656 < (n : Int) * (i.bytes : Int)) := by
    have := Nat.mul_le_mul hn hby
    have h2 : ((n * i.bytes : Nat) : Int) ≤ 100000000000000 := by omega
    push_cast at h2
    omega
  have hz0 : ¬ (n = 0 ∨ i.size = 0) := by omega
  have hge := grownCap_ge w (sLen + n) sCap e
  have hle := grownCap_le_maxLen w (sLen + n) sCap e (by unfold maxLen; omega)
  refine ⟨grownCap w (sLen + n) sCap e, (Builtin.zeroCells z.cells n ++ Builtin.zeroCells z.cells (grownCap w (sLen + n) sCap e - (sLen + n))).toList, w.drew.alloc (.cells (olds.toArray ++ Builtin.zeroCells z.cells n ++ Builtin.zeroCells z.cells (grownCap w (sLen + n) sCap e - (sLen + n))) e), ?_, ?_, ?_, hge, hle, ((Upd.refl _ _).drew).alloc _⟩
  · simp [Builtin.append_, run_underlying ht, run_underlying hti, sizeOf, typeInfo, zeroValue, hi, hz, hw, hneg, hbig, hnn, h63', h48', hz0, Question.forced, hfo, newRow, grownCap, asInt, asIntOf]
    intro h
    exact absurd h (by have := Nat.mul_pos h0 hsz; omega)
  · have := Blk.new w.drew e (olds.toArray ++ Builtin.zeroCells z.cells n ++ Builtin.zeroCells z.cells (grownCap w (sLen + n) sCap e - (sLen + n)))
    have e2 : (olds ++ (Builtin.zeroCells z.cells n ++ Builtin.zeroCells z.cells (grownCap w (sLen + n) sCap e - (sLen + n))).toList).toArray = olds.toArray ++ Builtin.zeroCells z.cells n ++ Builtin.zeroCells z.cells (grownCap w (sLen + n) sCap e - (sLen + n)) := by
      apply Array.ext'; simp
    rw [e2]; exact this
  · simp only [Array.length_toList, Array.size_append, size_zeroCells, hzs, ← Nat.add_mul]
    congr 1; omega

/-- append within the capacity, the row known whole. -/
theorem run_append_in (w : World) (t ty e : TypeId) (i : TypeInfo) (size : Nat) (ht : P.underlying t = some (.slice e)) (hi : P.info? e = some i) (hsize : i.size = size)
    (g sLen sCap : Nat) (pre mid post : List Value) (hg : Blk w g e (pre ++ (mid ++ post)).toArray) (hp : pre.length = sLen * size)
    (a : Addr) (m c : Nat) (news : List Value) (hl : news.length = m * size) (hm : mid.length = news.length) (hnews : ∀ j u, news[j]? = some u → w.cell? (a.add j) = some u) (h1 : ∀ u ∈ news, u.oneCell' = true) (hroom : sLen + m ≤ sCap) :
    ∃ w', (Builtin.append_ #[t, t] ty #[.slice (some ⟨g, 0, none⟩) sLen sCap, .slice (some a) m c]).run P w = .ok (.slice (some ⟨g, 0, none⟩) (sLen + m) sCap) w' ∧ Blk w' g e (pre ++ (news ++ post)).toArray ∧ Upd (fun k => k = g) w w' := by
  subst hsize
  have hrun := run_append_room (P := P) w t ty e i ht hi g sLen sCap _ hg a m c news hl hnews h1 hroom (by simp; omega)
  refine ⟨_, hrun, ?_, (Upd.refl (fun k => k = g) w).setRow (fun _ => rfl) _⟩
  have e1 : (pre ++ (mid ++ post)).toArray.toList.take (sLen * i.size) ++ news ++ (pre ++ (mid ++ post)).toArray.toList.drop (sLen * i.size + news.length) = pre ++ (news ++ post) := by
    rw [← hp, ← hm, List.toList_toArray, List.take_left, List.drop_append]
    simp
  rw [e1]
  exact hg.row _

/-- clear of cells of a row known whole. -/
theorem run_clear_at (w : World) (t ty e : TypeId) (z : Value) (size : Nat) (ht : P.underlying t = some (.slice e)) (hz : ∀ w, (zeroValue e).run P w = .ok z w) (hzs : z.cells.size = size) (hz1 : ∀ u ∈ z.cells.toList, u.oneCell' = true)
    (g n c : Nat) (pre mid post : List Value) (hg : Blk w g e (pre ++ (mid ++ post)).toArray) (hm : mid.length = n * size) :
    ∃ w', (Builtin.clear_ #[t] ty #[.slice (some ⟨g, pre.length, none⟩) n c]).run P w = .ok (.tuple #[]) w' ∧ Blk w' g e (pre ++ ((Builtin.zeroCells z.cells n).toList ++ post)).toArray ∧ Upd (fun k => k = g) w w' := by
  have hzl : (Builtin.zeroCells z.cells n).toList.length = n * size := by rw [Array.length_toList, size_zeroCells, hzs]
  have h1 : ∀ u ∈ (Builtin.zeroCells z.cells n).toList, u.oneCell' = true := by
    intro u hu
    simp only [Builtin.zeroCells, Array.toList_map, List.mem_map] at hu
    obtain ⟨j, hj, rfl⟩ := hu
    rcases Nat.eq_zero_or_pos z.cells.size with h0 | h0
    · simp [h0] at hj
    · have := Nat.mod_lt j h0
      rw [getElem!_pos z.cells (j % z.cells.size) this]
      exact hz1 _ (by simp)
  have hst := run_storeCells_at P g pre.length e (Builtin.zeroCells z.cells n).toList 0 (pre ++ (mid ++ post)).toArray w hg (by rw [hzl]; simp; omega) h1
  have e1 : (pre ++ (mid ++ post)).take (pre.length + 0) ++ (Builtin.zeroCells z.cells n).toList ++ (pre ++ (mid ++ post)).drop (pre.length + 0 + (Builtin.zeroCells z.cells n).toList.length) = pre ++ ((Builtin.zeroCells z.cells n).toList ++ post) := by
    rw [Nat.add_zero, List.take_left, List.drop_append, hzl, ← hm]
    simp
  simp only [List.toList_toArray] at hst
  rw [e1] at hst
  rcases Nat.eq_zero_or_pos n with h0 | h0
  · subst h0
    refine ⟨w, ?_, ?_, Upd.refl _ _⟩
    · simp [Builtin.clear_, run_underlying ht]
    · have hm0 : mid = [] := List.eq_nil_of_length_eq_zero (by simpa using hm)
      subst hm0
      have hz0 : (Builtin.zeroCells z.cells 0).toList = [] := List.eq_nil_of_length_eq_zero (by rw [hzl]; simp)
      rw [hz0]; exact hg
  · obtain ⟨n, rfl⟩ : ∃ k, n = k + 1 := ⟨n - 1, by omega⟩
    refine ⟨_, ?_, hg.row _, (Upd.refl (fun k => k = g) w).setRow (fun _ => rfl) _⟩
    simp [Builtin.clear_, run_underlying ht, hz, hst]

/-- copy as an operation: the destination known whole. -/
theorem wp_copy_at {o : Oper} {a : Act} {w : World} {K : Act → World → Prop} {Q : Exit → Act → World → Prop} (d s : Operand) (dT sT : TypeId) (ho : o.op = .call { callee := .builtin .copy, args := #[d, s], argTypes := #[dT, sT] })
    (elem : TypeId) (size g dLen dCap : Nat) (da sa : Addr) (sLen sCap : Nat) (pre mid post : List Value) (t : TypeId) (cs : List Value)
    (hu : P.underlying dT = some (.slice elem)) (hs : (P.info? elem).map (·.size) = some size)
    (hd : a.eval d = .slice (some da) dLen dCap) (hsv : a.eval s = .slice (some sa) sLen sCap) (hda : da = ⟨g, pre.length, none⟩)
    (hg : Blk w g t (pre ++ (mid ++ post)).toArray) (hm : mid.length = cs.length) (hn : cs.length = Nat.min sLen dLen * size)
    (hsrc : ∀ j v, cs[j]? = some v → w.cell? (sa.add j) = some v) (h1 : ∀ v ∈ cs, v.oneCell' = true)
    (h : ∀ w', Hid (Blk w' g t (pre ++ (cs ++ post)).toArray) → Upd (fun k => k = g) w w' → K (a.put o.dst (goInt (Nat.min sLen dLen))) w') : o.wp P a w K Q := by
  subst hda
  obtain ⟨w', hrun, hb, hU⟩ := run_copy_at (P := P) w dT sT o.type elem size g dLen dCap sa sLen sCap pre mid post t cs hu hs hg hm hn hsrc h1
  exact wp_copy_run d s dT sT ho (by rw [hd, hsv]; exact hrun) (h w' hb hU)
end
end Go.Proofs.YtfalifenidpdlaaDoor
