/- scope.Check, scope.Print; what a list that is in order comes back to; laws of sets. -/
import Derived.Test.YtbffpliihmggoaaDoorScpT
set_option linter.unusedVariables false
set_option linter.unusedSimpArgs false
namespace Go.Proofs.YtbffpliihmggoaaDoor.M
open Go Go.RowKit Go.Sort

/-- Is it in order? -/
def risB : List ByteArray → Bool
  | [] => true
  | [_] => true
  | a :: b :: l => lt a b && risB (b :: l)
theorem risB_iff (l : List ByteArray) : risB l = true ↔ Ris l := by
  induction l with
  | nil => simp [risB, Ris]
  | cons a l ih =>
    cases l with
    | nil => simp [risB, Ris]
    | cons b l =>
      simp only [risB, Bool.and_eq_true, ih]
      constructor
      · rintro ⟨h, h2⟩
        refine List.pairwise_cons.2 ⟨fun x hx => ?_, h2⟩
        rcases List.mem_cons.1 hx with rfl | hx
        · exact h
        · exact lt_trans h (Ris.head h2 x hx)
      · intro h
        exact ⟨Ris.head h b (by simp), Ris.tail h⟩
def chkS (l : List ByteArray) : Bool := decide (l.length ≤ 16) && l.all isName && risB l
theorem chkS_iff (l : List ByteArray) : chkS l = true ↔ l.length ≤ 16 ∧ l.all isName = true ∧ Ris l := by
  unfold chkS; rw [Bool.and_eq_true, Bool.and_eq_true, risB_iff, decide_eq_true_eq, and_assoc]
theorem chkS_no {l : List ByteArray} (h : ¬ (l.length ≤ 16 ∧ l.all isName = true ∧ Ris l)) : chkS l = false := by
  rw [← chkS_iff] at h; simpa using h
theorem ris_snoc {l : List ByteArray} {a b : ByteArray} (h : Ris (l ++ [a])) (hab : lt a b = true) : Ris (l ++ [a] ++ [b]) := by
  refine List.pairwise_append.2 ⟨h, by simp, fun x hx y hy => ?_⟩
  obtain rfl : y = b := by simpa using hy
  rcases List.mem_append.1 hx with hx | hx
  · exact lt_trans ((List.pairwise_append.1 h).2.2 x hx a (by simp)) hab
  · obtain rfl : x = a := by simpa using hx
    exact hab
theorem ris_get {l : List ByteArray} (h : Ris l) {i j : Nat} {a b : ByteArray} (hij : i < j) (hi : l[i]? = some a) (hj : l[j]? = some b) : lt a b = true := by
  obtain ⟨hi', rfl⟩ := List.getElem?_eq_some_iff.1 hi
  obtain ⟨hj', rfl⟩ := List.getElem?_eq_some_iff.1 hj
  exact List.pairwise_iff_getElem.1 h i j hi' hj' hij

def ChkRet (l : List ByteArray) (e : Ending) : Prop := e = .returned (if chkS l = true then .nilIface else .iface 41 (.int .i64 70))
theorem ChkRet.bad {l : List ByteArray} (h : chkS l = false) : ChkRet l (.returned (.iface 41 (.int .i64 70))) := by unfold ChkRet; rw [if_neg (by simp [h])]
theorem ChkRet.good {l : List ByteArray} (h : chkS l = true) : ChkRet l (.returned .nilIface) := by unfold ChkRet; rw [if_pos h]

set_option maxRecDepth 100000 in
theorem check_any (A : Option Addr) (n c : Nat) (l : List ByteArray) (w : World) (hl : SeqAt w A n (l.map .string)) (hn : n ≤ 100) (hs : ∀ s ∈ l, s.size ≤ 1000) :
    Calls Tryd.prog 19 #[.slice A n c] w fun e w' => ChkRet l e ∧ w = w' := by
  have Hlen := Lib.hid (show l.length = n by simpa using hl.1)
  have HS := Lib.hid hs; clear hs
  go_enter Tryd.func19, Tryd.ntmps19
  go_wp2
  go_loop [7] (fun i => ∃ k : Nat, k ≤ n ∧ k ≤ 16 ∧ i = .int .i64 k ∧ (l.take k).all isName = true ∧ Ris (l.take k)) (fun i => n - (intOf i).toNat)
  case atStart => exact ⟨0, by omega, by omega, rfl, by simp, by simp [Ris]⟩
  case round =>
    obtain ⟨k, hk, hk16, rfl, h1, h2⟩ := hrel
    have H1 := Lib.hid h1; clear h1
    have H2 := Lib.hid h2; clear h2
    by_cases hlt : k < n
    · obtain ⟨ad, u, rfl, hu, hcu⟩ := hl.get hlt
      obtain ⟨s, hs, rfl⟩ : ∃ s, l[k]? = some s ∧ .string s = u := by simpa using hu
      have Hts := Lib.hid (take_snoc l k s hs)
      have Hs := Lib.hid hs
      have hsz : s.size ≤ 1000 := HS.out s (List.mem_of_getElem? hs)
      clear hs hu
      by_cases h16 : k = 16
      · have hf : chkS l = false := chkS_no fun h => by have := h.1; have := Hlen.out; omega
        have Hf := Lib.hid hf; clear hf
        have h16' : ((k : Int) == 16) = true := by simp; omega
        have H16 := Lib.hid h16; clear h16
        go_wp2
        go_ret
        exact ⟨ChkRet.bad Hf.out, rfl⟩
      · cases hnm : isName s
        · have hf : chkS l = false := chkS_no fun h => by
            have := List.all_eq_true.1 h.2.1 s (List.mem_of_getElem? Hs.out)
            rw [hnm] at this; cases this
          have Hf := Lib.hid hf; clear hf
          have h16' : ((k : Int) == 16) = false := by simp; omega
          go_wp2_with (go_at_call 24; go_must (refine (name_any s _ (by omega)).mono ?_; rw [hnm]; rintro e w' ⟨rfl, rfl⟩))
          go_ret
          exact ⟨ChkRet.bad Hf.out, rfl⟩
        · have h16' : ((k : Int) == 16) = false := by simp; omega
          have hall : (l.take (k + 1)).all isName = true := by rw [Hts.out, List.all_append, H1.out]; simp [hnm]
          have Hall := Lib.hid hall; clear hall
          by_cases h0 : k = 0
          · subst h0
            have hcu0 : w.cell? ad = some (.string s) := by
              have e0 : ad.add 0 = ad := by unfold Addr.add; simp
              rw [← e0]; exact hcu
            clear hcu
            go_wp2_with (go_at_call 24; go_must (refine (name_any s _ (by omega)).mono ?_; rw [hnm]; rintro e w' ⟨rfl, rfl⟩))
            go_round
            case rel => exact ⟨1, by omega, by omega, by go_num, Hall.out, by rw [Hts.out]; simp [Ris]⟩
            case measure => simp [intOf]; omega
          · obtain ⟨ad', u, he, hu, hcj⟩ := hl.get (i := k - 1) (by omega)
            cases he
            obtain ⟨r, hr, rfl⟩ : ∃ s, l[k - 1]? = some s ∧ .string s = u := by simpa using hu
            have Hr := Lib.hid hr
            have Htr := Lib.hid (take_snoc l (k - 1) r hr)
            have hk1 : 1 ≤ k := by omega
            have Hke := Lib.hid (show k - 1 + 1 = k by omega)
            clear hr hu
            cases hrs : Op.bytesLess r.toList s.toList
            · have hf : chkS l = false := chkS_no fun h => by
                have := ris_get h.2.2 (i := k - 1) (j := k) (by omega) Hr.out Hs.out
                unfold lt at this; rw [hrs] at this; cases this
              have Hf := Lib.hid hf; clear hf
              go_wp2_with (go_at_call 24; go_must (refine (name_any s _ (by omega)).mono ?_; rw [hnm]; rintro e w' ⟨rfl, rfl⟩))
              go_ret
              exact ⟨ChkRet.bad Hf.out, rfl⟩
            · have hlt2 : lt r s = true := hrs
              have Hlt2 := Lib.hid hlt2; clear hlt2
              go_wp2_with (go_at_call 24; go_must (refine (name_any s _ (by omega)).mono ?_; rw [hnm]; rintro e w' ⟨rfl, rfl⟩))
              go_round
              case rel => exact ⟨k + 1, by omega, by omega, by go_num, Hall.out, by
                have h3 := Htr.out
                rw [Hke.out] at h3
                rw [Hts.out, h3]; exact ris_snoc (by rw [← h3]; exact H2.out) Hlt2.out⟩
              case measure => simp [intOf]; omega
    · obtain rfl : k = n := by omega
      have hg : chkS l = true := by
        rw [chkS_iff]
        have h1 := H1.out
        have h2 := H2.out
        rw [take_all Hlen.out] at h1 h2
        exact ⟨by have := Hlen.out; omega, h1, h2⟩
      have Hg := Lib.hid hg; clear hg
      go_wp2_with fail
      go_ret
      exact ⟨ChkRet.good Hg.out, rfl⟩

/-- The text. -/
def joinS (l : List ByteArray) : ByteArray := baOf (Lib.join (l.map (·.data.toList)) [32])
theorem inter_len {c : UInt8} {l : List (List UInt8)} {m : Nat} (h : ∀ x ∈ l, x.length ≤ m) : ([c].intercalate l).length ≤ l.length * (m + 1) := by
  induction l with
  | nil => simp [List.intercalate]
  | cons x l ih =>
    cases l with
    | nil => have := h x (by simp); simp [List.intercalate]; omega
    | cons y l =>
      have e : [c].intercalate (x :: y :: l) = x ++ c :: [c].intercalate (y :: l) := by simp [List.intercalate, List.intersperse]
      have := ih (fun z hz => h z (List.mem_cons_of_mem _ hz))
      have hx := h x (by simp)
      rw [e, List.length_append, List.length_cons]
      simp only [List.length_cons] at this ⊢
      rw [Nat.add_mul (l.length + 1) 1]
      omega
theorem joinS_size {l : List ByteArray} {m : Nat} (h : ∀ x ∈ l, x.size ≤ m) : (joinS l).size ≤ l.length * (m + 1) := by
  have := inter_len (c := 32) (l := l.map (·.data.toList)) (m := m) (fun x hx => by obtain ⟨y, hy, rfl⟩ := List.mem_map.1 hx; exact h y hy)
  rw [List.length_map] at this
  exact this

theorem print_any (A : Option Addr) (n c : Nat) (l : List ByteArray) (w : World) (hl : SeqAt w A n (l.map .string)) (hn : n ≤ 100) (hc : n ≤ c) (hs : ∀ s ∈ l, s.size ≤ 1000) :
    Calls Tryd.prog 21 #[.slice A n c] w fun e w' => e = .returned (.string (joinS l)) ∧ Upd Nix w w' := by
  have hlen : l.length = n := by simpa using hl.1
  have hj : Calls Tryd.prog 35 #[.slice A n c, .string ⟨#[32]⟩] w fun e w' => e = .returned (.string (joinS l)) ∧ Upd Nix w w' := by
    rcases Nat.eq_zero_or_pos n with h0 | h0
    · subst h0
      obtain rfl : l = [] := List.eq_nil_of_length_eq_zero hlen
      exact (Tryd.strings_Join_none A c ⟨#[32]⟩ w).mono fun e w' ⟨he, hw⟩ => ⟨he, by subst hw; exact Upd.refl _ _⟩
    · obtain ⟨g, o, rfl, hcell⟩ := hl.flat h0
      subst hlen
      have hsz := joinS_size hs
      have hb : g < w.heap.size := World.block_lt_of_cell? w ⟨g, o + 0, none⟩ (hcell 0 (.string l[0]) (by rw [List.getElem?_map, List.getElem?_eq_getElem h0]; rfl))
      refine (Tryd.strings_Join g o c l ⟨#[32]⟩ w (fun j x hx => hcell j (.string x) (by rw [List.getElem?_map, hx]; rfl)) hb (by omega) hc ?_).mono fun e w' ⟨he, hw⟩ => ⟨he, Upd.of_below hw⟩
      have : (joinS l).size ≤ 100 * 1001 := Nat.le_trans hsz (Nat.mul_le_mul_right _ hn)
      have h2 : (Lib.join (l.map (·.data.toList)) (ByteArray.mk #[32]).data.toList).length = (joinS l).size := rfl
      omega
  have Hj := Lib.hid hj
  clear hj hlen hl hs
  go_enter Tryd.func21, Tryd.ntmps21
  go_wp2_with (go_at_call 35; go_must (refine Hj.out.mono ?_; rintro e w' ⟨rfl, hu⟩))
  go_ret
  exact ⟨rfl, hu⟩

theorem name_blank {s : ByteArray} (h : isName s = true) : (32 : UInt8) ∉ s.data.toList := by
  intro hm
  unfold isName at h
  simp only [Bool.and_eq_true] at h
  have := List.all_eq_true.1 h.1.1 32 hm
  revert this; decide
theorem name_size {s : ByteArray} (h : isName s = true) : s.size ≤ 32 ∧ s.size ≠ 0 := by
  unfold isName at h
  simp only [Bool.and_eq_true, decide_eq_true_eq] at h
  omega
/-- Scopes come back from their text. -/
theorem parse_join {l : List ByteArray} (h : chkS l = true) : parseS (joinS l) = some l := by
  rw [chkS_iff] at h
  obtain ⟨h1, h2, h3⟩ := h
  cases l with
  | nil => rfl
  | cons a l =>
    have hne : (joinS (a :: l)).size ≠ 0 := by
      have ha := (name_size (List.all_eq_true.1 h2 a (by simp))).2
      have : (joinS (a :: l)).size = (Lib.join ((a :: l).map (·.data.toList)) [32]).length := rfl
      rw [this]
      unfold Lib.join
      have hal : a.data.toList.length ≠ 0 := ha
      cases l with
      | nil => simpa [List.intercalate] using hal
      | cons b l => simp [List.intercalate, List.intersperse]
    have hp : pieces (joinS (a :: l)) = a :: l := by
      unfold pieces joinS
      have e : (baOf (Lib.join ((a :: l).map (·.data.toList)) [32])).data.toList = [32].intercalate ((a :: l).map (·.data.toList)) := rfl
      rw [e, spl_join (fun x hx => by obtain ⟨y, hy, rfl⟩ := List.mem_map.1 hx; exact name_blank (List.all_eq_true.1 h2 y hy)) (by simp), List.map_map]
      conv => rhs; rw [← List.map_id (a :: l)]
      exact List.map_congr_left fun x _ => baOf_data x
    unfold parseS
    rw [if_neg hne, hp, setS_of_ris h3, if_pos ⟨h2, h1⟩]

theorem less_empty {a b : List ByteArray} (h : ∀ x ∈ a, x ∈ b) : (lessS a b).isEmpty = true := by
  have : a.filter (fun x => !hasS b x) = [] := List.filter_eq_nil_iff.2 fun x hx => by simp [(hasS_iff b x).2 (h x hx)]
  unfold lessS; rw [this]; rfl
theorem mem_both (a b : List ByteArray) (x : ByteArray) : x ∈ bothS a b ↔ x ∈ a ∧ x ∈ b := by rw [bothS, mem_setS, List.mem_filter, hasS_iff]
theorem mem_less (a b : List ByteArray) (x : ByteArray) : x ∈ lessS a b ↔ x ∈ a ∧ x ∉ b := by rw [lessS, mem_setS, List.mem_filter]; simp [← hasS_iff]
theorem mem_all (a b : List ByteArray) (x : ByteArray) : x ∈ allS a b ↔ x ∈ a ∨ x ∈ b := by rw [allS, mem_setS, List.mem_append]
theorem law1 (a b : List ByteArray) : (lessS (bothS a b) a).isEmpty = true := less_empty fun x hx => ((mem_both a b x).1 hx).1
theorem law2 (a b : List ByteArray) : (lessS (bothS a b) b).isEmpty = true := less_empty fun x hx => ((mem_both a b x).1 hx).2
theorem law3 (a b : List ByteArray) : (lessS a (allS a b)).isEmpty = true := less_empty fun x hx => (mem_all a b x).2 (.inl hx)
theorem law4 (a b : List ByteArray) : (lessS b (allS a b)).isEmpty = true := less_empty fun x hx => (mem_all a b x).2 (.inr hx)
theorem law5 (a b : List ByteArray) : allS (bothS a b) (lessS a b) = allS a [] := ris_ext (ris_setS _) (ris_setS _) fun x => by
  rw [mem_all, mem_all, mem_both, mem_less]
  by_cases hb : x ∈ b <;> simp [hb]
theorem law6 (a b : List ByteArray) : bothS (lessS a b) b = [] := by
  cases h : bothS (lessS a b) b with
  | nil => rfl
  | cons x l =>
    have : x ∈ bothS (lessS a b) b := by rw [h]; simp
    rw [mem_both, mem_less] at this
    exact absurd this.2 this.1.2
theorem law7 (a b : List ByteArray) : bothS b a = bothS a b := ris_ext (ris_setS _) (ris_setS _) fun x => by
  rw [mem_both, mem_both]; exact And.comm
theorem law8 (a b : List ByteArray) : allS b a = allS a b := ris_ext (ris_setS _) (ris_setS _) fun x => by
  rw [mem_all, mem_all]; exact Or.comm
end Go.Proofs.YtbffpliihmggoaaDoor.M
