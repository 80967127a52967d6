/- The document's Has, Great, Same, Put. -/
import Derived.Test.YtbffpliihmggoaaDoorScpF
set_option linter.unusedVariables false
set_option linter.unusedSimpArgs false
namespace Go.Proofs.YtbffpliihmggoaaDoor.M
open Go Go.RowKit Go.Sort

theorem toList_ne {a b : ByteArray} (h : a ≠ b) : (a.toList == b.toList) = false := by
  simp only [beq_eq_false_iff_ne, ne_eq]
  exact fun e => h (ba_ext e)
theorem hasS_hit {l : List ByteArray} {k : Nat} {s : ByteArray} (h : l[k]? = some s) : hasS l s = true := (hasS_iff l s).2 (List.mem_of_getElem? h)

set_option maxRecDepth 100000 in
theorem rhas_any (A : Option Addr) (n c : Nat) (l : List ByteArray) (x : ByteArray) (w : World) (hl : SeqAt w A n (l.map .string)) (hn : n ≤ 1000000) :
    Calls Tryd.prog 9 #[.slice A n c, .string x] w fun e w' => e = .returned (.bool (hasS l x)) ∧ w = w' := by
  have Hlen := Lib.hid (show l.length = n by simpa using hl.1)
  go_enter Tryd.func9, Tryd.ntmps9
  go_wp2
  go_loop [5] (fun i => ∃ k : Nat, k ≤ n ∧ i = .int .i64 k ∧ hasS (l.take k) x = false) (fun i => n - (intOf i).toNat)
  case atStart => exact ⟨0, by omega, rfl, rfl⟩
  case round =>
    obtain ⟨k, hk, rfl, h1⟩ := hrel
    have H1 := Lib.hid h1; clear h1
    by_cases hlt : k < n
    · obtain ⟨ad, u, rfl, hu, hcu⟩ := hl.get hlt
      obtain ⟨s, hs, rfl⟩ : ∃ s, l[k]? = some s ∧ .string s = u := by simpa using hu
      have Hts := Lib.hid (take_snoc l k s hs)
      have Hs := Lib.hid hs
      clear hs hu
      by_cases hq : s = x
      · subst hq
        have Hh := Lib.hid (hasS_hit Hs.out)
        go_wp2
        go_ret
        rw [Hh.out]; exact ⟨rfl, rfl⟩
      · have hne := toList_ne hq
        have Hq := Lib.hid hq; clear hq
        go_wp2
        go_round
        case rel => exact ⟨k + 1, by omega, by go_num, by rw [Hts.out]; unfold hasS; rw [List.any_append]; have := H1.out; unfold hasS at this; rw [this]; simp [Hq.out]⟩
        case measure => simp [intOf]; omega
    · obtain rfl : k = n := by omega
      have hf : hasS l x = false := by
        have h2 := H1.out
        rwa [← Hlen.out, List.take_length] at h2
      have Hf := Lib.hid hf; clear hf
      go_wp2
      go_ret
      rw [Hf.out]; exact ⟨rfl, rfl⟩

def greatS (l : List ByteArray) : Bool := decide (100 < l.length) || l.any fun s => decide (1000 < s.size)
set_option maxRecDepth 100000 in
theorem rgreat_any (A : Option Addr) (n c : Nat) (l : List ByteArray) (w : World) (hl : SeqAt w A n (l.map .string)) :
    Calls Tryd.prog 7 #[.slice A n c] w fun e w' => e = .returned (.bool (greatS l)) ∧ w = w' := by
  have hlen : l.length = n := by simpa using hl.1
  by_cases h100 : 100 < n
  · have hg : greatS l = true := by unfold greatS; rw [hlen]; simp [h100]
    have Hg := Lib.hid hg
    clear hlen hg hl
    go_enter Tryd.func7, Tryd.ntmps7
    go_wp2
    go_ret
    rw [Hg.out]; exact ⟨rfl, rfl⟩
  · have hg : greatS l = l.any fun s => decide (1000 < s.size) := by unfold greatS; rw [hlen]; simp [h100]
    have Hg := Lib.hid hg
    have Hlen := Lib.hid hlen
    clear hlen hg
    go_enter Tryd.func7, Tryd.ntmps7
    go_wp2
    go_loop [3] (fun i => ∃ k : Nat, k ≤ n ∧ i = .int .i64 k ∧ (l.take k).any (fun s => decide (1000 < s.size)) = false) (fun i => n - (intOf i).toNat)
    case atStart => exact ⟨0, by omega, rfl, rfl⟩
    case round =>
      obtain ⟨k, hk, rfl, h1⟩ := hrel
      have H1 := Lib.hid h1; clear h1
      by_cases hlt : k < n
      · obtain ⟨ad, u, rfl, hu, hcu⟩ := hl.get hlt
        obtain ⟨s, hs, rfl⟩ : ∃ s, l[k]? = some s ∧ .string s = u := by simpa using hu
        have Hts := Lib.hid (take_snoc l k s hs)
        have Hs := Lib.hid hs
        clear hs hu
        by_cases hq : 1000 < s.size
        · have hh : (l.any fun s => decide (1000 < s.size)) = true := List.any_eq_true.2 ⟨s, List.mem_of_getElem? Hs.out, by simpa using hq⟩
          have Hh := Lib.hid hh; clear hh
          go_wp2
          go_ret
          rw [Hg.out, Hh.out]; exact ⟨rfl, rfl⟩
        · go_wp2
          go_round
          case rel => exact ⟨k + 1, by omega, by go_num, by rw [Hts.out, List.any_append, H1.out]; simp; omega⟩
          case measure => simp [intOf]; omega
      · obtain rfl : k = n := by omega
        have hf : (l.any fun s => decide (1000 < s.size)) = false := by
          have h2 := H1.out
          rwa [← Hlen.out, List.take_length] at h2
        have Hf := Lib.hid hf; clear hf
        go_wp2
        go_ret
        rw [Hg.out, Hf.out]; exact ⟨rfl, rfl⟩

def sameS (a b : List ByteArray) : Bool := decide (a = b)
theorem take_all {α : Type} {l : List α} {n : Nat} (h : l.length = n) : l.take n = l := by rw [← h, List.take_length]
set_option maxRecDepth 100000 in
theorem rsame_any (A A' : Option Addr) (n c n' c' : Nat) (a b : List ByteArray) (w : World) (ha : SeqAt w A n (a.map .string)) (hb : SeqAt w A' n' (b.map .string)) (hn : n ≤ 1000000) (hn' : n' ≤ 1000000) :
    Calls Tryd.prog 12 #[.slice A n c, .slice A' n' c'] w fun e w' => e = .returned (.bool (sameS a b)) ∧ Upd Nix w w' := by
  have hla : a.length = n := by simpa using ha.1
  have hlb : b.length = n' := by simpa using hb.1
  by_cases hnn : n = n'
  · subst hnn
    have Hla := Lib.hid hla
    have Hlb := Lib.hid hlb
    clear hla hlb
    have Ha := Lib.hid ha; have Hb := Lib.hid hb
    clear ha hb
    go_enter Tryd.func12, Tryd.ntmps12
    go_wp2
    go_loopw [5] (fun i wr => ∃ k : Nat, k ≤ n ∧ i = .int .i64 k ∧ a.take k = b.take k ∧ Upd Nix w wr) (fun i _ => n - (intOf i).toNat)
    case atStart => exact ⟨0, by omega, rfl, rfl, Upd.refl _ _⟩
    case round =>
      obtain ⟨k, hk, rfl, h1, hu⟩ := hrel
      have H1 := Lib.hid h1; clear h1
      by_cases hlt : k < n
      · obtain ⟨ad, u, rfl, hu1, hcu⟩ := (Ha.out.nix hu).get hlt
        obtain ⟨s, hs, rfl⟩ : ∃ s, a[k]? = some s ∧ .string s = u := by simpa using hu1
        obtain ⟨bd, u, rfl, hu2, hcb⟩ := (Hb.out.nix hu).get hlt
        obtain ⟨t, ht, rfl⟩ : ∃ s, b[k]? = some s ∧ .string s = u := by simpa using hu2
        have Hs := Lib.hid hs
        have Ht := Lib.hid ht
        have Hu := Lib.hid hu
        clear hs ht hu hu1 hu2
        by_cases hq : s = t
        · subst hq
          go_wp2
          go_quiet (fail)
          go_wp2
          go_roundw
          case rel => exact ⟨k + 1, by omega, by go_num, by rw [take_snoc a k s Hs.out, take_snoc b k s Ht.out, H1.out], Hu.out.drewN _⟩
          case measure => simp [intOf]; omega
        · have hne := toList_ne hq
          have hf : sameS a b = false := by
            unfold sameS
            simp only [decide_eq_false_iff_not]
            rintro rfl
            have := Hs.out.symm.trans Ht.out
            exact hq (Option.some.inj this)
          have Hf := Lib.hid hf
          clear hf hq
          go_wp2
          go_quiet (fail)
          go_wp2
          go_ret
          rw [Hf.out]; exact ⟨rfl, Hu.out.drewN _⟩
      · obtain rfl : k = n := by omega
        have hf : sameS a b = true := by
          have h2 := H1.out
          rw [take_all Hla.out, take_all Hlb.out] at h2
          unfold sameS; simp [h2]
        have Hf := Lib.hid hf; clear hf
        have Hu := Lib.hid hu; clear hu
        go_wp2
        go_ret
        rw [Hf.out]; exact ⟨rfl, Hu.out⟩
  · have hf : sameS a b = false := by
      unfold sameS
      simp only [decide_eq_false_iff_not]
      rintro rfl
      exact hnn (hla.symm.trans hlb)
    have Hf := Lib.hid hf
    clear hf hla hlb ha hb
    have h2 : ((n : Int) != (n' : Int)) = true := by simp; omega
    go_enter Tryd.func12, Tryd.ntmps12
    go_wp2
    go_ret
    rw [Hf.out]; exact ⟨rfl, Upd.refl _ _⟩

/-- append of one name. -/
theorem append_str {ops : Array Oper} {rest : List Oper} {o : Oper} {a : Act} {w : World} {Q : Exit → Act → World → Prop} (hgd : o.guard = none) (s x : Operand)
    (ho : o.op = .call { callee := .builtin .append, args := #[s, x], argTypes := #[22, 22] }) (base g : Nat) (v : Value) (l : List ByteArray) (y : ByteArray)
    (hs : a.eval s = v) (hx : a.eval x = .slice (some ⟨g, 0, none⟩) 1 1) (hown : w.ownsRow base 9 1 v l.length (l.map .string)) (hB : w.cell? ⟨g, 0, none⟩ = some (.string y)) (hn : l.length ≤ 1000000) (hb : base ≤ w.heap.size)
    (h : ∀ A m c w', Hid (w'.ownsRow base 9 1 (.slice A m c) (l ++ [y]).length ((l ++ [y]).map .string)) → Upd (fun j => some j = v.ownBlock) w w' → wpList Tryd.prog ops Q rest (a.put o.dst (.slice A m c)) w') :
    wpList Tryd.prog ops Q (o :: rest) a w := by
  obtain ⟨i0, hi0, hz0, hz1, hz2⟩ := info_parts infoStr
  refine wpList_append_own_at _ hgd s x 22 ho base 9 i0 _ 1 16 Tryd.underlying22 hi0 hz0 hz1 hz2 rfl (by omega) v l.length (l.map .string) hs hown ⟨g, 0, none⟩ 1 1 [.string y] hx rfl
    (fun j u hj => by
      cases j with
      | zero => simp at hj; subst hj; exact hB
      | succ j => simp at hj) (by intro u hu; simp at hu; subst hu; rfl) (by unfold maxLen; omega) (by omega) hb ?_
  intro v' w' hown' hg' _ _
  obtain ⟨A, c, rfl⟩ := own_slice hown'
  refine h _ _ _ w' ?_ ((Upd.refl _ _).grown hg' (fun k hk _ => hk.symm))
  show w'.ownsRow _ _ _ _ _ _
  rw [List.length_append, List.map_append]
  exact hown'
end Go.Proofs.YtbffpliihmggoaaDoor.M
