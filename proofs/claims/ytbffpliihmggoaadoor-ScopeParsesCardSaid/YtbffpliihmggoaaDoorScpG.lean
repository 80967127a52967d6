/- The document's Name, Split, Parse. -/
import Derived.Test.YtbffpliihmggoaaDoorScpX
set_option linter.unusedVariables false
set_option linter.unusedSimpArgs false
namespace Go.Proofs.YtbffpliihmggoaaDoor.M
open Go Go.RowKit Go.Sort

set_option maxRecDepth 100000 in
theorem rname_any (s : ByteArray) (w : World) (hs : s.size ≤ 1000000) : Calls Tryd.prog 25 #[.string s] w fun e w' => e = .returned (.bool (isName s)) ∧ w = w' := by
  by_cases hlen : s.size < 1 ∨ 32 < s.size
  · have hf : isName s = false := by
      unfold isName
      rcases hlen with h | h
      · rw [show decide (0 < s.size) = false from decide_eq_false (by omega)]; simp
      · rw [show decide (s.size ≤ 32) = false from decide_eq_false (by omega)]; simp
    have Hf := Lib.hid hf; clear hf
    rcases hlen with h | h
    · go_enter Tryd.func25, Tryd.ntmps25
      go_wp2
      go_ret
      rw [Hf.out]; exact ⟨rfl, rfl⟩
    · go_enter Tryd.func25, Tryd.ntmps25
      go_wp2
      all_goals
        go_ret
        rw [Hf.out]; exact ⟨rfl, rfl⟩
  · have h1 : 1 ≤ s.size := by omega
    have h2 : s.size ≤ 32 := by omega
    clear hlen
    go_enter Tryd.func25, Tryd.ntmps25
    go_wp2
    go_loop [3] (fun i => ∃ k : Nat, k ≤ s.size ∧ i = .int .i64 k ∧ (s.data.toList.take k).all nameByte = true) (fun i => s.size - (intOf i).toNat)
    case atStart => exact ⟨0, by omega, rfl, rfl⟩
    case round =>
      obtain ⟨k, hk, rfl, h1⟩ := hrel
      have H1 := Lib.hid h1; clear h1
      by_cases hlt : k < s.size
      · have hc : s.data.toList[k]? = some s[k] := List.getElem?_eq_getElem (show k < s.data.toList.length from hlt)
        have hsn : s.data.toList.take (k + 1) = s.data.toList.take k ++ [s[k]] := by rw [List.take_add_one, hc]; rfl
        have hgood : nameByte s[k] = true → (s.data.toList.take (k + 1)).all nameByte = true := fun h => by rw [hsn, List.all_append, H1.out]; simp [h]
        have hbad : nameByte s[k] = false → isName s = false := fun h => by
          unfold isName
          rw [show s.data.toList.all nameByte = false from List.all_eq_false.2 ⟨s[k], List.mem_of_getElem? hc, by simp [h]⟩]; rfl
        have Hgood := Lib.hid hgood; have Hbad := Lib.hid hbad
        clear hgood hbad hsn hc
        go_wp2
        all_goals first
          | (refine ⟨⟨k + 1, hlt, rfl, Hgood.out ?_⟩, ?_⟩
             · simp only [nameByte, decide_eq_true_eq]; simp_all; omega
             · simp only [intOf]; omega)
          | (have hb : isName s = false := Hbad.out (by simp only [nameByte, decide_eq_false_iff_not]; simp_all; omega)
             go_ret
             rw [hb]; exact ⟨rfl, rfl⟩)
      · obtain rfl : k = s.size := by omega
        have hall : s.data.toList.all nameByte = true := by
          have := H1.out
          rwa [show s.data.toList.take s.size = s.data.toList from List.take_of_length_le (show s.data.toList.length ≤ s.size from Nat.le_refl _)] at this
        have hn : isName s = true := by
          unfold isName
          rw [hall, show decide (0 < s.size) = true from decide_eq_true (by omega), show decide (s.size ≤ 32) = true from decide_eq_true (by omega)]; rfl
        have Hn := Lib.hid hn; clear hn hall
        go_wp2
        go_ret
        rw [Hn.out]; exact ⟨rfl, rfl⟩

/-- What the document's Split has laid: behind 'from' nothing is laid yet, and up to i there is no blank. -/
def SplInv (s : ByteArray) (out : List ByteArray) (f i : Nat) : Prop :=
  f ≤ i ∧ i ≤ s.size ∧ out ++ (spl 32 (s.data.toList.drop f)).map baOf = pieces s ∧ (32 : UInt8) ∉ (s.data.toList.drop f).take (i - f)
theorem drop_at {D : List UInt8} {f i : Nat} {c : UInt8} (hf : f ≤ i) (hc : D[i]? = some c) : D.drop f = (D.drop f).take (i - f) ++ c :: D.drop (i + 1) := by
  have h1 := (List.take_append_drop (i - f) (D.drop f)).symm
  rw [List.drop_drop, show f + (i - f) = i by omega] at h1
  obtain ⟨hi, e⟩ := List.getElem?_eq_some_iff.1 hc
  rw [List.drop_eq_getElem_cons hi, e] at h1
  exact h1
theorem ext_ba (s : ByteArray) (f i : Nat) : s.extract f i = baOf ((s.data.toList.drop f).take (i - f)) := by
  apply data_inj
  rw [Lib.extract_data]
  show _ = ((s.data.toList.drop f).take (i - f))
  rw [List.take_drop, List.drop_take] <;> first | rfl | skip
theorem SplInv.start (s : ByteArray) : SplInv s [] 0 0 := ⟨Nat.le_refl _, Nat.zero_le _, by simp [pieces], by simp⟩
theorem SplInv.next {s : ByteArray} {out : List ByteArray} {f i : Nat} (h : SplInv s out f i) {c : UInt8} (hc : s.data.toList[i]? = some c) (hn : c ≠ 32) : SplInv s out f (i + 1) := by
  obtain ⟨h1, h2, h3, h4⟩ := h
  have hi : i < s.data.toList.length := (List.getElem?_eq_some_iff.1 hc).1
  have hsz : s.data.toList.length = s.size := rfl
  refine ⟨by omega, by omega, h3, ?_⟩
  have e : (s.data.toList.drop f).take (i + 1 - f) = (s.data.toList.drop f).take (i - f) ++ [c] := by
    rw [show i + 1 - f = i - f + 1 by omega, List.take_add_one, List.getElem?_drop, show f + (i - f) = i by omega, hc]; rfl
  rw [e]
  intro hm
  rcases List.mem_append.1 hm with hm | hm
  · exact h4 hm
  · have : (32 : UInt8) = c := by simpa using hm
    exact hn this.symm
theorem SplInv.cut {s : ByteArray} {out : List ByteArray} {f i : Nat} (h : SplInv s out f i) (hc : s.data.toList[i]? = some 32) : SplInv s (out ++ [s.extract f i]) (i + 1) (i + 1) := by
  obtain ⟨h1, h2, h3, h4⟩ := h
  have hi : i < s.data.toList.length := (List.getElem?_eq_some_iff.1 hc).1
  have hsz : s.data.toList.length = s.size := rfl
  refine ⟨Nat.le_refl _, by omega, ?_, by simp⟩
  rw [← h3, drop_at h1 hc, spl_app h4, List.map_cons, ← ext_ba]; simp
theorem SplInv.done {s : ByteArray} {out : List ByteArray} {f : Nat} (h : SplInv s out f s.size) : out ++ [s.extract f s.size] = pieces s := by
  obtain ⟨h1, h2, h3, h4⟩ := h
  have e : (s.data.toList.drop f).take (s.size - f) = s.data.toList.drop f := List.take_of_length_le (by rw [List.length_drop]; exact Nat.le_refl _)
  rw [e] at h4
  rw [← h3, spl_none h4, ext_ba, e]; rfl

def SplRel (s : ByteArray) (B : Nat) (w : World) (v f i : Value) (wr : World) : Prop :=
  ∃ (A : Option Addr) (m c fn k : Nat) (O : List ByteArray), v = .slice A m c ∧ f = .int .i64 fn ∧ i = .int .i64 k ∧ O.length ≤ k ∧ k ≤ s.size + 1 ∧ fn ≤ s.size + 1 ∧ (k ≤ s.size → SplInv s O fn k) ∧ (s.size < k → O = pieces s) ∧ Hid (wr.ownsRow B 9 1 (.slice A m c) O.length (O.map .string)) ∧ Upd Nix w wr
theorem SplRel.intro {s : ByteArray} {B : Nat} {w wr : World} {A : Option Addr} {m c fn k : Nat} {O : List ByteArray} {f i : Value} (hf : f = .int .i64 fn) (hi : i = .int .i64 k) (hO : O.length ≤ k) (hk : k ≤ s.size + 1) (hfn : fn ≤ s.size + 1) (h1 : k ≤ s.size → SplInv s O fn k) (h2 : s.size < k → O = pieces s)
    (ho : Hid (wr.ownsRow B 9 1 (.slice A m c) O.length (O.map .string))) (hu : Upd Nix w wr) : SplRel s B w (.slice A m c) f i wr := ⟨A, m, c, fn, k, O, rfl, hf, hi, hO, hk, hfn, h1, h2, ho, hu⟩

set_option maxRecDepth 100000 in
set_option maxHeartbeats 1000000 in
theorem rsplit_any (s : ByteArray) (w : World) (hs : s.size ≤ 200000) : Calls Tryd.prog 36 #[.string s] w (RetSeq (pieces s) w) := by
  go_enter Tryd.func36, Tryd.ntmps36
  go_wp2
  go_loopw [3, 4, 5] (fun v f i wr => SplRel s w.heap.size w v f i wr) (fun _ _ i _ => s.size + 1 - (intOf i).toNat)
  case atStart => exact SplRel.intro (O := []) (fn := 0) (k := 0) rfl rfl (by simp) (by omega) (by omega) (fun _ => SplInv.start s) (fun h => absurd h (by omega)) ⟨rfl, .inl ⟨rfl, rfl⟩⟩ (Upd.refl _ _)
  case round =>
    obtain ⟨Av, mv, cv, fn, k, O, rfl, rfl, rfl, hO, hk, hfn, h1, h2, Ho, hu⟩ := hrel
    have hus := hu.size
    by_cases hlt : k ≤ s.size
    · have Hinv := Lib.hid (h1 hlt)
      have hfk : fn ≤ k := (h1 hlt).1
      have Hu := Lib.hid hu
      clear h1 h2 hu
      by_cases heq : k = s.size
      · subst heq
        have Hd := Lib.hid Hinv.out.done
        go_wp2_with (at_builtin; go_must (refine append_str rfl (.tmp 22) (.tmp 27) rfl w.heap.size wr.heap.size _ O (s.extract fn s.size) rfl rfl (Ho.out.alloc _) (by simp) (by omega) (by simp; omega) ?_; intro A1 m1 c1 w1 H1 hu1; have Hu1 := Lib.hid hu1; clear hu1))
        go_roundw
        case rel => exact SplRel.intro (k := s.size + 1) (fn := s.size + 1) (by go_num) (by go_num) (by simp; omega) (by omega) (by omega) (fun h => absurd h (by omega)) (fun _ => Hd.out) H1 (own_rel (Hu.out.alloc _) (Ho.out.alloc _) Hu1.out)
        case measure => (simp [intOf] <;> omega)
      · have hlt2 : k < s.size := by omega
        have hne : ((k : Int) == (s.size : Int)) = false := beq_eq_false_iff_ne.2 (by omega)
        have hc : s.data.toList[k]? = some s[k] := List.getElem?_eq_getElem (show k < s.data.toList.length from hlt2)
        have Hc := Lib.hid hc
        clear heq hc
        by_cases hb : s[k].toNat = 32
        · have hb2 : ((s[k].toNat : Int) == 32) = true := by simp; omega
          have Hcut := Lib.hid (Hinv.out.cut (by rw [Hc.out, show s[k] = 32 from UInt8.toNat_inj.1 hb]))
          clear hb
          go_wp2_with (at_builtin; go_must (refine append_str rfl (.tmp 22) (.tmp 27) rfl w.heap.size wr.heap.size _ O (s.extract fn k) rfl rfl (Ho.out.alloc _) (by simp) (by omega) (by simp; omega) ?_; intro A1 m1 c1 w1 H1 hu1; have Hu1 := Lib.hid hu1; clear hu1))
          go_roundw
          case rel => exact SplRel.intro (k := k + 1) (fn := k + 1) (by go_num) (by go_num) (by simp; omega) (by omega) (by omega) (fun h => Hcut.out) (fun h => absurd h (by omega)) H1 (own_rel (Hu.out.alloc _) (Ho.out.alloc _) Hu1.out)
          case measure => simp [intOf]; omega
        · have hb2 : ((s[k].toNat : Int) == 32) = false := by simp; omega
          have Hnext := Lib.hid (Hinv.out.next Hc.out (fun e => hb (by rw [e]; rfl)))
          clear hb
          go_wp2
          go_roundw
          case rel => exact SplRel.intro (k := k + 1) (fn := fn) rfl (by go_num) (by omega) (by omega) (by omega) (fun h => Hnext.out) (fun h => absurd h (by omega)) Ho Hu.out
          case measure => simp [intOf]; omega
    · have Hp := Lib.hid (h2 (by omega))
      have Hu := Lib.hid hu
      clear h1 h2 hu
      go_wp2_with fail
      go_ret
      rw [← Hp.out]
      exact ret_own Ho.out Hu.out

def ParRet (r : Option (List ByteArray)) (w : World) (e : Ending) (w' : World) : Prop :=
  ∃ A c, e = .returned (.tuple #[.slice A (r.getD []).length c, .bool r.isSome]) ∧ SeqAt w' A (r.getD []).length ((r.getD []).map .string) ∧ Upd Nix w w'
theorem all_nil (P : List ByteArray) : allS P [] = setS P := by unfold allS; rw [List.append_nil]

set_option maxRecDepth 100000 in
set_option maxHeartbeats 1000000 in
theorem rparse_any (s : ByteArray) (w : World) (hs : s.size ≤ 3000) : Calls Tryd.prog 22 #[.string s] w (ParRet (parseS s) w) := by
  by_cases h0 : s.size = 0
  · have hp : parseS s = some [] := by unfold parseS; rw [if_pos h0]
    have Hp := Lib.hid hp
    obtain ⟨e1, e2⟩ := str_empty h0
    clear hp h0
    go_enter Tryd.func22, Tryd.ntmps22
    go_wp2
    go_ret2
    rw [Hp.out]
    exact ⟨none, 0, rfl, SeqAt.nil _, Upd.refl _ _⟩
  · have e2 := str_some h0
    have hps : parseS s = if (pieces s).all isName = true ∧ (setS (pieces s)).length ≤ 16 then some (setS (pieces s)) else none := by unfold parseS; rw [if_neg h0]
    have hsz := pieces_size s
    have hpl := pieces_len s
    have Hsp := Lib.hid (rsplit_any s w (by omega))
    generalize hP : pieces s = P at hps hsz hpl Hsp
    have Hps := Lib.hid hps
    have Hsz := Lib.hid hsz
    clear hps hsz hP h0
    go_enter Tryd.func22, Tryd.ntmps22
    go_wp2_with (go_at_call 36; go_must (refine Hsp.out.mono ?_; rintro e w1 ⟨A1, c1, rfl, hc1, hs1, hu1⟩; have Hs1 := Lib.hid hs1; clear hs1; have Hu1 := Lib.hid hu1; clear hu1))
    go_loop [5] (fun i => ∃ k : Nat, k ≤ P.length ∧ i = .int .i64 k ∧ (P.take k).all isName = true) (fun i => P.length - (intOf i).toNat)
    case atStart => exact ⟨0, by omega, rfl, rfl⟩
    case round =>
      obtain ⟨k, hk, rfl, h1⟩ := hrel
      have H1 := Lib.hid h1; clear h1
      by_cases hlt : k < P.length
      · obtain ⟨ad, u, rfl, hu, hcu⟩ := Hs1.out.get hlt
        obtain ⟨x, hx, rfl⟩ : ∃ s, P[k]? = some s ∧ .string s = u := by simpa using hu
        have Hts := Lib.hid (take_snoc P k x hx)
        have hxs : x.size ≤ 3000 := Nat.le_trans (Hsz.out x (List.mem_of_getElem? hx)) hs
        have Hx := Lib.hid hx
        clear hx hu
        cases hn : isName x
        · have hf : parseS s = none := by
            rw [Hps.out, if_neg]
            rintro ⟨h, _⟩
            have := List.all_eq_true.1 h x (List.mem_of_getElem? Hx.out)
            rw [hn] at this; cases this
          have Hf := Lib.hid hf; clear hf
          go_wp2_with (go_at_call 25; go_must (refine (rname_any x _ (by omega)).mono ?_; rw [hn]; rintro e w1 ⟨rfl, rfl⟩))
          go_ret2
          rw [Hf.out]
          exact ⟨none, 0, rfl, SeqAt.nil _, Hu1.out⟩
        · go_wp2_with (go_at_call 25; go_must (refine (rname_any x _ (by omega)).mono ?_; rw [hn]; rintro e w1 ⟨rfl, rfl⟩))
          go_round
          case rel => exact ⟨k + 1, by omega, by go_num, by rw [Hts.out, List.all_append, H1.out]; simp [hn]⟩
          case measure => simp [intOf]; omega
      · obtain rfl : k = P.length := by omega
        have hall : P.all isName = true := by have := H1.out; rwa [List.take_length] at this
        have hsl := setS_length P
        by_cases h16 : (setS P).length ≤ 16
        · have hf : parseS s = some (setS P) := by rw [Hps.out, if_pos ⟨hall, h16⟩]
          have Hf := Lib.hid hf; clear hf hall
          go_wp2_with (go_at_call 16; go_must (refine (rall_any A1 none P.length c1 0 0 P [] _ Hs1.out (SeqAt.nil _) (by omega) (by omega)).mono ?_; rw [all_nil]; rintro e w2 ⟨A2, c2, rfl, hc2, hs2, hu2⟩; have Hs2 := Lib.hid hs2; clear hs2; have Hu2 := Lib.hid hu2; clear hu2))
          go_ret2
          rw [Hf.out]
          exact ⟨A2, c2, rfl, Hs2.out, Hu1.out.thenNix Hu2.out⟩
        · have hf : parseS s = none := by rw [Hps.out, if_neg (by rintro ⟨_, h⟩; exact h16 h)]
          have Hf := Lib.hid hf; clear hf hall
          go_wp2_with (go_at_call 16; go_must (refine (rall_any A1 none P.length c1 0 0 P [] _ Hs1.out (SeqAt.nil _) (by omega) (by omega)).mono ?_; rw [all_nil]; rintro e w2 ⟨A2, c2, rfl, hc2, hs2, hu2⟩; have Hs2 := Lib.hid hs2; clear hs2; have Hu2 := Lib.hid hu2; clear hu2))
          go_ret2
          rw [Hf.out]
          exact ⟨none, 0, rfl, SeqAt.nil _, Hu1.out.thenNix Hu2.out⟩
end Go.Proofs.YtbffpliihmggoaaDoor.M
