/- ScopeBack, walked: it answers true. -/
import Derived.Test.YtbffpliihmggoaaDoorScpX
import Derived.Test.YtbffpliihmggoaaDoorScpU
set_option linter.unusedVariables false
set_option linter.unusedSimpArgs false
namespace Go.Proofs.YtbffpliihmggoaaDoor.M
open Go Go.RowKit Go.Sort

set_option maxRecDepth 100000 in
set_option maxHeartbeats 2000000 in
theorem back_good (W : World) (hm : MaxCell W) (A : Option Addr) (n c : Nat) (a : List ByteArray) (A' : Option Addr) (n' c' : Nat) (b : List ByteArray) (ha : SeqAt W A n (a.map .string)) (hc : n ≤ c) (hb : SeqAt W A' n' (b.map .string)) (hga : greatS a = false) (hgb : greatS b = false) (hchk : chkS a = true) :
    Calls Tryd.prog 4 #[.slice A n c, .slice A' n' c'] W fun e w' => e = .returned (.bool true) ∧ Upd Nix W w' := by
  have hla : a.length = n := by simpa using ha.1
  have hlb : b.length = n' := by simpa using hb.1
  have Hal := Lib.hid (alive_any W hm)
  have HM := Lib.hid hm
  have HA := Lib.hid ha; have HB := Lib.hid hb
  have Hchk := Lib.hid hchk
  have Hpj := Lib.hid (parse_join hchk)
  obtain ⟨hga1, hga2⟩ := great_no hga
  obtain ⟨hgb1, hgb2⟩ := great_no hgb
  have Hga := Lib.hid hga; have Hgb := Lib.hid hgb
  have HS := Lib.hid hga2
  have hn : n ≤ 100 := by omega
  have hn' : n' ≤ 100 := by omega
  have l0 : a.length ≤ 100 := hga1
  have l1 := Nat.le_trans (both_len a b) hga1
  have l2 := Nat.le_trans (less_len a b) hga1
  have l3 : (allS a b).length ≤ 200 := by have := all_len a b; omega
  have l4 : (allS a []).length ≤ 100 := by have := all_len a []; simp at this; omega
  have hj : (joinS a).size ≤ 200000 := Nat.le_trans (joinS_size hga2) (Nat.le_trans (Nat.mul_le_mul_right (1000 + 1) hga1) (by decide))
  have E1 := Lib.hid (law1 a b); have E2 := Lib.hid (law2 a b); have E3 := Lib.hid (law3 a b); have E4 := Lib.hid (law4 a b)
  have E5 := Lib.hid (law5 a b); have E6 := Lib.hid (law6 a b); have E7 := Lib.hid (law7 a b); have E8 := Lib.hid (law8 a b)
  clear ha hb hm hga hgb hga2 hgb2 hga1 hgb1 hla hlb hchk
  go_enter Tryd.func4, Tryd.ntmps4
  go_wp2_with (first
    | (go_at_call 6; go_must (refine Hal.out.mono ?_; rintro e w1 ⟨rfl, h3⟩; have HU := Lib.hid h3; clear h3))
    | (go_at_call 7; first | ((with_reducible refine (rgreat_any A n c a _ (HA.out.nix HU.out)).mono ?_); rw [Hga.out]; rintro e w1 ⟨rfl, rfl⟩) | (go_must (refine (rgreat_any A' n' c' b _ (HB.out.nix HU.out)).mono ?_; rw [Hgb.out]; rintro e w1 ⟨rfl, rfl⟩)))
    | (go_at_call 19; go_must (refine (check_any A n c a _ (HA.out.nix HU.out) hn HS.out).mono ?_; rintro e w1 ⟨hr, rfl⟩; unfold ChkRet at hr; rw [Hchk.out] at hr; obtain rfl := hr))
    | (go_at_call 21; go_must (refine (print_any A n c a _ (HA.out.nix HU.out) hn hc HS.out).mono ?_; rintro e wx ⟨rfl, h3⟩; have HU := Lib.hid (HU.out.thenNix h3); clear h3))
    | (go_at_call 20; go_must (refine (parse_any (joinS a) _ (HM.out.nix HU.out) hj).mono ?_; rw [Hpj.out]; rintro e wx ⟨T0a, T0c, rfl, h1, h2, h3⟩; have HU := Lib.hid (HU.out.thenNix h3); have T0 := Lib.hid h2; clear h1 h2 h3))
    | (go_at_call 13; first | ((with_reducible refine (both_any A A' n c n' c' a b _ (HA.out.nix HU.out) (HB.out.nix HU.out) (by omega) (by omega)).mono ?_); rintro e wx ⟨Pa, Pc, rfl, h1, h2, h3⟩; have HU := Lib.hid (HU.out.thenNix h3); have P := Lib.hid h2; clear h1 h2 h3) | ((with_reducible refine (both_any La A' (lessS a b).length Lc n' c' (lessS a b) b _ L.out (HB.out.nix HU.out) (by omega) (by omega)).mono ?_); rw [E6.out]; rintro e wx ⟨Za, Zc, rfl, h1, h2, h3⟩; have HU := Lib.hid (HU.out.thenNix h3); have P := Lib.hid (P.out.nix h3); have L := Lib.hid (L.out.nix h3); have Q := Lib.hid (Q.out.nix h3); clear h1 h2 h3) | (go_must (refine (both_any A' A n' c' n c b a _ (HB.out.nix HU.out) (HA.out.nix HU.out) (by omega) (by omega)).mono ?_; rw [E7.out]; rintro e wx ⟨T3a, T3c, rfl, h1, h2, h3⟩; have HU := Lib.hid (HU.out.thenNix h3); have P := Lib.hid (P.out.nix h3); have L := Lib.hid (L.out.nix h3); have Q := Lib.hid (Q.out.nix h3); have T3 := Lib.hid h2; clear h1 h2 h3)))
    | (go_at_call 17; go_must (refine (less_any A A' n c n' c' a b _ (HA.out.nix HU.out) (HB.out.nix HU.out) (by omega) (by omega)).mono ?_; rintro e wx ⟨La, Lc, rfl, h1, h2, h3⟩; have HU := Lib.hid (HU.out.thenNix h3); have P := Lib.hid (P.out.nix h3); have L := Lib.hid h2; clear h1 h2 h3))
    | (go_at_call 15; first | ((with_reducible refine (all_any A A' n c n' c' a b _ (HA.out.nix HU.out) (HB.out.nix HU.out) (by omega) (by omega)).mono ?_); rintro e wx ⟨Qa, Qc, rfl, h1, h2, h3⟩; have HU := Lib.hid (HU.out.thenNix h3); have P := Lib.hid (P.out.nix h3); have L := Lib.hid (L.out.nix h3); have Q := Lib.hid h2; clear h1 h2 h3) | ((with_reducible refine (all_any Pa La (bothS a b).length Pc (lessS a b).length Lc (bothS a b) (lessS a b) _ P.out L.out (by omega) (by omega)).mono ?_); rw [E5.out]; rintro e wx ⟨T1a, T1c, rfl, h1, h2, h3⟩; have HU := Lib.hid (HU.out.thenNix h3); have P := Lib.hid (P.out.nix h3); have L := Lib.hid (L.out.nix h3); have Q := Lib.hid (Q.out.nix h3); have T1 := Lib.hid h2; clear h1 h2 h3) | ((with_reducible refine (all_any A none n c 0 0 a [] _ (HA.out.nix HU.out) (SeqAt.nil _) (by omega) (by omega)).mono ?_); rintro e wx ⟨T2a, T2c, rfl, h1, h2, h3⟩; have HU := Lib.hid (HU.out.thenNix h3); have P := Lib.hid (P.out.nix h3); have L := Lib.hid (L.out.nix h3); have Q := Lib.hid (Q.out.nix h3); have T1 := Lib.hid (T1.out.nix h3); have T2 := Lib.hid h2; clear h1 h2 h3) | (go_must (refine (all_any A' A n' c' n c b a _ (HB.out.nix HU.out) (HA.out.nix HU.out) (by omega) (by omega)).mono ?_; rw [E8.out]; rintro e wx ⟨T4a, T4c, rfl, h1, h2, h3⟩; have HU := Lib.hid (HU.out.thenNix h3); have P := Lib.hid (P.out.nix h3); have L := Lib.hid (L.out.nix h3); have Q := Lib.hid (Q.out.nix h3); have T4 := Lib.hid h2; clear h1 h2 h3)))
    | (go_at_call 10; first | ((with_reducible refine (within_any Pa A (bothS a b).length Pc n c (bothS a b) a _ P.out (HA.out.nix HU.out) (by omega) (by omega)).mono ?_); rw [E1.out]; rintro e wx ⟨rfl, h3⟩; have HU := Lib.hid (HU.out.thenNix h3); have P := Lib.hid (P.out.nix h3); have L := Lib.hid (L.out.nix h3); have Q := Lib.hid (Q.out.nix h3); clear h3) | ((with_reducible refine (within_any Pa A' (bothS a b).length Pc n' c' (bothS a b) b _ P.out (HB.out.nix HU.out) (by omega) (by omega)).mono ?_); rw [E2.out]; rintro e wx ⟨rfl, h3⟩; have HU := Lib.hid (HU.out.thenNix h3); have P := Lib.hid (P.out.nix h3); have L := Lib.hid (L.out.nix h3); have Q := Lib.hid (Q.out.nix h3); clear h3) | ((with_reducible refine (within_any A Qa n c (allS a b).length Qc a (allS a b) _ (HA.out.nix HU.out) Q.out (by omega) (by omega)).mono ?_); rw [E3.out]; rintro e wx ⟨rfl, h3⟩; have HU := Lib.hid (HU.out.thenNix h3); have P := Lib.hid (P.out.nix h3); have L := Lib.hid (L.out.nix h3); have Q := Lib.hid (Q.out.nix h3); clear h3) | (go_must (refine (within_any A' Qa n' c' (allS a b).length Qc b (allS a b) _ (HB.out.nix HU.out) Q.out (by omega) (by omega)).mono ?_; rw [E4.out]; rintro e wx ⟨rfl, h3⟩; have HU := Lib.hid (HU.out.thenNix h3); have P := Lib.hid (P.out.nix h3); have L := Lib.hid (L.out.nix h3); have Q := Lib.hid (Q.out.nix h3); clear h3)))
    | (go_at_call 12; first | ((with_reducible refine (rsame_any T0a A a.length T0c n c a a _ T0.out (HA.out.nix HU.out) (by omega) (by omega)).mono ?_); rw [same_self]; rintro e wx ⟨rfl, h3⟩; have HU := Lib.hid (HU.out.thenNix h3); clear h3) | ((with_reducible refine (rsame_any T1a T2a (allS a []).length T1c (allS a []).length T2c (allS a []) (allS a []) _ T1.out T2.out (by omega) (by omega)).mono ?_); rw [same_self]; rintro e wx ⟨rfl, h3⟩; have HU := Lib.hid (HU.out.thenNix h3); have P := Lib.hid (P.out.nix h3); have L := Lib.hid (L.out.nix h3); have Q := Lib.hid (Q.out.nix h3); clear h3) | ((with_reducible refine (rsame_any Pa T3a (bothS a b).length Pc (bothS a b).length T3c (bothS a b) (bothS a b) _ P.out T3.out (by omega) (by omega)).mono ?_); rw [same_self]; rintro e wx ⟨rfl, h3⟩; have HU := Lib.hid (HU.out.thenNix h3); have P := Lib.hid (P.out.nix h3); have L := Lib.hid (L.out.nix h3); have Q := Lib.hid (Q.out.nix h3); clear h3) | (go_must (refine (rsame_any Qa T4a (allS a b).length Qc (allS a b).length T4c (allS a b) (allS a b) _ Q.out T4.out (by omega) (by omega)).mono ?_; rw [same_self]; rintro e wx ⟨rfl, h3⟩; have HU := Lib.hid (HU.out.thenNix h3); have P := Lib.hid (P.out.nix h3); have L := Lib.hid (L.out.nix h3); have Q := Lib.hid (Q.out.nix h3); clear h3))))
  go_ret
  exact ⟨rfl, HU.out⟩

set_option maxRecDepth 100000 in
set_option maxHeartbeats 2000000 in
theorem back_bad (W : World) (hm : MaxCell W) (A : Option Addr) (n c : Nat) (a : List ByteArray) (A' : Option Addr) (n' c' : Nat) (b : List ByteArray) (ha : SeqAt W A n (a.map .string)) (hc : n ≤ c) (hb : SeqAt W A' n' (b.map .string)) (hga : greatS a = false) (hgb : greatS b = false) (hchk : chkS a = false) :
    Calls Tryd.prog 4 #[.slice A n c, .slice A' n' c'] W fun e w' => e = .returned (.bool true) ∧ Upd Nix W w' := by
  have hla : a.length = n := by simpa using ha.1
  have hlb : b.length = n' := by simpa using hb.1
  have Hal := Lib.hid (alive_any W hm)
  have HM := Lib.hid hm
  have HA := Lib.hid ha; have HB := Lib.hid hb
  have Hchk := Lib.hid hchk
  obtain ⟨hga1, hga2⟩ := great_no hga
  obtain ⟨hgb1, hgb2⟩ := great_no hgb
  have Hga := Lib.hid hga; have Hgb := Lib.hid hgb
  have HS := Lib.hid hga2
  have hn : n ≤ 100 := by omega
  have hn' : n' ≤ 100 := by omega
  have l0 : a.length ≤ 100 := hga1
  have l1 := Nat.le_trans (both_len a b) hga1
  have l2 := Nat.le_trans (less_len a b) hga1
  have l3 : (allS a b).length ≤ 200 := by have := all_len a b; omega
  have l4 : (allS a []).length ≤ 100 := by have := all_len a []; simp at this; omega
  have hj : (joinS a).size ≤ 200000 := Nat.le_trans (joinS_size hga2) (Nat.le_trans (Nat.mul_le_mul_right (1000 + 1) hga1) (by decide))
  have E1 := Lib.hid (law1 a b); have E2 := Lib.hid (law2 a b); have E3 := Lib.hid (law3 a b); have E4 := Lib.hid (law4 a b)
  have E5 := Lib.hid (law5 a b); have E6 := Lib.hid (law6 a b); have E7 := Lib.hid (law7 a b); have E8 := Lib.hid (law8 a b)
  clear ha hb hm hga hgb hga2 hgb2 hga1 hgb1 hla hlb hchk
  go_enter Tryd.func4, Tryd.ntmps4
  go_wp2_with (first
    | (go_at_call 6; go_must (refine Hal.out.mono ?_; rintro e w1 ⟨rfl, h3⟩; have HU := Lib.hid h3; clear h3))
    | (go_at_call 7; first | ((with_reducible refine (rgreat_any A n c a _ (HA.out.nix HU.out)).mono ?_); rw [Hga.out]; rintro e w1 ⟨rfl, rfl⟩) | (go_must (refine (rgreat_any A' n' c' b _ (HB.out.nix HU.out)).mono ?_; rw [Hgb.out]; rintro e w1 ⟨rfl, rfl⟩)))
    | (go_at_call 19; go_must (refine (check_any A n c a _ (HA.out.nix HU.out) hn HS.out).mono ?_; rintro e w1 ⟨hr, rfl⟩; unfold ChkRet at hr; rw [Hchk.out] at hr; obtain rfl := hr))
    | (go_at_call 13; first | ((with_reducible refine (both_any A A' n c n' c' a b _ (HA.out.nix HU.out) (HB.out.nix HU.out) (by omega) (by omega)).mono ?_); rintro e wx ⟨Pa, Pc, rfl, h1, h2, h3⟩; have HU := Lib.hid (HU.out.thenNix h3); have P := Lib.hid h2; clear h1 h2 h3) | ((with_reducible refine (both_any La A' (lessS a b).length Lc n' c' (lessS a b) b _ L.out (HB.out.nix HU.out) (by omega) (by omega)).mono ?_); rw [E6.out]; rintro e wx ⟨Za, Zc, rfl, h1, h2, h3⟩; have HU := Lib.hid (HU.out.thenNix h3); have P := Lib.hid (P.out.nix h3); have L := Lib.hid (L.out.nix h3); have Q := Lib.hid (Q.out.nix h3); clear h1 h2 h3) | (go_must (refine (both_any A' A n' c' n c b a _ (HB.out.nix HU.out) (HA.out.nix HU.out) (by omega) (by omega)).mono ?_; rw [E7.out]; rintro e wx ⟨T3a, T3c, rfl, h1, h2, h3⟩; have HU := Lib.hid (HU.out.thenNix h3); have P := Lib.hid (P.out.nix h3); have L := Lib.hid (L.out.nix h3); have Q := Lib.hid (Q.out.nix h3); have T3 := Lib.hid h2; clear h1 h2 h3)))
    | (go_at_call 17; go_must (refine (less_any A A' n c n' c' a b _ (HA.out.nix HU.out) (HB.out.nix HU.out) (by omega) (by omega)).mono ?_; rintro e wx ⟨La, Lc, rfl, h1, h2, h3⟩; have HU := Lib.hid (HU.out.thenNix h3); have P := Lib.hid (P.out.nix h3); have L := Lib.hid h2; clear h1 h2 h3))
    | (go_at_call 15; first | ((with_reducible refine (all_any A A' n c n' c' a b _ (HA.out.nix HU.out) (HB.out.nix HU.out) (by omega) (by omega)).mono ?_); rintro e wx ⟨Qa, Qc, rfl, h1, h2, h3⟩; have HU := Lib.hid (HU.out.thenNix h3); have P := Lib.hid (P.out.nix h3); have L := Lib.hid (L.out.nix h3); have Q := Lib.hid h2; clear h1 h2 h3) | ((with_reducible refine (all_any Pa La (bothS a b).length Pc (lessS a b).length Lc (bothS a b) (lessS a b) _ P.out L.out (by omega) (by omega)).mono ?_); rw [E5.out]; rintro e wx ⟨T1a, T1c, rfl, h1, h2, h3⟩; have HU := Lib.hid (HU.out.thenNix h3); have P := Lib.hid (P.out.nix h3); have L := Lib.hid (L.out.nix h3); have Q := Lib.hid (Q.out.nix h3); have T1 := Lib.hid h2; clear h1 h2 h3) | ((with_reducible refine (all_any A none n c 0 0 a [] _ (HA.out.nix HU.out) (SeqAt.nil _) (by omega) (by omega)).mono ?_); rintro e wx ⟨T2a, T2c, rfl, h1, h2, h3⟩; have HU := Lib.hid (HU.out.thenNix h3); have P := Lib.hid (P.out.nix h3); have L := Lib.hid (L.out.nix h3); have Q := Lib.hid (Q.out.nix h3); have T1 := Lib.hid (T1.out.nix h3); have T2 := Lib.hid h2; clear h1 h2 h3) | (go_must (refine (all_any A' A n' c' n c b a _ (HB.out.nix HU.out) (HA.out.nix HU.out) (by omega) (by omega)).mono ?_; rw [E8.out]; rintro e wx ⟨T4a, T4c, rfl, h1, h2, h3⟩; have HU := Lib.hid (HU.out.thenNix h3); have P := Lib.hid (P.out.nix h3); have L := Lib.hid (L.out.nix h3); have Q := Lib.hid (Q.out.nix h3); have T4 := Lib.hid h2; clear h1 h2 h3)))
    | (go_at_call 10; first | ((with_reducible refine (within_any Pa A (bothS a b).length Pc n c (bothS a b) a _ P.out (HA.out.nix HU.out) (by omega) (by omega)).mono ?_); rw [E1.out]; rintro e wx ⟨rfl, h3⟩; have HU := Lib.hid (HU.out.thenNix h3); have P := Lib.hid (P.out.nix h3); have L := Lib.hid (L.out.nix h3); have Q := Lib.hid (Q.out.nix h3); clear h3) | ((with_reducible refine (within_any Pa A' (bothS a b).length Pc n' c' (bothS a b) b _ P.out (HB.out.nix HU.out) (by omega) (by omega)).mono ?_); rw [E2.out]; rintro e wx ⟨rfl, h3⟩; have HU := Lib.hid (HU.out.thenNix h3); have P := Lib.hid (P.out.nix h3); have L := Lib.hid (L.out.nix h3); have Q := Lib.hid (Q.out.nix h3); clear h3) | ((with_reducible refine (within_any A Qa n c (allS a b).length Qc a (allS a b) _ (HA.out.nix HU.out) Q.out (by omega) (by omega)).mono ?_); rw [E3.out]; rintro e wx ⟨rfl, h3⟩; have HU := Lib.hid (HU.out.thenNix h3); have P := Lib.hid (P.out.nix h3); have L := Lib.hid (L.out.nix h3); have Q := Lib.hid (Q.out.nix h3); clear h3) | (go_must (refine (within_any A' Qa n' c' (allS a b).length Qc b (allS a b) _ (HB.out.nix HU.out) Q.out (by omega) (by omega)).mono ?_; rw [E4.out]; rintro e wx ⟨rfl, h3⟩; have HU := Lib.hid (HU.out.thenNix h3); have P := Lib.hid (P.out.nix h3); have L := Lib.hid (L.out.nix h3); have Q := Lib.hid (Q.out.nix h3); clear h3)))
    | (go_at_call 12; first | ((with_reducible refine (rsame_any T1a T2a (allS a []).length T1c (allS a []).length T2c (allS a []) (allS a []) _ T1.out T2.out (by omega) (by omega)).mono ?_); rw [same_self]; rintro e wx ⟨rfl, h3⟩; have HU := Lib.hid (HU.out.thenNix h3); have P := Lib.hid (P.out.nix h3); have L := Lib.hid (L.out.nix h3); have Q := Lib.hid (Q.out.nix h3); clear h3) | ((with_reducible refine (rsame_any Pa T3a (bothS a b).length Pc (bothS a b).length T3c (bothS a b) (bothS a b) _ P.out T3.out (by omega) (by omega)).mono ?_); rw [same_self]; rintro e wx ⟨rfl, h3⟩; have HU := Lib.hid (HU.out.thenNix h3); have P := Lib.hid (P.out.nix h3); have L := Lib.hid (L.out.nix h3); have Q := Lib.hid (Q.out.nix h3); clear h3) | (go_must (refine (rsame_any Qa T4a (allS a b).length Qc (allS a b).length T4c (allS a b) (allS a b) _ Q.out T4.out (by omega) (by omega)).mono ?_; rw [same_self]; rintro e wx ⟨rfl, h3⟩; have HU := Lib.hid (HU.out.thenNix h3); have P := Lib.hid (P.out.nix h3); have L := Lib.hid (L.out.nix h3); have Q := Lib.hid (Q.out.nix h3); clear h3))))
  go_ret
  exact ⟨rfl, HU.out⟩

set_option maxRecDepth 100000 in
theorem back_walk (W : World) (hm : MaxCell W) (A : Option Addr) (n c : Nat) (a : List ByteArray) (A' : Option Addr) (n' c' : Nat) (b : List ByteArray) (ha : SeqAt W A n (a.map .string) ∧ n ≤ c) (hb : SeqAt W A' n' (b.map .string) ∧ n' ≤ c') :
    Calls Tryd.prog 4 #[.slice A n c, .slice A' n' c'] W fun e w' => e = .returned (.bool true) ∧ Upd Nix W w' := by
  cases hga : greatS a
  · cases hgb : greatS b
    · cases hchk : chkS a
      · exact back_bad W hm A n c a A' n' c' b ha.1 ha.2 hb.1 hga hgb hchk
      · exact back_good W hm A n c a A' n' c' b ha.1 ha.2 hb.1 hga hgb hchk
    · have Hal := Lib.hid (alive_any W hm)
      have Hga := Lib.hid hga; have Hgb := Lib.hid hgb
      have HA := Lib.hid ha.1; have HB := Lib.hid hb.1
      clear hga hgb ha hb hm
      go_enter Tryd.func4, Tryd.ntmps4
      go_wp2_with (first
        | (go_at_call 6; go_must (refine Hal.out.mono ?_; rintro e w1 ⟨rfl, h3⟩; have HU := Lib.hid h3; clear h3))
        | (go_at_call 7; first
            | ((with_reducible refine (rgreat_any A n c a _ (HA.out.nix HU.out)).mono ?_); rw [Hga.out]; rintro e w1 ⟨rfl, rfl⟩)
            | (go_must (refine (rgreat_any A' n' c' b _ (HB.out.nix HU.out)).mono ?_; rw [Hgb.out]; rintro e w1 ⟨rfl, rfl⟩))))
      go_ret
      exact ⟨rfl, HU.out⟩
  · have Hal := Lib.hid (alive_any W hm)
    have Hga := Lib.hid hga
    have HA := Lib.hid ha.1
    clear hga ha hb hm
    go_enter Tryd.func4, Tryd.ntmps4
    go_wp2_with (first
      | (go_at_call 6; go_must (refine Hal.out.mono ?_; rintro e w1 ⟨rfl, h3⟩; have HU := Lib.hid h3; clear h3))
      | (go_at_call 7; go_must (refine (rgreat_any A n c a _ (HA.out.nix HU.out)).mono ?_; rw [Hga.out]; rintro e w1 ⟨rfl, rfl⟩)))
    go_ret
    exact ⟨rfl, HU.out⟩
end Go.Proofs.YtbffpliihmggoaaDoor.M
