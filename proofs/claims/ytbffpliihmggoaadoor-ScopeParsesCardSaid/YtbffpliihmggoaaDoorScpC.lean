/- scope.set, walked: two loops that append what stays; sort; compact. -/
import Derived.Test.YtbffpliihmggoaaDoorScpB
set_option linter.unusedVariables false
set_option linter.unusedSimpArgs false
namespace Go.Proofs.YtbffpliihmggoaaDoor.M
open Go Go.RowKit Go.Sort

def OutRel (B : Nat) (w : World) (out : List ByteArray) (v : Value) (wr : World) : Prop :=
  wr.ownsRow B 9 1 v out.length (out.map .string) ∧ Upd Nix w wr

theorem flat_take {α : Type} (ls : List (List α)) (k : Nat) (l : List α) (h : ls[k]? = some l) : (ls.take (k + 1)).flatten = (ls.take k).flatten ++ l := by
  rw [List.take_add_one, h]; simp
theorem take_snoc {α : Type} (l : List α) (j : Nat) (x : α) (h : l[j]? = some x) : l.take (j + 1) = l.take j ++ [x] := by
  rw [List.take_add_one, h]; rfl
theorem flat_len {α : Type} (ls : List (List α)) (k : Nat) : (ls.take k).flatten.length ≤ ls.flatten.length := by
  have := congrArg List.length (congrArg List.flatten (List.take_append_drop k ls))
  rw [List.flatten_append, List.length_append] at this
  omega

theorem own_low {w : World} {base : Nat} {e : TypeId} {size n : Nat} {v : Value} {xs : List Value} (h : w.ownsRow base e size v n xs) (k : Nat) (hk : v.ownBlock = some k) : base ≤ k := (h.lt k hk).1
theorem Upd.ownGrown {w w1 w2 : World} {row : Option Nat} (h : Upd Nix w w1) (hg : w1.grownBy w2 row) (hr : ∀ k, row = some k → w.heap.size ≤ k) : Upd Nix w w2 :=
  h.grown hg (fun k hk hlt => by have := hr k hk; omega)

set_option maxRecDepth 100000 in
set_option maxHeartbeats 1000000 in
theorem set_any (g : Nat) (lb : Array Value) (p : ByteArray → Bool) (eg : Enters Tryd.prog g) (gl cl : Nat) (ls : List (List ByteArray)) (w : World)
    (hp : PredC g lb p w) (hls : ListsAt w gl ls) (hn : ls.length ≤ 1000000) (hlen : ls.flatten.length ≤ 1000000) :
    Calls Tryd.prog 27 #[.func (.func g) #[] lb, .slice (some ⟨gl, 0, none⟩) ls.length cl] w (RetSeq (setS (ls.flatten.filter p)) w) := by
  obtain ⟨i0, hi0, hz0, hz1, hz2⟩ := info_parts infoStr
  have Hls := Lib.hid hls; clear hls
  have HP := Lib.hid hp; clear hp
  have eg' : ∀ (args : Array Value) (w : World), (callFunc g args).run Tryd.prog w = .ok (.enter g args) w := eg
  clear eg
  go_enter Tryd.func27, Tryd.ntmps27
  go_wp2
  go_loopw [5, 12] (fun v i wr => ∃ k : Nat, k ≤ ls.length ∧ i = .int .i64 k ∧ OutRel w.heap.size w ((ls.take k).flatten.filter p) v wr) (fun _ i _ => ls.length - (intOf i).toNat)
  case atStart => exact ⟨0, by omega, rfl, ⟨⟨rfl, .inl ⟨rfl, rfl⟩⟩, Upd.refl _ _⟩⟩
  case round =>
    obtain ⟨k, hk, rfl, hout⟩ := hrel
    by_cases hlt : k < ls.length
    · obtain ⟨l, hl⟩ : ∃ l, ls[k]? = some l := ⟨_, List.getElem?_eq_getElem hlt⟩
      obtain ⟨A, c, hc00, hsq⟩ := Hls.out k l hl
      have hc0 : wr.cell? ⟨gl, k, none⟩ = some (.slice A l.length c) := hout.2.cell hc00 (by simp)
      have Hft := Lib.hid (flat_take ls k l hl)
      have Hfl := Lib.hid (flat_len ls (k + 1))
      have hlb : l.length ≤ 1000000 := by
        have h1 := Hfl.out
        rw [Hft.out, List.length_append] at h1; omega
      have Hsq := Lib.hid hsq; clear hsq hl hc00
      have Hout := Lib.hid hout; clear hout
      obtain ⟨wo, rfl⟩ : ∃ wo : World, wo = wr := ⟨_, rfl⟩
      go_wp2
      go_loopw [5, 18] (fun v j wr => ∃ m : Nat, m ≤ l.length ∧ j = .int .i64 m ∧ OutRel w.heap.size w ((ls.take k).flatten.filter p ++ (l.take m).filter p) v wr) (fun _ j _ => l.length - (intOf j).toNat)
      case atStart => exact ⟨0, by omega, rfl, by simpa using Hout.out⟩
      case round =>
        obtain ⟨m, hm, rfl, hout⟩ := hrel
        by_cases hlm : m < l.length
        · obtain ⟨ad, u, rfl, hu, hcu⟩ := (Hsq.out.nix hout.2).get hlm
          obtain ⟨s, hs, rfl⟩ : ∃ s, l[m]? = some s ∧ .string s = u := by simpa using hu
          have Hts := Lib.hid (take_snoc l m s hs)
          have Ho := Lib.hid hout; clear hout
          clear hs hu
          cases hps : p s
          · go_wp2_with (go_at_fn g; go_must (refine (HP.out _ s Ho.out.2).mono ?_; rintro e w' ⟨rfl, rfl⟩; simp only [hps]))
            go_roundw
            case rel => exact ⟨m + 1, by omega, by go_num, by rw [Hts.out, List.filter_append]; simpa [hps] using Ho.out⟩
            case measure => simp [intOf]; omega
          · have hbase : w.heap.size ≤ (wr.alloc (.cells #[.string s] 9)).heap.size := by have := Ho.out.2.size; simp; omega
            have hol : (List.filter p (ls.take k).flatten ++ List.filter p (l.take m)).length ≤ 1000000 := by
              have h1 := Hfl.out
              have h2 := List.length_filter_le p (ls.take k).flatten
              have h3 := List.length_filter_le p (l.take m)
              have h4 : (l.take m).length ≤ l.length := by rw [List.length_take]; omega
              rw [Hft.out, List.length_append] at h1
              rw [List.length_append]; omega
            generalize hO : List.filter p (ls.take k).flatten ++ List.filter p (l.take m) = O at Ho hol
            have HO := Lib.hid hO; clear hO
            go_wp2_with (first
              | (go_at_fn g; go_must (refine (HP.out _ s Ho.out.2).mono ?_; rintro e w' ⟨rfl, rfl⟩; simp only [hps]))
              | (at_builtin; go_must (refine wpList_append_own_at _ rfl (.tmp 25) (.tmp 27) 22 rfl w.heap.size 9 i0 _ 1 16 Tryd.underlying22 hi0 hz0 hz1 hz2 rfl (by omega) u5 O.length (O.map .string) rfl (Ho.out.1.alloc _) ⟨wr.heap.size, 0, none⟩ 1 1 [.string s] rfl rfl (cell_one_new _ _ _) (by intro u hu; simp at hu; subst hu; rfl) (by unfold maxLen; omega) (by omega) hbase ?_; intro v1 w1 hown1 hg1 hnil1 hat1)))
            go_roundw
            case rel =>
              refine ⟨m + 1, by omega, by go_num, ?_⟩
              have e1 : List.filter p (ls.take k).flatten ++ List.filter p (l.take (m + 1)) = O ++ [s] := by rw [Hts.out, List.filter_append, ← List.append_assoc, HO.out]; simp [hps]
              rw [e1]
              refine ⟨?_, (Ho.out.2.alloc _).ownGrown hg1 (fun j hj => own_low Ho.out.1 j hj)⟩
              rw [List.length_append, List.map_append]
              exact hown1
            case measure => simp [intOf]; omega
        · obtain rfl : m = l.length := by omega
          have Hout := Lib.hid hout; clear hout
          go_wp2_with fail
          go_roundw
          case rel =>
            refine ⟨k + 1, by omega, by go_num, ?_⟩
            rw [Hft.out, List.filter_append]
            simpa using Hout.out
          case measure => simp [intOf]; omega
    · obtain rfl : k = ls.length := by omega
      have Hout := Lib.hid hout; clear hout
      have hol : (ls.flatten.filter p).length ≤ 1000000 := Nat.le_trans (List.length_filter_le p _) hlen
      have hout : OutRel w.heap.size w (ls.flatten.filter p) u5 wr := by simpa using Hout.out
      generalize hO : ls.flatten.filter p = O at hout hol
      have Ho := Lib.hid hout; clear hout
      have Hset := Lib.hid (sort_set O)
      go_wp2_with (first
        | (go_at_call 39; go_must (refine (sort_own _ O w.heap.size _ Ho.out.1 hol).mono ?_; rintro e w1 ⟨rfl, ho1, hu1⟩; have H1 := Lib.hid ho1; clear ho1))
        | (go_at_call 40; go_must (refine (compact_own _ ((O.map (·.data.toList)).mergeSort fun x y => decide (x ≤ y)) w.heap.size _ (by simpa using H1.out) (by simpa using hol)).mono ?_; rintro e w2 ⟨A, c, rfl, hc2, hs2, hu2⟩)))
      have hlen2 := congrArg List.length Hset.out
      rw [List.length_map] at hlen2
      have Hlen2 := Lib.hid hlen2; clear hlen2
      rw [enc_strs, Hset.out, Hlen2.out] at hs2
      rw [Hlen2.out] at hc2
      go_ret
      rw [hO]
      refine ⟨A, c, by rw [Hlen2.out]; rfl, hc2, hs2, ?_⟩
      exact (Ho.out.2.ownNix hu1 (fun j hj => own_low Ho.out.1 j hj)).ownNix hu2 (fun j hj => own_low Ho.out.1 j hj)
end Go.Proofs.YtbffpliihmggoaaDoor.M
