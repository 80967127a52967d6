/- The law's example: 'alive' answers true. -/
import Derived.Test.YtbffpliihmggoaaDoorScpE
set_option linter.unusedVariables false
set_option linter.unusedSimpArgs false
namespace Go.Proofs.YtbffpliihmggoaaDoor.M
open Go Go.RowKit Go.Sort

theorem lt_data (a b : ByteArray) : lt a b = Op.bytesLess a.data.toList b.data.toList := by unfold lt; rw [ByteArray.toList_eq, ByteArray.toList_eq]

def tRead : ByteArray := ⟨#[114, 101, 97, 100]⟩
def tWrite : ByteArray := ⟨#[119, 114, 105, 116, 101]⟩
def tAll : ByteArray := ⟨#[114, 101, 97, 100, 32, 119, 114, 105, 116, 101, 32, 114, 101, 97, 100]⟩
theorem pieces_all : pieces tAll = [tRead, tWrite, tRead] := by rfl
theorem set_all : setS [tRead, tWrite, tRead] = [tRead, tWrite] := by
  refine ris_ext (ris_setS _) ?_ fun x => ?_
  · have : lt tRead tWrite = true := by rw [lt_data]; decide
    simp [Ris, this]
  · rw [mem_setS]; simp only [List.mem_cons, List.not_mem_nil, or_false]
    constructor
    · rintro (h | h | h) <;> simp [h]
    · rintro (h | h) <;> simp [h]
theorem parse_all : parseS tAll = some [tRead, tWrite] := by
  unfold parseS
  rw [if_neg (by decide), pieces_all, set_all, if_pos ⟨by decide, by decide⟩]

theorem both_one (a b c : ByteArray) (hab : a ≠ b) (hac : a ≠ c) : bothS [a, b] [b, c] = [b] := by
  refine ris_ext (ris_setS _) (by simp [Ris]) fun x => ?_
  rw [bothS, mem_setS, List.mem_filter, hasS_iff]
  simp only [List.mem_cons, List.not_mem_nil, or_false]
  constructor
  · rintro ⟨rfl | rfl, h⟩
    · rcases h with h | h
      · exact absurd h hab
      · exact absurd h hac
    · rfl
  · rintro rfl; exact ⟨.inr rfl, .inl rfl⟩

theorem seq_at0 {w : World} {A : Option Addr} {x : ByteArray} {l : List ByteArray} (h : SeqAt w A (x :: l).length ((x :: l).map .string)) : ∃ ad, A = some ad ∧ w.cell? ad = some (.string x) := by
  obtain ⟨ad, rfl, hc⟩ := h.2 (by simp)
  have := hc 0 (.string x) (by simp)
  have e : ad.add 0 = ad := by unfold Addr.add; simp
  rw [e] at this
  exact ⟨ad, rfl, this⟩
theorem seq_blk {w : World} {g : Nat} {t : TypeId} {cs : Array Value} (h : Blk w g t cs) {n : Nat} (hn : cs.size = n) : SeqAt w (some ⟨g, 0, none⟩) n cs.toList := by
  subst hn
  refine ⟨by simp, fun _ => ⟨_, rfl, fun j u hj => ?_⟩⟩
  rw [add_flat, Nat.zero_add, h.cell, ← Array.getElem?_toList]; exact hj

theorem seq_second (w : World) (o : Obj) (t : TypeId) (cs : Array Value) : SeqAt ((w.alloc o).alloc (.cells cs t)) (some ⟨w.heap.size + 1, 0, none⟩) cs.size cs.toList := by
  have := seq_blk (Blk.new (w.alloc o) t cs) rfl
  have e : (w.alloc o).heap.size = w.heap.size + 1 := by simp
  rw [e] at this; exact this

set_option maxRecDepth 100000 in
theorem alive_any (w : World) (hm : MaxCell w) : Calls Tryd.prog 6 #[] w fun e w' => e = .returned (.bool true) ∧ Upd Nix w w' := by
  have hp := parse_any tAll w hm (by decide)
  rw [parse_all] at hp
  have Hp := Lib.hid (show Calls Tryd.prog 20 #[.string ⟨#[114, 101, 97, 100, 32, 119, 114, 105, 116, 101, 32, 114, 101, 97, 100]⟩] w (RetSeqE [tRead, tWrite] w) from hp)
  have n1 : isName ⟨#[97, 46, 98, 58, 99]⟩ = true := by decide
  have n2 : isName ⟨#[65]⟩ = false := by decide
  have hb := both_one ⟨#[97]⟩ ⟨#[98]⟩ ⟨#[99]⟩ (by decide) (by decide)
  have Hb := Lib.hid hb
  clear hp hm hb
  go_enter Tryd.func6, Tryd.ntmps6
  go_wp2_with (first
    | (go_at_call 20; go_must (refine Hp.out.mono ?_; rintro e w1 ⟨A1, c1, rfl, hc1, hs1, hu1⟩; obtain ⟨ad, rfl, hcu⟩ := seq_at0 (l := [tWrite]) hs1; have Hcu := Lib.hid hcu; clear hcu; have Hs1 := Lib.hid hs1; clear hs1; have Hu1 := Lib.hid hu1; clear hu1))
    | (go_at_call 13; go_must (refine (both_any (some ⟨w1.heap.size, 0, none⟩) (some ⟨w1.heap.size + 1, 0, none⟩) 2 2 2 2 [⟨#[97]⟩, ⟨#[98]⟩] [⟨#[98]⟩, ⟨#[99]⟩] _ (seq_blk (((Blk.new w1 9 #[.string ⟨#[97]⟩, .string ⟨#[98]⟩]).alloc _)) rfl) (seq_second w1 _ 9 #[.string ⟨#[98]⟩, .string ⟨#[99]⟩]) (by decide) (by decide)).mono ?_; rw [Hb.out]; rintro e w2 ⟨A2, c2, rfl, hc2, hs2, hu2⟩; obtain ⟨bd, rfl, hcb⟩ := seq_at0 (l := []) hs2; have hcu : w2.cell? ad = some (.string ⟨#[114, 101, 97, 100]⟩) := Upd.cell ((((Upd.refl Nix _).alloc _).alloc _).thenNix hu2) Hcu.out (by simp); have Hu2 := Lib.hid hu2; clear hu2 hs2))
    | (go_at_call 24; go_must (refine (name_any _ _ (by decide)).mono ?_; rintro e w4 ⟨rfl, rfl⟩)))
  go_ret
  exact ⟨rfl, ((Hu1.out.alloc _).alloc _).thenNix Hu2.out⟩
end Go.Proofs.YtbffpliihmggoaaDoor.M
