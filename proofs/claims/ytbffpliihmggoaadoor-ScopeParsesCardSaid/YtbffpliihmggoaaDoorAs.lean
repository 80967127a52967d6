/- errors.As at an error number and a place for one; the number of an error. After the guide's toy 'toyas'. -/
import Derived.Test.YtbffpliihmggoaaDoorProg
import Derived.Test.YtbffpliihmggoaaDoorBase
import Derived.Stop.Asserts
import Derived.RowKitTokens
set_option linter.unusedVariables false
set_option linter.unusedSimpArgs false
namespace Go.Proofs.YtbffpliihmggoaaDoor.M
open Go Go.RowKit Go.Extern.Stop Go.Stop Go.Extern

theorem as_nil (t : Value) (w : World) : Calls Tryd.prog 37 #[.nilIface, t] w fun e w' => e = .returned (.bool false) ∧ w = w' := by
  go_enter Tryd.func37, Tryd.ntmps37
  go_wp2
  go_ret
  exact ⟨rfl, rfl⟩

theorem valueOfP (t : Addr) (w : World) : (ReflectliteValue.unpack (.iface 47 (.pointer (some t)))).run Tryd.prog w
    = .ok (.agg #[.pointer (some ⟨4, 47, none⟩), .pointer (some ⟨w.heap.size, 0, none⟩), .int .u64 150]) (w.alloc (.cells #[.pointer (some t)] 47)) := by kernel_rfl
theorem typeP (a : Addr) (w : World) : (ReflectliteValue.methodAny (ReflectliteValue.valueError "reflectlite.Value.Type" 0) (fun t _ _ _ => ReflectliteType.toType t) #[.agg #[.pointer (some ⟨4, 47, none⟩), .pointer (some a), .int .u64 150]]).run Tryd.prog w
    = .ok (.iface 81 (.agg #[.pointer (some ⟨4, 47, none⟩)])) w := by kernel_rfl
theorem methodKind (h : Value) (w : World) : (Go.method 256 81 (.agg #[h]) "Kind").run Tryd.prog w = .ok (105, h) w := by kernel_rfl
theorem kindP (w : World) : ((ReflectliteType.abiMethod fun t => (fun a : Nat => Value.int IntKind.u8 (a : Int)) <$> Rtype.kind t) #[.pointer (some ⟨4, 47, none⟩)]).run Tryd.prog w = .ok (.int .u8 22) w := by kernel_rfl
theorem kindE (w : World) : ((ReflectliteType.abiMethod fun t => (fun a : Nat => Value.int IntKind.u8 (a : Int)) <$> Rtype.kind t) #[.pointer (some ⟨4, 41, none⟩)]).run Tryd.prog w = .ok (.int .u8 2) w := by kernel_rfl
theorem rlm (z : Sem Value) (f : TypeId → Addr → Nat → Nat → Sem Value) (v : Value) :
    ReflectliteValue.method z f #[v] = (do match ← ReflectliteValue.parts v with | none => z | some (t, a, fl) => f t a fl (fl % 32)) := rfl
theorem partsP (a : Addr) (w : World) : (ReflectliteValue.parts (.agg #[.pointer (some ⟨4, 47, none⟩), .pointer (some a), .int .u64 150])).run Tryd.prog w = .ok (some (47, a, 150)) w := by kernel_rfl
theorem isNilP (a p : Addr) (W : World) (ha : W.cell? a = some (.pointer (some p))) :
    (ReflectliteValue.method (ReflectliteValue.valueError "reflectlite.Value.IsNil" 0) ReflectliteValue.isNil #[.agg #[.pointer (some ⟨4, 47, none⟩), .pointer (some a), .int .u64 150]]).run Tryd.prog W = .ok (.bool false) W := by
  rw [rlm]
  simp only [Sem.run_bind, partsP, Result.andThen]
  simp [ReflectliteValue.isNil, loadVar, isAgg, underlying, Tryd.underlying47, ha, Result.andThen]
theorem methodElem (h : Value) (w : World) : (Go.method 256 81 (.agg #[h]) "Elem").run Tryd.prog w = .ok (116, .agg #[h]) w := by kernel_rfl
theorem methodImplements (h : Value) (w : World) : (Go.method 256 81 (.agg #[h]) "Implements").run Tryd.prog w = .ok (117, .agg #[h]) w := by kernel_rfl
theorem methodAssignableTo (h : Value) (w : World) : (Go.method 256 81 (.agg #[h]) "AssignableTo").run Tryd.prog w = .ok (114, .agg #[h]) w := by kernel_rfl
theorem elemP (w : World) : (ReflectliteType.method ReflectliteType.elem #[.agg #[.pointer (some ⟨4, 47, none⟩)]]).run Tryd.prog w = .ok (.iface 81 (.agg #[.pointer (some ⟨4, 41, none⟩)])) w := by kernel_rfl
theorem implementsE (w : World) : (ReflectliteType.relation "Implements" ReflectliteType.implements_ #[.agg #[.pointer (some ⟨4, 41, none⟩)], .iface 81 (.agg #[.pointer (some ⟨4, 30, none⟩)])]).run Tryd.prog w = .ok (.bool true) w := by kernel_rfl
theorem typeOfE (v : Value) (w : World) : (ReflectliteType.typeOf #[.iface 41 v]).run Tryd.prog w = .ok (.iface 81 (.agg #[.pointer (some ⟨4, 41, none⟩)])) w := by kernel_rfl
theorem assignableE (w : World) : (ReflectliteType.relation "AssignableTo" ReflectliteType.assignableTo #[.agg #[.pointer (some ⟨4, 41, none⟩)], .iface 81 (.agg #[.pointer (some ⟨4, 41, none⟩)])]).run Tryd.prog w = .ok (.bool true) w := by kernel_rfl
theorem valueOfE (n : Int) (w : World) : (ReflectliteValue.unpack (.iface 41 (.int .i64 n))).run Tryd.prog w
    = .ok (.agg #[.pointer (some ⟨4, 41, none⟩), .pointer (some ⟨w.heap.size, 0, none⟩), .int .u64 130]) (w.alloc (.cells #[.int .i64 n] 41)) := by kernel_rfl
theorem elemOfP (w : World) : (Rtype.elem? 47).run Tryd.prog w = .ok (some 41) w := by kernel_rfl
theorem mkE (p : Addr) (w : World) : (ReflectliteValue.mk 41 p ReflectliteValue.flagAddr).run Tryd.prog w = .ok (.agg #[.pointer (some ⟨4, 41, none⟩), .pointer (some p), .int .u64 386]) w := by kernel_rfl
theorem elemVP (a p : Addr) (W : World) (ha : W.cell? a = some (.pointer (some p))) :
    (ReflectliteValue.method (ReflectliteValue.valueError "reflectlite.Value.Elem" 0) ReflectliteValue.elem #[.agg #[.pointer (some ⟨4, 47, none⟩), .pointer (some a), .int .u64 150]]).run Tryd.prog W
      = .ok (.agg #[.pointer (some ⟨4, 41, none⟩), .pointer (some p), .int .u64 386]) W := by
  rw [rlm]
  simp only [Sem.run_bind, partsP, Result.andThen]
  simp [ReflectliteValue.elem, loadVar, isAgg, underlying, Tryd.underlying47, ha, Result.andThen, elemOfP, mkE]
theorem rls (v x : Value) : ReflectliteValue.set #[v, x] = (do
    let (some (dst, a, fl), some (src, b, _)) := (← ReflectliteValue.parts v, ← ReflectliteValue.parts x)
      | unsupported (.noEntry "extern/(internal/reflectlite.Value).Set.zeroValue")
    if fl / ReflectliteValue.flagAddr % 2 == 0 then unsupported (.noEntry "extern/(internal/reflectlite.Value).Set.unaddressable")
    let val ← loadVar src b
    if ← Rtype.directlyAssignable dst src then storeVar dst a val
    else if ← Rtype.implements dst src then
      if (← Rtype.kind src) == 20 then
        match val with
        | .nilIface => unsupported (.noEntry "extern/reflectlite: a nil value of one interface type handed on as a value of another")
        | _ => storeVar dst a val
      else storeVar dst a (.iface src val)
    else panicString ("reflectlite.Set: value of type " ++ (← Rtype.spelt src) ++ " is not assignable to type " ++ (← Rtype.spelt dst))
    pure (.tuple #[])) := rfl
theorem partsEa (a : Addr) (w : World) : (ReflectliteValue.parts (.agg #[.pointer (some ⟨4, 41, none⟩), .pointer (some a), .int .u64 386])).run Tryd.prog w = .ok (some (41, a, 386)) w := by kernel_rfl
theorem partsE (a : Addr) (w : World) : (ReflectliteValue.parts (.agg #[.pointer (some ⟨4, 41, none⟩), .pointer (some a), .int .u64 130])).run Tryd.prog w = .ok (some (41, a, 130)) w := by kernel_rfl
theorem directE (w : World) : (Rtype.directlyAssignable 41 41).run Tryd.prog w = .ok true w := by kernel_rfl
theorem setE (ta b : Addr) (n : Int) (old : Value) (W : World) (hb : W.cell? b = some (.int .i64 n)) (ht : W.cell? ta = some old) (hf : W.frozen? ta = false) :
    (ReflectliteValue.set #[.agg #[.pointer (some ⟨4, 41, none⟩), .pointer (some ta), .int .u64 386], .agg #[.pointer (some ⟨4, 41, none⟩), .pointer (some b), .int .u64 130]]).run Tryd.prog W
      = .ok (.tuple #[]) (W.setCell ta (.int .i64 n)) := by
  rw [rls]
  simp only [Sem.run_bind, partsEa, partsE, Result.andThen]
  simp [ReflectliteValue.flagAddr, loadVar, isAgg, underlying, Tryd.underlying41, hb, Result.andThen, directE, storeVar, Value.cells, storeCells, Addr.add]
  rw [run_store Tryd.prog W ta _ _ (by rfl)]
  simp [ht, hf]

set_option maxHeartbeats 4000000 in
theorem as_hit (n : Int) (t : Addr) (old : Value) (w : World) (hg : w.cell? ⟨0, 0, none⟩ = some (.iface 81 (.agg #[.pointer (some ⟨4, 30, none⟩)]))) (ht0 : w.cell? t = some old) (hf0 : w.frozen? t = false) :
    Calls Tryd.prog 37 #[.iface 41 (.int .i64 n), .iface 47 (.pointer (some t))] w fun ev w' => ev = .returned (.bool true) ∧ w' = ((((w.alloc (.cells #[.pointer (some t)] 47)).alloc (.cells #[.pointer (some ⟨4, 47, none⟩), .pointer (some ⟨w.heap.size, 0, none⟩), .int .u64 150] 65)).alloc (.cells #[.pointer (some ⟨4, 47, none⟩), .pointer (some ⟨w.heap.size, 0, none⟩), .int .u64 150] 65)).alloc (.cells #[.int .i64 n] 41)).setCell t (.int .i64 n) := by
  have h6 := @run_callFunc_extern Tryd.prog 46 _ (fun args => ReflectliteValue.unpack (args.getD 0 (.tuple #[]))) Tryd.func46 (by kernel_rfl) (by kernel_rfl) (by kernel_rfl) (by kernel_rfl)
  have h7 := @run_callFunc_extern Tryd.prog 47 _ (ReflectliteValue.methodAny (ReflectliteValue.valueError "reflectlite.Value.Type" 0) (fun t _ _ _ => ReflectliteType.toType t)) Tryd.func47 (by kernel_rfl) (by kernel_rfl) (by kernel_rfl) (by kernel_rfl)
  have h8 := @run_callFunc_extern Tryd.prog 48 _ (ReflectliteValue.method (ReflectliteValue.valueError "reflectlite.Value.IsNil" 0) ReflectliteValue.isNil) Tryd.func48 (by kernel_rfl) (by kernel_rfl) (by kernel_rfl) (by kernel_rfl)
  have h27 := @run_callFunc_extern Tryd.prog 105 _ (ReflectliteType.abiMethod fun t => do pure (.int .u8 (← Rtype.kind t))) Tryd.func105 (by kernel_rfl) (by kernel_rfl) (by kernel_rfl) (by kernel_rfl)
  have h37 := @run_callFunc_extern Tryd.prog 116 _ (ReflectliteType.method ReflectliteType.elem) Tryd.func116 (by kernel_rfl) (by kernel_rfl) (by kernel_rfl) (by kernel_rfl)
  have h38 := @run_callFunc_extern Tryd.prog 117 _ (ReflectliteType.relation "Implements" ReflectliteType.implements_) Tryd.func117 (by kernel_rfl) (by kernel_rfl) (by kernel_rfl) (by kernel_rfl)
  have h10 := @run_callFunc_extern Tryd.prog 57 _ ReflectliteType.typeOf Tryd.func57 (by kernel_rfl) (by kernel_rfl) (by kernel_rfl) (by kernel_rfl)
  have h35 := @run_callFunc_extern Tryd.prog 114 _ (ReflectliteType.relation "AssignableTo" ReflectliteType.assignableTo) Tryd.func114 (by kernel_rfl) (by kernel_rfl) (by kernel_rfl) (by kernel_rfl)
  have h11 := @run_callFunc_extern Tryd.prog 58 _ (ReflectliteValue.method (ReflectliteValue.valueError "reflectlite.Value.Elem" 0) ReflectliteValue.elem) Tryd.func58 (by kernel_rfl) (by kernel_rfl) (by kernel_rfl) (by kernel_rfl)
  have h12 := @run_callFunc_extern Tryd.prog 59 _ ReflectliteValue.set Tryd.func59 (by kernel_rfl) (by kernel_rfl) (by kernel_rfl) (by kernel_rfl)
  have tO := typeOfE
  have mA := methodAssignableTo
  have a25 := assignableE
  have v25 := valueOfE
  have f6 := valueOfP
  have f7 := typeP
  have mK := methodKind
  have mE := methodElem
  have mI := methodImplements
  have k27 := kindP
  have k25 := kindE
  have e27 := elemP
  have i25 := implementsE
  have n8 := isNilP ⟨w.heap.size, 0, none⟩ t ((w.alloc (.cells #[.pointer (some t)] 47)).alloc (.cells #[.pointer (some ⟨4, 47, none⟩), .pointer (some ⟨w.heap.size, 0, none⟩), .int .u64 150] 65)) (by simp)
  have hlt : 0 < w.heap.size := World.block_lt_of_cell? w ⟨0, 0, none⟩ hg
  have hg2 : ((w.alloc (.cells #[.pointer (some t)] 47)).alloc (.cells #[.pointer (some ⟨4, 47, none⟩), .pointer (some ⟨w.heap.size, 0, none⟩), .int .u64 150] 65)).cell? ⟨0, 0, none⟩ = some (.iface 81 (.agg #[.pointer (some ⟨4, 30, none⟩)])) := by
    rw [World.cell?_alloc_lt _ _ ⟨0, 0, none⟩ (by simp), World.cell?_alloc_lt _ _ ⟨0, 0, none⟩ hlt]; exact hg
  have htl : t.block < w.heap.size := World.block_lt_of_cell? w t ht0
  have el := elemVP ⟨w.heap.size, 0, none⟩ t (((w.alloc (.cells #[.pointer (some t)] 47)).alloc (.cells #[.pointer (some ⟨4, 47, none⟩), .pointer (some ⟨w.heap.size, 0, none⟩), .int .u64 150] 65)).alloc (.cells #[.pointer (some ⟨4, 47, none⟩), .pointer (some ⟨w.heap.size, 0, none⟩), .int .u64 150] 65)) (by rw [World.cell?_alloc_lt _ _ ⟨w.heap.size, 0, none⟩ (by simp; omega)]; simp)
  have st := setE t ⟨w.heap.size + 1 + 1 + 1, 0, none⟩ n old ((((w.alloc (.cells #[.pointer (some t)] 47)).alloc (.cells #[.pointer (some ⟨4, 47, none⟩), .pointer (some ⟨w.heap.size, 0, none⟩), .int .u64 150] 65)).alloc (.cells #[.pointer (some ⟨4, 47, none⟩), .pointer (some ⟨w.heap.size, 0, none⟩), .int .u64 150] 65)).alloc (.cells #[.int .i64 n] 41))
    (by rw [World.cell?_alloc_at _ _ _ _ (by simp)]; rfl)
    (by rw [World.cell?_alloc_lt _ _ t (by simp; omega), World.cell?_alloc_lt _ _ t (by simp; omega), World.cell?_alloc_lt _ _ t (by simp; omega), World.cell?_alloc_lt _ _ t htl]; exact ht0)
    (by rw [World.frozen?_alloc_old _ _ t (by simp; omega), World.frozen?_alloc_old _ _ t (by simp; omega), World.frozen?_alloc_old _ _ t (by simp; omega), World.frozen?_alloc_old _ _ t (Nat.ne_of_lt htl)]; exact hf0)
  go_enter Tryd.func37, Tryd.ntmps37
  go_wp2
  refine wp_loop_rounds 1 ?_
  rw [rounds_succ]
  go_wp2
  go_ret
  exact ⟨rfl, rfl⟩

/-- The handle of the type 'error', laid at the start. -/
def Laid (w : World) : Prop := w.cell? ⟨0, 0, none⟩ = some (.iface 81 (.agg #[.pointer (some ⟨4, 30, none⟩)]))
theorem Laid.upd {F : Nat → Prop} {w w' : World} (h : Laid w) (hu : Upd F w w') (hf : ¬ F 0) : Laid w' := Upd.cell (p := ⟨0, 0, none⟩) hu h hf

theorem num_nil (w : World) : Calls Tryd.prog 23 #[.nilIface] w fun e w' => e = .returned (.int .i64 0) ∧ w = w' := by
  go_enter Tryd.func23, Tryd.ntmps23
  go_wp2
  go_ret
  exact ⟨rfl, rfl⟩

set_option maxHeartbeats 4000000 in
theorem num_errno (n : Int) (w : World) (hl : Laid w) : Calls Tryd.prog 23 #[.iface 41 (.int .i64 n)] w fun e w' => e = .returned (.int .i64 n) ∧ Upd Nix w w' := by
  have hlt : 0 < w.heap.size := World.block_lt_of_cell? w ⟨0, 0, none⟩ hl
  have hgA : (w.alloc (.cells #[.int .i64 0] 41)).cell? ⟨0, 0, none⟩ = some (.iface 81 (.agg #[.pointer (some ⟨4, 30, none⟩)])) := by
    rw [World.cell?_alloc_lt _ _ ⟨0, 0, none⟩ hlt]; exact hl
  have Hl := Lib.hid hl
  clear hl
  have htA : (w.alloc (.cells #[.int .i64 0] 41)).cell? ⟨w.heap.size, 0, none⟩ = some (.int .i64 0) := by simp
  have hfA : (w.alloc (.cells #[.int .i64 0] 41)).frozen? ⟨w.heap.size, 0, none⟩ = false := by simp
  go_enter Tryd.func23, Tryd.ntmps23
  go_wp2_with (first | (go_at_call 37; refine (as_hit n _ (.int .i64 0) _ hgA htA hfA).mono ?_; rintro e w' ⟨rfl, rfl⟩))
  go_ret
  exact ⟨rfl, ((((((Upd.refl _ _).alloc _).alloc _).alloc _).alloc _).alloc _)⟩
end Go.Proofs.YtbffpliihmggoaaDoor.M
