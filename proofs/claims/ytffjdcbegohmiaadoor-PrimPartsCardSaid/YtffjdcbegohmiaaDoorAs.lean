/-
  errors.As by contract, at a concrete target ('var x api.About; errors.As(e, &x)'): e an About: x is it; e a Kind: x is as it was. (After the worked example ToyasAs, at this program's numbers.)
-/
import Derived.Test.YtffjdcbegohmiaaDoorProg
import Derived.WalkKit
import Derived.LaidEql
import Derived.Stop.Asserts
import Derived.RowKitTokens
namespace Go.Proofs.YtffjdcbegohmiaaDoor.As
open Go Go.RowKit Go.Extern.Stop Go.Stop Go.Extern

abbrev hd (t : TypeId) : Value := .pointer (some ⟨8, t, none⟩)

theorem valueOfP (t : Addr) (w : World) : (ReflectliteValue.unpack (.iface 102 (.pointer (some t)))).run Tryd.prog w
    = .ok (.agg #[hd 102, .pointer (some ⟨w.heap.size, 0, none⟩), .int .u64 150]) (w.alloc (.cells #[.pointer (some t)] 102)) := by kernel_rfl
theorem typeP (a : Addr) (w : World) : (ReflectliteValue.methodAny (ReflectliteValue.valueError "reflectlite.Value.Type" 0) (fun t _ _ _ => ReflectliteType.toType t) #[.agg #[hd 102, .pointer (some a), .int .u64 150]]).run Tryd.prog w
    = .ok (.iface 112 (.agg #[hd 102])) w := by kernel_rfl
theorem methodKind (h : Value) (w : World) : (Go.method 314 112 (.agg #[h]) "Kind").run Tryd.prog w = .ok (131, h) w := by kernel_rfl
theorem kindP (w : World) : ((ReflectliteType.abiMethod fun t => (fun a : Nat => Value.int IntKind.u8 (a : Int)) <$> Rtype.kind t) #[hd 102]).run Tryd.prog w = .ok (.int .u8 22) w := by kernel_rfl
theorem kindA (w : World) : ((ReflectliteType.abiMethod fun t => (fun a : Nat => Value.int IntKind.u8 (a : Int)) <$> Rtype.kind t) #[hd 79]).run Tryd.prog w = .ok (.int .u8 25) w := by kernel_rfl

theorem rlm (z : Sem Value) (f : TypeId → Addr → Nat → Nat → Sem Value) (v : Value) :
    ReflectliteValue.method z f #[v] = (do match ← ReflectliteValue.parts v with | none => z | some (t, a, fl) => f t a fl (fl % 32)) := rfl
theorem partsP (a : Addr) (w : World) : (ReflectliteValue.parts (.agg #[hd 102, .pointer (some a), .int .u64 150])).run Tryd.prog w = .ok (some (102, a, 150)) w := by kernel_rfl
theorem isNilP (a p : Addr) (W : World) (ha : W.cell? a = some (.pointer (some p))) :
    (ReflectliteValue.method (ReflectliteValue.valueError "reflectlite.Value.IsNil" 0) ReflectliteValue.isNil #[.agg #[hd 102, .pointer (some a), .int .u64 150]]).run Tryd.prog W = .ok (.bool false) W := by
  rw [rlm]
  simp only [Sem.run_bind, partsP, Result.andThen]
  simp [ReflectliteValue.isNil, loadVar, isAgg, underlying, Tryd.underlying102, ha, Result.andThen]

theorem methodElem (h : Value) (w : World) : (Go.method 314 112 (.agg #[h]) "Elem").run Tryd.prog w = .ok (145, .agg #[h]) w := by kernel_rfl
theorem methodImplements (h : Value) (w : World) : (Go.method 314 112 (.agg #[h]) "Implements").run Tryd.prog w = .ok (146, .agg #[h]) w := by kernel_rfl
theorem methodAssignableTo (h : Value) (w : World) : (Go.method 314 112 (.agg #[h]) "AssignableTo").run Tryd.prog w = .ok (143, .agg #[h]) w := by kernel_rfl
theorem elemP (w : World) : (ReflectliteType.method ReflectliteType.elem #[.agg #[hd 102]]).run Tryd.prog w = .ok (.iface 112 (.agg #[hd 79])) w := by kernel_rfl
theorem implementsA (w : World) : (ReflectliteType.relation "Implements" ReflectliteType.implements_ #[.agg #[hd 79], .iface 112 (.agg #[hd 25])]).run Tryd.prog w = .ok (.bool true) w := by kernel_rfl
theorem typeOfA (v : Value) (w : World) : (ReflectliteType.typeOf #[.iface 79 v]).run Tryd.prog w = .ok (.iface 112 (.agg #[hd 79])) w := by kernel_rfl
theorem typeOfK (v : Value) (w : World) : (ReflectliteType.typeOf #[.iface 48 v]).run Tryd.prog w = .ok (.iface 112 (.agg #[hd 48])) w := by kernel_rfl
theorem assignableA (w : World) : (ReflectliteType.relation "AssignableTo" ReflectliteType.assignableTo #[.agg #[hd 79], .iface 112 (.agg #[hd 79])]).run Tryd.prog w = .ok (.bool true) w := by kernel_rfl
theorem assignableK (w : World) : (ReflectliteType.relation "AssignableTo" ReflectliteType.assignableTo #[.agg #[hd 48], .iface 112 (.agg #[hd 79])]).run Tryd.prog w = .ok (.bool false) w := by kernel_rfl
theorem valueOfA (s e : Value) (w : World) : (ReflectliteValue.unpack (.iface 79 (.agg #[s, e]))).run Tryd.prog w
    = .ok (.agg #[hd 79, .pointer (some ⟨w.heap.size, 0, none⟩), .int .u64 153]) (w.alloc (.cells #[s, e] 79)) := by kernel_rfl

theorem elemOfP (w : World) : (Rtype.elem? 102).run Tryd.prog w = .ok (some 79) w := by kernel_rfl
theorem mkA (p : Addr) (w : World) : (ReflectliteValue.mk 79 p ReflectliteValue.flagAddr).run Tryd.prog w = .ok (.agg #[hd 79, .pointer (some p), .int .u64 409]) w := by kernel_rfl
theorem elemVP (a p : Addr) (W : World) (ha : W.cell? a = some (.pointer (some p))) :
    (ReflectliteValue.method (ReflectliteValue.valueError "reflectlite.Value.Elem" 0) ReflectliteValue.elem #[.agg #[hd 102, .pointer (some a), .int .u64 150]]).run Tryd.prog W
      = .ok (.agg #[hd 79, .pointer (some p), .int .u64 409]) W := by
  rw [rlm]
  simp only [Sem.run_bind, partsP, Result.andThen]
  simp [ReflectliteValue.elem, loadVar, isAgg, underlying, Tryd.underlying102, ha, Result.andThen, elemOfP, mkA]
theorem rls (v x : Value) : ReflectliteValue.set #[v, x] = (do
    let (some (dst, a, fl), some (src, b, _)) := (← ReflectliteValue.parts v, ← ReflectliteValue.parts x)
      | unsupported (.noEntry "extern/(internal/reflectlite.Value).Set.zeroValue")
    if fl / ReflectliteValue.flagAddr % 2 == 0 then unsupported (.noEntry "extern/(internal/reflectlite.Value).Set.unaddressable")
    let val ← loadVar src b
    if ← Rtype.directlyAssignable dst src then storeVar dst a val
    else if ← Rtype.implements dst src then
      if (← Rtype.kind src) == 20 then
        match val with
        | .nilIface => unsupported (.noEntry "extern/reflectlite: a nil value of one interface type handed on as a value of another")
        | _ => storeVar dst a val
      else storeVar dst a (.iface src val)
    else panicString ("reflectlite.Set: value of type " ++ (← Rtype.spelt src) ++ " is not assignable to type " ++ (← Rtype.spelt dst))
    pure (.tuple #[])) := rfl
theorem partsAa (a : Addr) (w : World) : (ReflectliteValue.parts (.agg #[hd 79, .pointer (some a), .int .u64 409])).run Tryd.prog w = .ok (some (79, a, 409)) w := by kernel_rfl
theorem partsA (a : Addr) (w : World) : (ReflectliteValue.parts (.agg #[hd 79, .pointer (some a), .int .u64 153])).run Tryd.prog w = .ok (some (79, a, 153)) w := by kernel_rfl
theorem directA (w : World) : (Rtype.directlyAssignable 79 79).run Tryd.prog w = .ok true w := by kernel_rfl
theorem sizeA (w : World) : (sizeOf 79).run Tryd.prog w = .ok 2 w := by kernel_rfl
theorem setA (ta b : Nat) (s e u0 u1 : Value) (W : World) (hb0 : W.cell? ⟨b, 0, none⟩ = some s) (hb1 : W.cell? ⟨b, 1, none⟩ = some e) (ht0 : W.cell? ⟨ta, 0, none⟩ = some u0) (ht1 : W.cell? ⟨ta, 1, none⟩ = some u1)
    (hf : ∀ o, W.frozen? ⟨ta, o, none⟩ = false) (h1 : s.oneCell' = true) (h2 : e.oneCell' = true) :
    (ReflectliteValue.set #[.agg #[hd 79, .pointer (some ⟨ta, 0, none⟩), .int .u64 409], .agg #[hd 79, .pointer (some ⟨b, 0, none⟩), .int .u64 153]]).run Tryd.prog W
      = .ok (.tuple #[]) ((W.setCell ⟨ta, 0, none⟩ s).setCell ⟨ta, 1, none⟩ e) := by
  rw [rls]
  simp only [Sem.run_bind, partsAa, partsA, Result.andThen]
  simp [ReflectliteValue.flagAddr, loadVar, isAgg, underlying, Tryd.underlying79, loadCells, loadCellsFrom, hb0, hb1, Result.andThen, directA, storeVar, Value.cells, storeCells, Addr.add]
  rw [run_store Tryd.prog W _ s _ h1]
  simp only [ht0, hf, Bool.false_eq_true, if_false]
  rw [run_store Tryd.prog _ _ e _ h2]
  rw [World.cell?_setCell_other _ ⟨ta, 0, none⟩ ⟨ta, 1, none⟩ _ (by simp), ht1]
  have hf2 : (W.setCell ⟨ta, 0, none⟩ s).frozen? ⟨ta, 1, none⟩ = false := by rw [World.frozen?_setCell]; exact hf 1
  simp only [hf2, Bool.false_eq_true, if_false]

/-- The world behind a hit, ahead of the two stores. -/
abbrev hitW (w : World) (t : Nat) (s e : Value) : World := (((w.alloc (.cells #[.pointer (some ⟨t, 0, none⟩)] 102)).alloc (.cells #[hd 102, .pointer (some ⟨w.heap.size, 0, none⟩), .int .u64 150] 95)).alloc (.cells #[hd 102, .pointer (some ⟨w.heap.size, 0, none⟩), .int .u64 150] 95)).alloc (.cells #[s, e] 79)
abbrev missW (w : World) (t : Nat) : World := ((w.alloc (.cells #[.pointer (some ⟨t, 0, none⟩)] 102)).alloc (.cells #[hd 102, .pointer (some ⟨w.heap.size, 0, none⟩), .int .u64 150] 95)).alloc (.cells #[hd 102, .pointer (some ⟨w.heap.size, 0, none⟩), .int .u64 150] 95)

theorem pos_of_cell {w : World} {v : Value} (h : w.cell? ⟨0, 0, none⟩ = some v) : 0 < w.heap.size := by
  rcases Nat.eq_zero_or_pos w.heap.size with h0 | h'
  · simp [World.cell?, h0] at h
  · exact h'

set_option maxHeartbeats 4000000 in
theorem as_hit (t : Nat) (s e u0 u1 : Value) (w : World) (hg : w.cell? ⟨0, 0, none⟩ = some (.iface 112 (.agg #[hd 25]))) (ht0 : w.cell? ⟨t, 0, none⟩ = some u0) (ht1 : w.cell? ⟨t, 1, none⟩ = some u1) (hf : ∀ o, w.frozen? ⟨t, o, none⟩ = false) (hs : s.oneCell' = true) (he : e.oneCell' = true) :
    Calls Tryd.prog 30 #[.iface 79 (.agg #[s, e]), .iface 102 (.pointer (some ⟨t, 0, none⟩))] w fun ev w' => ev = .returned (.bool true) ∧ w' = ((hitW w t s e).setCell ⟨t, 0, none⟩ s).setCell ⟨t, 1, none⟩ e := by
  have h6 := @run_callFunc_extern Tryd.prog 51 _ (fun args => ReflectliteValue.unpack (args.getD 0 (.tuple #[]))) Tryd.func51 (by kernel_rfl) (by kernel_rfl) (by kernel_rfl) (by kernel_rfl)
  have h7 := @run_callFunc_extern Tryd.prog 52 _ (ReflectliteValue.methodAny (ReflectliteValue.valueError "reflectlite.Value.Type" 0) (fun t _ _ _ => ReflectliteType.toType t)) Tryd.func52 (by kernel_rfl) (by kernel_rfl) (by kernel_rfl) (by kernel_rfl)
  have h8 := @run_callFunc_extern Tryd.prog 53 _ (ReflectliteValue.method (ReflectliteValue.valueError "reflectlite.Value.IsNil" 0) ReflectliteValue.isNil) Tryd.func53 (by kernel_rfl) (by kernel_rfl) (by kernel_rfl) (by kernel_rfl)
  have h27 := @run_callFunc_extern Tryd.prog 131 _ (ReflectliteType.abiMethod fun t => do pure (.int .u8 (← Rtype.kind t))) Tryd.func131 (by kernel_rfl) (by kernel_rfl) (by kernel_rfl) (by kernel_rfl)
  have h37 := @run_callFunc_extern Tryd.prog 145 _ (ReflectliteType.method ReflectliteType.elem) Tryd.func145 (by kernel_rfl) (by kernel_rfl) (by kernel_rfl) (by kernel_rfl)
  have h38 := @run_callFunc_extern Tryd.prog 146 _ (ReflectliteType.relation "Implements" ReflectliteType.implements_) Tryd.func146 (by kernel_rfl) (by kernel_rfl) (by kernel_rfl) (by kernel_rfl)
  have h10 := @run_callFunc_extern Tryd.prog 45 _ ReflectliteType.typeOf Tryd.func45 (by kernel_rfl) (by kernel_rfl) (by kernel_rfl) (by kernel_rfl)
  have h35 := @run_callFunc_extern Tryd.prog 143 _ (ReflectliteType.relation "AssignableTo" ReflectliteType.assignableTo) Tryd.func143 (by kernel_rfl) (by kernel_rfl) (by kernel_rfl) (by kernel_rfl)
  have h11 := @run_callFunc_extern Tryd.prog 72 _ (ReflectliteValue.method (ReflectliteValue.valueError "reflectlite.Value.Elem" 0) ReflectliteValue.elem) Tryd.func72 (by kernel_rfl) (by kernel_rfl) (by kernel_rfl) (by kernel_rfl)
  have h12 := @run_callFunc_extern Tryd.prog 73 _ ReflectliteValue.set Tryd.func73 (by kernel_rfl) (by kernel_rfl) (by kernel_rfl) (by kernel_rfl)
  have tO := typeOfA
  have mA := methodAssignableTo
  have a25 := assignableA
  have v25 := valueOfA
  have f6 := valueOfP
  have f7 := typeP
  have mK := methodKind
  have mE := methodElem
  have mI := methodImplements
  have k27 := kindP
  have k25 := kindA
  have e27 := elemP
  have i25 := implementsA
  have n8 := isNilP ⟨w.heap.size, 0, none⟩ ⟨t, 0, none⟩ ((w.alloc (.cells #[.pointer (some ⟨t, 0, none⟩)] 102)).alloc (.cells #[hd 102, .pointer (some ⟨w.heap.size, 0, none⟩), .int .u64 150] 95)) (by simp)
  have hlt := pos_of_cell hg
  have hg2 : ((w.alloc (.cells #[.pointer (some ⟨t, 0, none⟩)] 102)).alloc (.cells #[hd 102, .pointer (some ⟨w.heap.size, 0, none⟩), .int .u64 150] 95)).cell? ⟨0, 0, none⟩ = some (.iface 112 (.agg #[hd 25])) := by
    rw [World.cell?_alloc_lt _ _ ⟨0, 0, none⟩ (by simp), World.cell?_alloc_lt _ _ ⟨0, 0, none⟩ hlt]; exact hg
  have htl : t < w.heap.size := World.block_lt_of_cell? w _ ht0
  have el := elemVP ⟨w.heap.size, 0, none⟩ ⟨t, 0, none⟩ (missW w t) (by rw [World.cell?_alloc_lt _ _ ⟨w.heap.size, 0, none⟩ (by simp; omega)]; simp)
  have old : ∀ o : Nat, (hitW w t s e).cell? ⟨t, o, none⟩ = w.cell? ⟨t, o, none⟩ := fun o => by
    rw [World.cell?_alloc_lt _ _ ⟨t, o, none⟩ (by simp; omega), World.cell?_alloc_lt _ _ ⟨t, o, none⟩ (by simp; omega), World.cell?_alloc_lt _ _ ⟨t, o, none⟩ (by simp; omega), World.cell?_alloc_lt _ _ ⟨t, o, none⟩ htl]
  have st := setA t (w.heap.size + 1 + 1 + 1) s e u0 u1 (hitW w t s e)
    (by rw [World.cell?_alloc_at _ _ _ _ (by simp)]; rfl) (by rw [World.cell?_alloc_at _ _ _ _ (by simp)]; rfl)
    (by rw [old]; exact ht0) (by rw [old]; exact ht1)
    (fun o => by rw [World.frozen?_alloc_old _ _ _ (by simp; omega), World.frozen?_alloc_old _ _ _ (by simp; omega), World.frozen?_alloc_old _ _ _ (by simp; omega), World.frozen?_alloc_old _ _ _ (Nat.ne_of_lt htl)]; exact hf o) hs he
  go_enter Tryd.func30, Tryd.ntmps30
  go_wp2
  refine wp_loop_rounds 1 ?_
  rw [rounds_succ]
  go_wp2
  go_ret
  exact ⟨rfl, rfl⟩

set_option maxHeartbeats 4000000 in
theorem as_miss (t : Nat) (x : Value) (w : World) (hg : w.cell? ⟨0, 0, none⟩ = some (.iface 112 (.agg #[hd 25]))) :
    Calls Tryd.prog 30 #[.iface 48 x, .iface 102 (.pointer (some ⟨t, 0, none⟩))] w fun ev w' => ev = .returned (.bool false) ∧ w' = missW w t := by
  have h6 := @run_callFunc_extern Tryd.prog 51 _ (fun args => ReflectliteValue.unpack (args.getD 0 (.tuple #[]))) Tryd.func51 (by kernel_rfl) (by kernel_rfl) (by kernel_rfl) (by kernel_rfl)
  have h7 := @run_callFunc_extern Tryd.prog 52 _ (ReflectliteValue.methodAny (ReflectliteValue.valueError "reflectlite.Value.Type" 0) (fun t _ _ _ => ReflectliteType.toType t)) Tryd.func52 (by kernel_rfl) (by kernel_rfl) (by kernel_rfl) (by kernel_rfl)
  have h8 := @run_callFunc_extern Tryd.prog 53 _ (ReflectliteValue.method (ReflectliteValue.valueError "reflectlite.Value.IsNil" 0) ReflectliteValue.isNil) Tryd.func53 (by kernel_rfl) (by kernel_rfl) (by kernel_rfl) (by kernel_rfl)
  have h27 := @run_callFunc_extern Tryd.prog 131 _ (ReflectliteType.abiMethod fun t => do pure (.int .u8 (← Rtype.kind t))) Tryd.func131 (by kernel_rfl) (by kernel_rfl) (by kernel_rfl) (by kernel_rfl)
  have h37 := @run_callFunc_extern Tryd.prog 145 _ (ReflectliteType.method ReflectliteType.elem) Tryd.func145 (by kernel_rfl) (by kernel_rfl) (by kernel_rfl) (by kernel_rfl)
  have h38 := @run_callFunc_extern Tryd.prog 146 _ (ReflectliteType.relation "Implements" ReflectliteType.implements_) Tryd.func146 (by kernel_rfl) (by kernel_rfl) (by kernel_rfl) (by kernel_rfl)
  have h10 := @run_callFunc_extern Tryd.prog 45 _ ReflectliteType.typeOf Tryd.func45 (by kernel_rfl) (by kernel_rfl) (by kernel_rfl) (by kernel_rfl)
  have h35 := @run_callFunc_extern Tryd.prog 143 _ (ReflectliteType.relation "AssignableTo" ReflectliteType.assignableTo) Tryd.func143 (by kernel_rfl) (by kernel_rfl) (by kernel_rfl) (by kernel_rfl)
  have tO := typeOfK
  have mA := methodAssignableTo
  have a25 := assignableK
  have f6 := valueOfP
  have f7 := typeP
  have mK := methodKind
  have mE := methodElem
  have mI := methodImplements
  have k27 := kindP
  have k25 := kindA
  have e27 := elemP
  have i25 := implementsA
  have nA : ∀ (v : Value) (xT : TypeId) (w : World), (Instr.typeAssert (.iface 48 v) xT 128 true).run Tryd.prog w = .ok (.tuple #[.nilIface, .bool false]) w := run_typeAssert_lacksB Tryd.underlying128 (by kernel_rfl) (by kernel_rfl)
  have nU : ∀ (v : Value) (xT : TypeId) (w : World), (Instr.typeAssert (.iface 48 v) xT 117 true).run Tryd.prog w = .ok (.tuple #[.nilIface, .bool false]) w := run_typeAssert_lacksB Tryd.underlying117 (by kernel_rfl) (by kernel_rfl)
  have nV : ∀ (v : Value) (xT : TypeId) (w : World), (Instr.typeAssert (.iface 48 v) xT 119 true).run Tryd.prog w = .ok (.tuple #[.nilIface, .bool false]) w := run_typeAssert_lacksB Tryd.underlying119 (by kernel_rfl) (by kernel_rfl)
  have n8 := isNilP ⟨w.heap.size, 0, none⟩ ⟨t, 0, none⟩ ((w.alloc (.cells #[.pointer (some ⟨t, 0, none⟩)] 102)).alloc (.cells #[hd 102, .pointer (some ⟨w.heap.size, 0, none⟩), .int .u64 150] 95)) (by simp)
  have hlt := pos_of_cell hg
  have hg2 : ((w.alloc (.cells #[.pointer (some ⟨t, 0, none⟩)] 102)).alloc (.cells #[hd 102, .pointer (some ⟨w.heap.size, 0, none⟩), .int .u64 150] 95)).cell? ⟨0, 0, none⟩ = some (.iface 112 (.agg #[hd 25])) := by
    rw [World.cell?_alloc_lt _ _ ⟨0, 0, none⟩ (by simp), World.cell?_alloc_lt _ _ ⟨0, 0, none⟩ hlt]; exact hg
  go_enter Tryd.func30, Tryd.ntmps30
  go_wp2
  refine wp_loop_rounds 1 ?_
  rw [rounds_succ]
  go_wp2
  go_ret
  exact ⟨rfl, rfl⟩
end Go.Proofs.YtffjdcbegohmiaaDoor.As
