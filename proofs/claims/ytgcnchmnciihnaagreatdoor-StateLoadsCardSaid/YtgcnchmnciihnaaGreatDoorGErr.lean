/-
  HERE: an error of the project's own, as a value.
  PROVED HERE: plain.Told at nil and at the project's own errors: the number of the error. errors.As is walked (after the guide's worked example for a concrete target).
  PROVED HERE: what a row that lists the library's own variable gives a walk; a world that meets the list.
-/
import Derived.Test.YtgcnchmnciihnaaGreatDoorRows
import Derived.Test.YtgcnchmnciihnaaGreatDoorGLex
import Derived.WalkKit
import Derived.LaidEql
import Derived.Stop.Asserts
import Derived.RowKitTokens
import Derived.ChangeSame
import Derived.ChangeVars
import Derived.JoinedOf
import Derived.RowKit
import Derived.LaidLaws
import Derived.LaidHandle
import Derived.Stop.Joined
namespace Go.Proofs.YtgcnchmnciihnaaGreatDoor
set_option linter.unusedSimpArgs false
set_option linter.unusedVariables false
/-- an error of the project's own: none, or its number. -/
def errVal (c : Int) : Value := if c = 0 then .nilIface else .iface 39 (.int .i64 c)
end Go.Proofs.YtgcnchmnciihnaaGreatDoor
namespace Go.Proofs.YtgcnchmnciihnaaGreatDoor
set_option linter.unusedSimpArgs false
set_option linter.unusedVariables false
open Go.RowKit Go.Extern.Stop Go.Stop Go.Extern

/-- errors.As(nil, target). -/
theorem as_nil (t : Value) (w : World) : Calls Tryz.prog 21 #[.nilIface, t] w fun e w' => e = .returned (.bool false) ∧ w' = w := by
  go_enter Tryz.func21, Tryz.ntmps21
  go_wp2
  go_ret
  exact ⟨rfl, rfl⟩

theorem valueOfP (t : Addr) (w : World) : (ReflectliteValue.unpack (.iface 71 (.pointer (some t)))).run Tryz.prog w
    = .ok (.agg #[.pointer (some ⟨5, 71, none⟩), .pointer (some ⟨w.heap.size, 0, none⟩), .int .u64 150]) (w.alloc (.cells #[.pointer (some t)] 71)) := by kernel_rfl
theorem typeP (a : Addr) (w : World) : (ReflectliteValue.methodAny (ReflectliteValue.valueError "reflectlite.Value.Type" 0) (fun t _ _ _ => ReflectliteType.toType t) #[.agg #[.pointer (some ⟨5, 71, none⟩), .pointer (some a), .int .u64 150]]).run Tryz.prog w
    = .ok (.iface 131 (.agg #[.pointer (some ⟨5, 71, none⟩)])) w := by kernel_rfl
theorem methodKind (h : Value) (w : World) : (Go.method 323 131 (.agg #[h]) "Kind").run Tryz.prog w = .ok (137, h) w := by kernel_rfl
theorem kindToldP (w : World) : ((ReflectliteType.abiMethod fun t => (fun a : Nat => Value.int IntKind.u8 (a : Int)) <$> Rtype.kind t) #[.pointer (some ⟨5, 71, none⟩)]).run Tryz.prog w = .ok (.int .u8 22) w := by kernel_rfl
theorem kindE (w : World) : ((ReflectliteType.abiMethod fun t => (fun a : Nat => Value.int IntKind.u8 (a : Int)) <$> Rtype.kind t) #[.pointer (some ⟨5, 39, none⟩)]).run Tryz.prog w = .ok (.int .u8 2) w := by kernel_rfl

theorem rlm (z : Sem Value) (f : TypeId → Addr → Nat → Nat → Sem Value) (v : Value) :
    ReflectliteValue.method z f #[v] = (do match ← ReflectliteValue.parts v with | none => z | some (t, a, fl) => f t a fl (fl % 32)) := rfl
theorem partsP (a : Addr) (w : World) : (ReflectliteValue.parts (.agg #[.pointer (some ⟨5, 71, none⟩), .pointer (some a), .int .u64 150])).run Tryz.prog w = .ok (some (71, a, 150)) w := by kernel_rfl
theorem isNilP (a p : Addr) (W : World) (ha : W.cell? a = some (.pointer (some p))) :
    (ReflectliteValue.method (ReflectliteValue.valueError "reflectlite.Value.IsNil" 0) ReflectliteValue.isNil #[.agg #[.pointer (some ⟨5, 71, none⟩), .pointer (some a), .int .u64 150]]).run Tryz.prog W = .ok (.bool false) W := by
  rw [rlm]
  simp only [Sem.run_bind, partsP, Result.andThen]
  simp [ReflectliteValue.isNil, loadVar, isAgg, underlying, Tryz.underlying71, ha, Result.andThen]

theorem methodElem (h : Value) (w : World) : (Go.method 323 131 (.agg #[h]) "Elem").run Tryz.prog w = .ok (147, .agg #[h]) w := by kernel_rfl
theorem methodImplements (h : Value) (w : World) : (Go.method 323 131 (.agg #[h]) "Implements").run Tryz.prog w = .ok (148, .agg #[h]) w := by kernel_rfl
theorem methodAssignableTo (h : Value) (w : World) : (Go.method 323 131 (.agg #[h]) "AssignableTo").run Tryz.prog w = .ok (145, .agg #[h]) w := by kernel_rfl
theorem elemP (w : World) : (ReflectliteType.method ReflectliteType.elem #[.agg #[.pointer (some ⟨5, 71, none⟩)]]).run Tryz.prog w = .ok (.iface 131 (.agg #[.pointer (some ⟨5, 39, none⟩)])) w := by kernel_rfl
theorem implementsE (w : World) : (ReflectliteType.relation "Implements" ReflectliteType.implements_ #[.agg #[.pointer (some ⟨5, 39, none⟩)], .iface 131 (.agg #[.pointer (some ⟨5, 25, none⟩)])]).run Tryz.prog w = .ok (.bool true) w := by kernel_rfl
theorem typeOfE (v : Value) (w : World) : (ReflectliteType.typeOf #[.iface 39 v]).run Tryz.prog w = .ok (.iface 131 (.agg #[.pointer (some ⟨5, 39, none⟩)])) w := by kernel_rfl
theorem assignableE (w : World) : (ReflectliteType.relation "AssignableTo" ReflectliteType.assignableTo #[.agg #[.pointer (some ⟨5, 39, none⟩)], .iface 131 (.agg #[.pointer (some ⟨5, 39, none⟩)])]).run Tryz.prog w = .ok (.bool true) w := by kernel_rfl
theorem valueOfE (c : Int) (w : World) : (ReflectliteValue.unpack (.iface 39 (.int .i64 c))).run Tryz.prog w
    = .ok (.agg #[.pointer (some ⟨5, 39, none⟩), .pointer (some ⟨w.heap.size, 0, none⟩), .int .u64 130]) (w.alloc (.cells #[.int .i64 c] 39)) := by kernel_rfl

theorem elemOfP (w : World) : (Rtype.elem? 71).run Tryz.prog w = .ok (some 39) w := by kernel_rfl
theorem mkE (p : Addr) (w : World) : (ReflectliteValue.mk 39 p ReflectliteValue.flagAddr).run Tryz.prog w = .ok (.agg #[.pointer (some ⟨5, 39, none⟩), .pointer (some p), .int .u64 386]) w := by kernel_rfl
theorem elemVP (a p : Addr) (W : World) (ha : W.cell? a = some (.pointer (some p))) :
    (ReflectliteValue.method (ReflectliteValue.valueError "reflectlite.Value.Elem" 0) ReflectliteValue.elem #[.agg #[.pointer (some ⟨5, 71, none⟩), .pointer (some a), .int .u64 150]]).run Tryz.prog W
      = .ok (.agg #[.pointer (some ⟨5, 39, none⟩), .pointer (some p), .int .u64 386]) W := by
  rw [rlm]
  simp only [Sem.run_bind, partsP, Result.andThen]
  simp [ReflectliteValue.elem, loadVar, isAgg, underlying, Tryz.underlying71, ha, Result.andThen, elemOfP, mkE]
theorem rls (v x : Value) : ReflectliteValue.set #[v, x] = (do
    let (some (dst, a, fl), some (src, b, _)) := (← ReflectliteValue.parts v, ← ReflectliteValue.parts x)
      | unsupported (.noEntry "extern/(internal/reflectlite.Value).Set.zeroValue")
    if fl / ReflectliteValue.flagAddr % 2 == 0 then unsupported (.noEntry "extern/(internal/reflectlite.Value).Set.unaddressable")
    let val ← loadVar src b
    if ← Rtype.directlyAssignable dst src then storeVar dst a val
    else if ← Rtype.implements dst src then
      if (← Rtype.kind src) == 20 then
        match val with
        | .nilIface => unsupported (.noEntry "extern/reflectlite: a nil value of one interface type handed on as a value of another")
        | _ => storeVar dst a val
      else storeVar dst a (.iface src val)
    else panicString ("reflectlite.Set: value of type " ++ (← Rtype.spelt src) ++ " is not assignable to type " ++ (← Rtype.spelt dst))
    pure (.tuple #[])) := rfl
theorem partsEa (a : Addr) (w : World) : (ReflectliteValue.parts (.agg #[.pointer (some ⟨5, 39, none⟩), .pointer (some a), .int .u64 386])).run Tryz.prog w = .ok (some (39, a, 386)) w := by kernel_rfl
theorem partsE (a : Addr) (w : World) : (ReflectliteValue.parts (.agg #[.pointer (some ⟨5, 39, none⟩), .pointer (some a), .int .u64 130])).run Tryz.prog w = .ok (some (39, a, 130)) w := by kernel_rfl
theorem directE (w : World) : (Rtype.directlyAssignable 39 39).run Tryz.prog w = .ok true w := by kernel_rfl
theorem setE (ta b : Addr) (c : Int) (old : Value) (W : World) (hb : W.cell? b = some (.int .i64 c)) (ht : W.cell? ta = some old) (hf : W.frozen? ta = false) :
    (ReflectliteValue.set #[.agg #[.pointer (some ⟨5, 39, none⟩), .pointer (some ta), .int .u64 386], .agg #[.pointer (some ⟨5, 39, none⟩), .pointer (some b), .int .u64 130]]).run Tryz.prog W
      = .ok (.tuple #[]) (W.setCell ta (.int .i64 c)) := by
  rw [rls]
  simp only [Sem.run_bind, partsEa, partsE, Result.andThen]
  simp [ReflectliteValue.flagAddr, loadVar, isAgg, underlying, Tryz.underlying39, hb, Result.andThen, directE, storeVar, Value.cells, storeCells, Addr.add]
  rw [run_store Tryz.prog W ta _ _ (by rfl)]
  simp [ht, hf]

/-- the library's own variable, as the program lays it. -/
def Laid (w : World) : Prop := w.cell? ⟨0, 0, none⟩ = some (.iface 131 (.agg #[.pointer (some ⟨5, 25, none⟩)]))
theorem Laid.later {w w' : World} (h : Laid w) (k : Later w w') : Laid w' := k.cell h

set_option maxHeartbeats 4000000 in
theorem as_hit (c : Int) (t : Addr) (old : Value) (w : World) (hg : Laid w) (ht0 : w.cell? t = some old) (hf0 : w.frozen? t = false) :
    Calls Tryz.prog 21 #[.iface 39 (.int .i64 c), .iface 71 (.pointer (some t))] w fun ev w' => ev = .returned (.bool true) ∧ w' = ((((w.alloc (.cells #[.pointer (some t)] 71)).alloc (.cells #[.pointer (some ⟨5, 71, none⟩), .pointer (some ⟨w.heap.size, 0, none⟩), .int .u64 150] 95)).alloc (.cells #[.pointer (some ⟨5, 71, none⟩), .pointer (some ⟨w.heap.size, 0, none⟩), .int .u64 150] 95)).alloc (.cells #[.int .i64 c] 39)).setCell t (.int .i64 c) := by
  have h6 := @run_callFunc_extern Tryz.prog 36 _ (fun args => ReflectliteValue.unpack (args.getD 0 (.tuple #[]))) Tryz.func36 (by kernel_rfl) (by kernel_rfl) (by kernel_rfl) (by kernel_rfl)
  have h7 := @run_callFunc_extern Tryz.prog 37 _ (ReflectliteValue.methodAny (ReflectliteValue.valueError "reflectlite.Value.Type" 0) (fun t _ _ _ => ReflectliteType.toType t)) Tryz.func37 (by kernel_rfl) (by kernel_rfl) (by kernel_rfl) (by kernel_rfl)
  have h8 := @run_callFunc_extern Tryz.prog 38 _ (ReflectliteValue.method (ReflectliteValue.valueError "reflectlite.Value.IsNil" 0) ReflectliteValue.isNil) Tryz.func38 (by kernel_rfl) (by kernel_rfl) (by kernel_rfl) (by kernel_rfl)
  have h27 := @run_callFunc_extern Tryz.prog 137 _ (ReflectliteType.abiMethod fun t => do pure (.int .u8 (← Rtype.kind t))) Tryz.func137 (by kernel_rfl) (by kernel_rfl) (by kernel_rfl) (by kernel_rfl)
  have h37 := @run_callFunc_extern Tryz.prog 147 _ (ReflectliteType.method ReflectliteType.elem) Tryz.func147 (by kernel_rfl) (by kernel_rfl) (by kernel_rfl) (by kernel_rfl)
  have h38 := @run_callFunc_extern Tryz.prog 148 _ (ReflectliteType.relation "Implements" ReflectliteType.implements_) Tryz.func148 (by kernel_rfl) (by kernel_rfl) (by kernel_rfl) (by kernel_rfl)
  have h10 := @run_callFunc_extern Tryz.prog 65 _ ReflectliteType.typeOf Tryz.func65 (by kernel_rfl) (by kernel_rfl) (by kernel_rfl) (by kernel_rfl)
  have h35 := @run_callFunc_extern Tryz.prog 145 _ (ReflectliteType.relation "AssignableTo" ReflectliteType.assignableTo) Tryz.func145 (by kernel_rfl) (by kernel_rfl) (by kernel_rfl) (by kernel_rfl)
  have h11 := @run_callFunc_extern Tryz.prog 66 _ (ReflectliteValue.method (ReflectliteValue.valueError "reflectlite.Value.Elem" 0) ReflectliteValue.elem) Tryz.func66 (by kernel_rfl) (by kernel_rfl) (by kernel_rfl) (by kernel_rfl)
  have h12 := @run_callFunc_extern Tryz.prog 67 _ ReflectliteValue.set Tryz.func67 (by kernel_rfl) (by kernel_rfl) (by kernel_rfl) (by kernel_rfl)
  have tO := typeOfE
  have mA := methodAssignableTo
  have a25 := assignableE
  have v25 := valueOfE c
  have f6 := valueOfP
  have f7 := typeP
  have mK := methodKind
  have mE := methodElem
  have mI := methodImplements
  have k27 := kindToldP
  have k25 := kindE
  have e27 := elemP
  have i25 := implementsE
  unfold Laid at hg
  have n8 := isNilP ⟨w.heap.size, 0, none⟩ t ((w.alloc (.cells #[.pointer (some t)] 71)).alloc (.cells #[.pointer (some ⟨5, 71, none⟩), .pointer (some ⟨w.heap.size, 0, none⟩), .int .u64 150] 95)) (by simp)
  have hlt : 0 < w.heap.size := cell_lt hg
  have hg2 : ((w.alloc (.cells #[.pointer (some t)] 71)).alloc (.cells #[.pointer (some ⟨5, 71, none⟩), .pointer (some ⟨w.heap.size, 0, none⟩), .int .u64 150] 95)).cell? ⟨0, 0, none⟩ = some (.iface 131 (.agg #[.pointer (some ⟨5, 25, none⟩)])) := by
    rw [World.cell?_alloc_lt _ _ ⟨0, 0, none⟩ (by first | (simp; done) | (simp; omega)), World.cell?_alloc_lt _ _ ⟨0, 0, none⟩ hlt]; exact hg
  have htl : t.block < w.heap.size := cell_lt ht0
  have el := elemVP ⟨w.heap.size, 0, none⟩ t (((w.alloc (.cells #[.pointer (some t)] 71)).alloc (.cells #[.pointer (some ⟨5, 71, none⟩), .pointer (some ⟨w.heap.size, 0, none⟩), .int .u64 150] 95)).alloc (.cells #[.pointer (some ⟨5, 71, none⟩), .pointer (some ⟨w.heap.size, 0, none⟩), .int .u64 150] 95)) (by rw [World.cell?_alloc_lt _ _ ⟨w.heap.size, 0, none⟩ (by simp; omega)]; simp)
  have st := setE t ⟨w.heap.size + 1 + 1 + 1, 0, none⟩ c old ((((w.alloc (.cells #[.pointer (some t)] 71)).alloc (.cells #[.pointer (some ⟨5, 71, none⟩), .pointer (some ⟨w.heap.size, 0, none⟩), .int .u64 150] 95)).alloc (.cells #[.pointer (some ⟨5, 71, none⟩), .pointer (some ⟨w.heap.size, 0, none⟩), .int .u64 150] 95)).alloc (.cells #[.int .i64 c] 39))
    (by rw [World.cell?_alloc_at _ _ _ _ (by simp)]; rfl)
    (by rw [World.cell?_alloc_lt _ _ t (by simp; omega), World.cell?_alloc_lt _ _ t (by simp; omega), World.cell?_alloc_lt _ _ t (by simp; omega), World.cell?_alloc_lt _ _ t htl]; exact ht0)
    (by rw [World.frozen?_alloc_old _ _ t (by simp; omega), World.frozen?_alloc_old _ _ t (by simp; omega), World.frozen?_alloc_old _ _ t (by simp; omega), World.frozen?_alloc_old _ _ t (Nat.ne_of_lt htl)]; exact hf0)
  go_enter Tryz.func21, Tryz.ntmps21
  go_wp2
  refine wp_loop_rounds 1 ?_
  rw [rounds_succ]
  go_wp2
  go_ret
  exact ⟨rfl, rfl⟩

def NumTo (w : World) (c : Int) (e : Ending) (w' : World) : Prop := e = .returned (.int .i64 c) ∧ Later w w'
theorem told_nil (w : World) : Calls Tryz.prog 7 #[.nilIface] w (NumTo w 0) := by
  go_enter Tryz.func7, Tryz.ntmps7
  go_wp2
  go_ret
  exact ⟨rfl, Later.refl _⟩
set_option maxHeartbeats 4000000 in
theorem told_errno (c : Int) (w : World) (hg : Laid w) : Calls Tryz.prog 7 #[.iface 39 (.int .i64 c)] w (NumTo w c) := by
  have HG : Hid (Laid (w.alloc (.cells #[.int .i64 0] 39))) := hid (hg.later (Later.alloc _ _))
  clear hg
  go_enter Tryz.func7, Tryz.ntmps7
  go_wp2_with (go_at_call 21; refine (as_hit c ⟨w.heap.size, 0, none⟩ (.int .i64 0) _ HG.out (by simp) (by simp)).mono ?_; rintro e w' ⟨rfl, rfl⟩)
  go_ret
  refine ⟨rfl, ?_⟩
  exact ((((Later.alloc w _).alloc' _).alloc' _).alloc' _).alloc' _
theorem told_any (c : Int) (w : World) (hg : Laid w) : Calls Tryz.prog 7 #[errVal c] w (NumTo w c) := by
  unfold errVal
  split
  · rename_i h; rw [h]; exact told_nil w
  · exact told_errno c w hg
end Go.Proofs.YtgcnchmnciihnaaGreatDoor
namespace Go.Proofs.YtgcnchmnciihnaaGreatDoor
set_option linter.unusedSimpArgs false
set_option linter.unusedVariables false
open Go.ChangeShapes Go.WideShapes Go.RowKit

theorem ownKnobDoor : ownKnob Tryz.prog.godebug = none := by kernel_rfl
theorem laidOutDoor : laidOutB Tryz.prog = true := by kernel_rfl
theorem etDoor : Tryz.prog.globalNamed "errors.errorType" = some 0 := by kernel_rfl
theorem rtDoor : (Tryz.prog.cutTypes.find? (·.1 == "internal/reflectlite.rtype")).map (·.2) = some 131 := by kernel_rfl
theorem oneDoor : ((List.range 223).filter fun t => Tryz.prog.rowNamed t [101, 114, 114, 111, 114]) = [25] := by kernel_rfl
theorem sizeDoor : Tryz.prog.types.size = 223 := by kernel_rfl
abbrev laidList {H : Type} : List (String × DataW H) := [("errors.errorType", Rows.laid_errors_errorType)]
/-- what the condition gives a walk: the variable's one cell. -/
theorem laid_of {W : World} (h : laidMetH Tryz.prog laidList W) : Laid W := by
  have h' : laidMet Tryz.prog [] W ∧ handlesMet Tryz.prog laidList W := h
  obtain ⟨name, u, ty, e1, e2, e3, e4, e5⟩ := h'.2 _ (List.mem_singleton.2 rfl)
  have en : name = [101, 114, 114, 111, 114] := (Option.some.inj e1).symm
  subst en
  obtain rfl := Option.some.inj (rtDoor.symm.trans e2)
  have hm : ty ∈ (List.range 223).filter fun t => Tryz.prog.rowNamed t [101, 114, 114, 111, 114] := List.mem_filter.2 ⟨List.mem_range.2 (by rw [← sizeDoor]; exact e3), e4⟩
  rw [oneDoor] at hm
  obtain rfl := List.mem_singleton.1 hm
  have hh : typeHandle Tryz.prog 25 = .pointer (some ⟨5, 25, none⟩) := by kernel_rfl
  rw [hh] at e5
  have := World.var?_cell etDoor e5 0
  unfold Laid
  simpa using this

/-- a world that meets the condition: the settled one, the variable's cell laid. -/
noncomputable def laidWorld (os : Os) : World :=
  let w0 := World.holding Tryz.prog os ⟨#[], #[], []⟩
  { w0 with heap := w0.heap.modify 0 fun
      | .cells _ t frozen => .cells #[.iface 131 (.agg #[.pointer (some ⟨5, 25, none⟩)])] t frozen
      | o => o }
theorem laidWorld_met (os : Os) (args : Array Value) : laidMetH Tryz.prog laidList ((laidWorld os).forCall (fun _ _ => 0) ⟨#[], args, []⟩).memory :=
  laidMetH_of_parts (laidMet_nil _ _) (by kernel_rfl)
end Go.Proofs.YtgcnchmnciihnaaGreatDoor
