/- A heap of plain values, walks over it, and functions of the program met by them: no statement of the set is proved in this text. -/
import Derived.Test.YtcffpnlochillaaGreatDoorKb03
import Derived.Test.YtcffpnlochillaaGreatDoorProg
import Derived.WalkKit
import Derived.LaidEql
set_option linter.unusedVariables false
set_option linter.unusedSimpArgs false
set_option maxRecDepth 100000
set_option maxHeartbeats 4000000
section
namespace Go.Proofs.YtcffpnlochillaaGreatDoor.PvAs
open Go Go.RowKit Go.Extern.Stop Go.Stop Go.Extern
theorem valueOfP (t:Addr) (w:World):(ReflectliteValue.unpack (.iface 108 (.pointer (some t)))).run Tryz.prog w
    = .ok (.agg #[.pointer (some ⟨2,108,none⟩),.pointer (some ⟨w.heap.size,0,none⟩),.int .u64 150]) (w.alloc (.cells #[.pointer (some t)] 108)):=by kernel_rfl
theorem typeP (a : Addr) (w : World) : (ReflectliteValue.methodAny (ReflectliteValue.valueError "reflectlite.Value.Type" 0) (fun t _ _ _ => ReflectliteType.toType t) #[.agg #[.pointer (some ⟨2, 108, none⟩), .pointer (some a), .int .u64 150]]).run Tryz.prog w
    = .ok (.iface 224 (.agg #[.pointer (some ⟨2,108,none⟩)])) w:=by kernel_rfl
theorem methodKind (h : Value) (w : World) : (Go.method 392 224 (.agg #[h]) "Kind").run Tryz.prog w = .ok (193, h) w := by kernel_rfl
theorem kindP (w:World):((ReflectliteType.abiMethod fun t=>(fun a:Nat=>Value.int IntKind.u8 (a:Int)) <$> Rtype.kind t) #[.pointer (some ⟨2,108,none⟩)]).run Tryz.prog w = .ok (.int .u8 22) w:=by kernel_rfl
theorem kindC (w:World):((ReflectliteType.abiMethod fun t=>(fun a:Nat=>Value.int IntKind.u8 (a:Int)) <$> Rtype.kind t) #[.pointer (some ⟨2,96,none⟩)]).run Tryz.prog w = .ok (.int .u8 2) w:=by kernel_rfl
theorem rlm (z:Sem Value) (f:TypeId→Addr→Nat→Nat→Sem Value) (v:Value) :
    ReflectliteValue.method z f #[v]=(do match ← ReflectliteValue.parts v with | none=>z | some (t,a,fl)=>f t a fl (fl % 32)):=rfl
theorem partsP (a:Addr) (w:World):(ReflectliteValue.parts (.agg #[.pointer (some ⟨2,108,none⟩),.pointer (some a),.int .u64 150])).run Tryz.prog w = .ok (some (108,a,150)) w:=by kernel_rfl
theorem isNilP (a p:Addr) (W:World) (ha:W.cell? a=some (.pointer (some p))) :
    (ReflectliteValue.method (ReflectliteValue.valueError "reflectlite.Value.IsNil" 0) ReflectliteValue.isNil #[.agg #[.pointer (some ⟨2, 108, none⟩), .pointer (some a), .int .u64 150]]).run Tryz.prog W = .ok (.bool false) W := by
  rw [rlm]
  simp only [Sem.run_bind,partsP,Result.andThen]
  simp [ReflectliteValue.isNil,loadVar,isAgg,underlying,Tryz.underlying108,ha,Result.andThen]
theorem methodElem (h : Value) (w : World) : (Go.method 392 224 (.agg #[h]) "Elem").run Tryz.prog w = .ok (205, .agg #[h]) w := by kernel_rfl
theorem methodImplements (h : Value) (w : World) : (Go.method 392 224 (.agg #[h]) "Implements").run Tryz.prog w = .ok (206, .agg #[h]) w := by kernel_rfl
theorem methodAssignableTo (h : Value) (w : World) : (Go.method 392 224 (.agg #[h]) "AssignableTo").run Tryz.prog w = .ok (203, .agg #[h]) w := by kernel_rfl
theorem elemP (w:World):(ReflectliteType.method ReflectliteType.elem #[.agg #[.pointer (some ⟨2,108,none⟩)]]).run Tryz.prog w = .ok (.iface 224 (.agg #[.pointer (some ⟨2,96,none⟩)])) w:=by kernel_rfl
theorem implementsC (w : World) : (ReflectliteType.relation "Implements" ReflectliteType.implements_ #[.agg #[.pointer (some ⟨2, 96, none⟩)], .iface 224 (.agg #[.pointer (some ⟨2, 42, none⟩)])]).run Tryz.prog w = .ok (.bool true) w := by kernel_rfl
theorem typeOfC (v:Value) (w:World):(ReflectliteType.typeOf #[.iface 96 v]).run Tryz.prog w = .ok (.iface 224 (.agg #[.pointer (some ⟨2,96,none⟩)])) w:=by kernel_rfl
theorem assignableC (w : World) : (ReflectliteType.relation "AssignableTo" ReflectliteType.assignableTo #[.agg #[.pointer (some ⟨2, 96, none⟩)], .iface 224 (.agg #[.pointer (some ⟨2, 96, none⟩)])]).run Tryz.prog w = .ok (.bool true) w := by kernel_rfl
theorem valueOfC (c:Int) (w:World):(ReflectliteValue.unpack (.iface 96 (.int .i64 c))).run Tryz.prog w
    = .ok (.agg #[.pointer (some ⟨2,96,none⟩),.pointer (some ⟨w.heap.size,0,none⟩),.int .u64 130]) (w.alloc (.cells #[.int .i64 c] 96)):=by kernel_rfl
theorem elemOfP (w:World):(Rtype.elem? 108).run Tryz.prog w = .ok (some 96) w:=by kernel_rfl
theorem mkC (p:Addr) (w:World):(ReflectliteValue.mk 96 p ReflectliteValue.flagAddr).run Tryz.prog w = .ok (.agg #[.pointer (some ⟨2,96,none⟩),.pointer (some p),.int .u64 386]) w:=by kernel_rfl
theorem elemVP (a p:Addr) (W:World) (ha:W.cell? a=some (.pointer (some p))) :
    (ReflectliteValue.method (ReflectliteValue.valueError "reflectlite.Value.Elem" 0) ReflectliteValue.elem #[.agg #[.pointer (some ⟨2, 108, none⟩), .pointer (some a), .int .u64 150]]).run Tryz.prog W
      = .ok (.agg #[.pointer (some ⟨2,96,none⟩),.pointer (some p),.int .u64 386]) W:=by
  rw [rlm]
  simp only [Sem.run_bind,partsP,Result.andThen]
  simp [ReflectliteValue.elem,loadVar,isAgg,underlying,Tryz.underlying108,ha,Result.andThen,elemOfP,mkC]
theorem rls (v x:Value):ReflectliteValue.set #[v,x]=(do
    let (some (dst,a,fl),some (src,b,_)):=(← ReflectliteValue.parts v,← ReflectliteValue.parts x)
      | unsupported (.noEntry "extern/(internal/reflectlite.Value).Set.zeroValue")
    if fl / ReflectliteValue.flagAddr % 2 == 0 then unsupported (.noEntry "extern/(internal/reflectlite.Value).Set.unaddressable")
    let val ← loadVar src b
    if ← Rtype.directlyAssignable dst src then storeVar dst a val
    else if ← Rtype.implements dst src then
      if (← Rtype.kind src) == 20 then
        match val with
        | .nilIface => unsupported (.noEntry "extern/reflectlite: a nil value of one interface type handed on as a value of another")
        | _=>storeVar dst a val
      else storeVar dst a (.iface src val)
    else panicString ("reflectlite.Set: value of type " ++ (← Rtype.spelt src) ++ " is not assignable to type " ++ (← Rtype.spelt dst))
    pure (.tuple #[])):=rfl
theorem partsCa (a:Addr) (w:World):(ReflectliteValue.parts (.agg #[.pointer (some ⟨2,96,none⟩),.pointer (some a),.int .u64 386])).run Tryz.prog w = .ok (some (96,a,386)) w:=by kernel_rfl
theorem partsC (a:Addr) (w:World):(ReflectliteValue.parts (.agg #[.pointer (some ⟨2,96,none⟩),.pointer (some a),.int .u64 130])).run Tryz.prog w = .ok (some (96,a,130)) w:=by kernel_rfl
theorem directC (w:World):(Rtype.directlyAssignable 96 96).run Tryz.prog w = .ok true w:=by kernel_rfl
theorem setC (ta b:Addr) (c:Int) (old:Value) (W:World) (hb:W.cell? b=some (.int .i64 c)) (ht:W.cell? ta=some old) (hf:W.frozen? ta=false) :
    (ReflectliteValue.set #[.agg #[.pointer (some ⟨2,96,none⟩),.pointer (some ta),.int .u64 386],.agg #[.pointer (some ⟨2,96,none⟩),.pointer (some b),.int .u64 130]]).run Tryz.prog W
      = .ok (.tuple #[]) (W.setCell ta (.int .i64 c)):=by
  rw [rls]
  simp only [Sem.run_bind,partsCa,partsC,Result.andThen]
  simp [ReflectliteValue.flagAddr,loadVar,isAgg,underlying,Tryz.underlying96,hb,Result.andThen,directC,storeVar,Value.cells,storeCells,Addr.add]
  rw [run_store Tryz.prog W ta _ _ (by rfl)]
  simp [ht,hf]
set_option maxHeartbeats 8000000 in
theorem as_hit (c:Int) (t:Addr) (old:Value) (w:World) (hg:w.cell? ⟨0,0,none⟩=some (.iface 224 (.agg #[.pointer (some ⟨2,42,none⟩)]))) (ht0:w.cell? t=some old) (hf0:w.frozen? t=false) :
    Calls Tryz.prog 45 #[.iface 96 (.int .i64 c),.iface 108 (.pointer (some t))] w fun ev w'=>ev = .returned (.bool true)∧w'=((((w.alloc (.cells #[.pointer (some t)] 108)).alloc (.cells #[.pointer (some ⟨2,108,none⟩),.pointer (some ⟨w.heap.size,0,none⟩),.int .u64 150] 181)).alloc (.cells #[.pointer (some ⟨2,108,none⟩),.pointer (some ⟨w.heap.size,0,none⟩),.int .u64 150] 181)).alloc (.cells #[.int .i64 c] 96)).setCell t (.int .i64 c):=by
  have h6:=@run_callFunc_extern Tryz.prog 101 _ (fun args=>ReflectliteValue.unpack (args.getD 0 (.tuple #[]))) Tryz.func101 (by kernel_rfl) (by kernel_rfl) (by kernel_rfl) (by kernel_rfl)
  have h7 := @run_callFunc_extern Tryz.prog 102 _ (ReflectliteValue.methodAny (ReflectliteValue.valueError "reflectlite.Value.Type" 0) (fun t _ _ _ => ReflectliteType.toType t)) Tryz.func102 (by kernel_rfl) (by kernel_rfl) (by kernel_rfl) (by kernel_rfl)
  have h8 := @run_callFunc_extern Tryz.prog 103 _ (ReflectliteValue.method (ReflectliteValue.valueError "reflectlite.Value.IsNil" 0) ReflectliteValue.isNil) Tryz.func103 (by kernel_rfl) (by kernel_rfl) (by kernel_rfl) (by kernel_rfl)
  have h27:=@run_callFunc_extern Tryz.prog 193 _ (ReflectliteType.abiMethod fun t=>do pure (.int .u8 (← Rtype.kind t))) Tryz.func193 (by kernel_rfl) (by kernel_rfl) (by kernel_rfl) (by kernel_rfl)
  have h37:=@run_callFunc_extern Tryz.prog 205 _ (ReflectliteType.method ReflectliteType.elem) Tryz.func205 (by kernel_rfl) (by kernel_rfl) (by kernel_rfl) (by kernel_rfl)
  have h38 := @run_callFunc_extern Tryz.prog 206 _ (ReflectliteType.relation "Implements" ReflectliteType.implements_) Tryz.func206 (by kernel_rfl) (by kernel_rfl) (by kernel_rfl) (by kernel_rfl)
  have h10:=@run_callFunc_extern Tryz.prog 139 _ ReflectliteType.typeOf Tryz.func139 (by kernel_rfl) (by kernel_rfl) (by kernel_rfl) (by kernel_rfl)
  have h35 := @run_callFunc_extern Tryz.prog 203 _ (ReflectliteType.relation "AssignableTo" ReflectliteType.assignableTo) Tryz.func203 (by kernel_rfl) (by kernel_rfl) (by kernel_rfl) (by kernel_rfl)
  have h11 := @run_callFunc_extern Tryz.prog 140 _ (ReflectliteValue.method (ReflectliteValue.valueError "reflectlite.Value.Elem" 0) ReflectliteValue.elem) Tryz.func140 (by kernel_rfl) (by kernel_rfl) (by kernel_rfl) (by kernel_rfl)
  have h12:=@run_callFunc_extern Tryz.prog 141 _ ReflectliteValue.set Tryz.func141 (by kernel_rfl) (by kernel_rfl) (by kernel_rfl) (by kernel_rfl)
  have tO:=typeOfC
  have mA:=methodAssignableTo
  have a25:=assignableC
  have v25:=valueOfC
  have f6:=valueOfP
  have f7:=typeP
  have mK:=methodKind
  have mE:=methodElem
  have mI:=methodImplements
  have k27:=kindP
  have k25:=kindC
  have e27:=elemP
  have i25:=implementsC
  have n8:=isNilP ⟨w.heap.size,0,none⟩ t ((w.alloc (.cells #[.pointer (some t)] 108)).alloc (.cells #[.pointer (some ⟨2,108,none⟩),.pointer (some ⟨w.heap.size,0,none⟩),.int .u64 150] 181)) (by simp)
  have hlt:0 < w.heap.size:=by
    rcases Nat.eq_zero_or_pos w.heap.size with h0 | h
    · simp [World.cell?,h0] at hg
    · exact h
  have hg2:((w.alloc (.cells #[.pointer (some t)] 108)).alloc (.cells #[.pointer (some ⟨2,108,none⟩),.pointer (some ⟨w.heap.size,0,none⟩),.int .u64 150] 181)).cell? ⟨0,0,none⟩=some (.iface 224 (.agg #[.pointer (some ⟨2,42,none⟩)])):=by
    rw [World.cell?_alloc_lt _ _ ⟨0,0,none⟩ (by simp),World.cell?_alloc_lt _ _ ⟨0,0,none⟩ hlt];exact hg
  have htl:t.block < w.heap.size:=by
    rcases Nat.lt_or_ge t.block w.heap.size with h | h
    · exact h
    · simp [World.cell?,Array.getElem?_eq_none h] at ht0
  have el:=elemVP ⟨w.heap.size,0,none⟩ t (((w.alloc (.cells #[.pointer (some t)] 108)).alloc (.cells #[.pointer (some ⟨2,108,none⟩),.pointer (some ⟨w.heap.size,0,none⟩),.int .u64 150] 181)).alloc (.cells #[.pointer (some ⟨2,108,none⟩),.pointer (some ⟨w.heap.size,0,none⟩),.int .u64 150] 181)) (by rw [World.cell?_alloc_lt _ _ ⟨w.heap.size,0,none⟩ (by simp;omega)];simp)
  have st:=setC t ⟨w.heap.size+1+1+1,0,none⟩ c old ((((w.alloc (.cells #[.pointer (some t)] 108)).alloc (.cells #[.pointer (some ⟨2,108,none⟩),.pointer (some ⟨w.heap.size,0,none⟩),.int .u64 150] 181)).alloc (.cells #[.pointer (some ⟨2,108,none⟩),.pointer (some ⟨w.heap.size,0,none⟩),.int .u64 150] 181)).alloc (.cells #[.int .i64 c] 96))
    (by rw [World.cell?_alloc_at _ _ _ _ (by simp)];rfl)
    (by rw [World.cell?_alloc_lt _ _ t (by simp;omega),World.cell?_alloc_lt _ _ t (by simp;omega),World.cell?_alloc_lt _ _ t (by simp;omega),World.cell?_alloc_lt _ _ t htl];exact ht0)
    (by rw [World.frozen?_alloc_old _ _ t (by simp;omega),World.frozen?_alloc_old _ _ t (by simp;omega),World.frozen?_alloc_old _ _ t (by simp;omega),World.frozen?_alloc_old _ _ t (Nat.ne_of_lt htl)];exact hf0)
  go_enter Tryz.func45,Tryz.ntmps45
  go_wp2
  refine wp_loop_rounds 1 ?_
  rw [rounds_succ]
  go_wp2
  go_ret
  exact ⟨rfl,rfl⟩
end Go.Proofs.YtcffpnlochillaaGreatDoor.PvAs
end
