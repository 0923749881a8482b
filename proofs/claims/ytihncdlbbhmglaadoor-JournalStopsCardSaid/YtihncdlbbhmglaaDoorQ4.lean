/- Texts that build together: Na Nb Nc Nd Rd Re. -/
import Derived.LaidEql
import Derived.Stop.Asserts
import Derived.RowKitTokens
import Derived.WalkKit
import Derived.ProofKit
import Derived.OpenShut
import Derived.ShutString
import Derived.ChangeOld
import Derived.ChangeSame
import Derived.ChangeVars
import Derived.JoinedOf
import Derived.RowKit
import Derived.LaidLaws
import Derived.LaidHandle
import Derived.Stop.Joined
import Derived.Below
import Derived.SizedLaws
import Derived.Deep.Matrix
import Derived.Test.YtihncdlbbhmglaaDoorQ1
import Derived.Test.YtihncdlbbhmglaaDoorQ2
import Derived.Test.YtihncdlbbhmglaaDoorQ3
import Derived.Test.YtihncdlbbhmglaaDoorRows
set_option linter.unusedVariables false
set_option linter.unusedSimpArgs false
/- api.Number: errors.As at the target *api.Errno (after the worked contract of the toy 'toyas'). The door's seat alone. -/
namespace Go.Proofs.YtihncdlbbhmglaaDoor
open Go.RowKit Go.Extern.Stop Go.Stop Go.Extern

theorem as_nil (t : Value) (w : World) :
    Calls Tryd.prog 33 #[.nilIface, t] w fun e w' => e = .returned (.bool false) ∧ w' = w := by
  go_enter Tryd.func33, Tryd.ntmps33
  go_wp2
  go_ret
  exact ⟨rfl, rfl⟩

theorem as_valueOfP (t : Addr) (w : World) : (ReflectliteValue.unpack (.iface 71 (.pointer (some t)))).run Tryd.prog w
    = .ok (.agg #[.pointer (some ⟨1, 71, none⟩), .pointer (some ⟨w.heap.size, 0, none⟩), .int .u64 150]) (w.alloc (.cells #[.pointer (some t)] 71)) := by kernel_rfl
theorem as_typeP (a : Addr) (w : World) : (ReflectliteValue.methodAny (ReflectliteValue.valueError "reflectlite.Value.Type" 0) (fun t _ _ _ => ReflectliteType.toType t) #[.agg #[.pointer (some ⟨1, 71, none⟩), .pointer (some a), .int .u64 150]]).run Tryd.prog w
    = .ok (.iface 98 (.agg #[.pointer (some ⟨1, 71, none⟩)])) w := by kernel_rfl
theorem as_methodKind (h : Value) (w : World) : (Go.method 261 98 (.agg #[h]) "Kind").run Tryd.prog w = .ok (89, h) w := by kernel_rfl
theorem as_kindP (w : World) : ((ReflectliteType.abiMethod fun t => (fun a : Nat => Value.int IntKind.u8 (a : Int)) <$> Rtype.kind t) #[.pointer (some ⟨1, 71, none⟩)]).run Tryd.prog w = .ok (.int .u8 22) w := by kernel_rfl
theorem as_kindE (w : World) : ((ReflectliteType.abiMethod fun t => (fun a : Nat => Value.int IntKind.u8 (a : Int)) <$> Rtype.kind t) #[.pointer (some ⟨1, 29, none⟩)]).run Tryd.prog w = .ok (.int .u8 2) w := by kernel_rfl

theorem as_rlm (z : Sem Value) (f : TypeId → Addr → Nat → Nat → Sem Value) (v : Value) :
    ReflectliteValue.method z f #[v] = (do match ← ReflectliteValue.parts v with | none => z | some (t, a, fl) => f t a fl (fl % 32)) := rfl
theorem as_partsP (a : Addr) (w : World) : (ReflectliteValue.parts (.agg #[.pointer (some ⟨1, 71, none⟩), .pointer (some a), .int .u64 150])).run Tryd.prog w = .ok (some (71, a, 150)) w := by kernel_rfl
theorem as_isNil (a p : Addr) (W : World) (ha : W.cell? a = some (.pointer (some p))) :
    (ReflectliteValue.method (ReflectliteValue.valueError "reflectlite.Value.IsNil" 0) ReflectliteValue.isNil #[.agg #[.pointer (some ⟨1, 71, none⟩), .pointer (some a), .int .u64 150]]).run Tryd.prog W = .ok (.bool false) W := by
  rw [as_rlm]
  simp only [Sem.run_bind, as_partsP, Result.andThen]
  simp [ReflectliteValue.isNil, loadVar, isAgg, underlying, Tryd.underlying71, ha, Result.andThen]

theorem as_methodElem (h : Value) (w : World) : (Go.method 261 98 (.agg #[h]) "Elem").run Tryd.prog w = .ok (99, .agg #[h]) w := by kernel_rfl
theorem as_methodImplements (h : Value) (w : World) : (Go.method 261 98 (.agg #[h]) "Implements").run Tryd.prog w = .ok (100, .agg #[h]) w := by kernel_rfl
theorem as_methodAssignable (h : Value) (w : World) : (Go.method 261 98 (.agg #[h]) "AssignableTo").run Tryd.prog w = .ok (97, .agg #[h]) w := by kernel_rfl
theorem as_elemP (w : World) : (ReflectliteType.method ReflectliteType.elem #[.agg #[.pointer (some ⟨1, 71, none⟩)]]).run Tryd.prog w = .ok (.iface 98 (.agg #[.pointer (some ⟨1, 29, none⟩)])) w := by kernel_rfl
theorem as_implementsE (w : World) : (ReflectliteType.relation "Implements" ReflectliteType.implements_ #[.agg #[.pointer (some ⟨1, 29, none⟩)], .iface 98 (.agg #[.pointer (some ⟨1, 27, none⟩)])]).run Tryd.prog w = .ok (.bool true) w := by kernel_rfl
theorem as_typeOfE (v : Value) (w : World) : (ReflectliteType.typeOf #[.iface 29 v]).run Tryd.prog w = .ok (.iface 98 (.agg #[.pointer (some ⟨1, 29, none⟩)])) w := by kernel_rfl
theorem as_assignableE (w : World) : (ReflectliteType.relation "AssignableTo" ReflectliteType.assignableTo #[.agg #[.pointer (some ⟨1, 29, none⟩)], .iface 98 (.agg #[.pointer (some ⟨1, 29, none⟩)])]).run Tryd.prog w = .ok (.bool true) w := by kernel_rfl
theorem as_valueOfE (n : Int) (w : World) : (ReflectliteValue.unpack (.iface 29 (.int .i64 n))).run Tryd.prog w
    = .ok (.agg #[.pointer (some ⟨1, 29, none⟩), .pointer (some ⟨w.heap.size, 0, none⟩), .int .u64 130]) (w.alloc (.cells #[.int .i64 n] 29)) := by kernel_rfl

theorem as_elemOfP (w : World) : (Rtype.elem? 71).run Tryd.prog w = .ok (some 29) w := by kernel_rfl
theorem as_mkE (p : Addr) (w : World) : (ReflectliteValue.mk 29 p ReflectliteValue.flagAddr).run Tryd.prog w = .ok (.agg #[.pointer (some ⟨1, 29, none⟩), .pointer (some p), .int .u64 386]) w := by kernel_rfl
theorem as_elemVP (a p : Addr) (W : World) (ha : W.cell? a = some (.pointer (some p))) :
    (ReflectliteValue.method (ReflectliteValue.valueError "reflectlite.Value.Elem" 0) ReflectliteValue.elem #[.agg #[.pointer (some ⟨1, 71, none⟩), .pointer (some a), .int .u64 150]]).run Tryd.prog W
      = .ok (.agg #[.pointer (some ⟨1, 29, none⟩), .pointer (some p), .int .u64 386]) W := by
  rw [as_rlm]
  simp only [Sem.run_bind, as_partsP, Result.andThen]
  simp [ReflectliteValue.elem, loadVar, isAgg, underlying, Tryd.underlying71, ha, Result.andThen, as_elemOfP, as_mkE]
theorem as_rls (v x : Value) : ReflectliteValue.set #[v, x] = (do
    let (some (dst, a, fl), some (src, b, _)) := (← ReflectliteValue.parts v, ← ReflectliteValue.parts x)
      | unsupported (.noEntry "extern/(internal/reflectlite.Value).Set.zeroValue")
    if fl / ReflectliteValue.flagAddr % 2 == 0 then unsupported (.noEntry "extern/(internal/reflectlite.Value).Set.unaddressable")
    let val ← loadVar src b
    if ← Rtype.directlyAssignable dst src then storeVar dst a val
    else if ← Rtype.implements dst src then
      if (← Rtype.kind src) == 20 then
        match val with
        | .nilIface => unsupported (.noEntry "extern/reflectlite: a nil value of one interface type handed on as a value of another")
        | _ => storeVar dst a val
      else storeVar dst a (.iface src val)
    else panicString ("reflectlite.Set: value of type " ++ (← Rtype.spelt src) ++ " is not assignable to type " ++ (← Rtype.spelt dst))
    pure (.tuple #[])) := rfl
theorem as_partsEa (a : Addr) (w : World) : (ReflectliteValue.parts (.agg #[.pointer (some ⟨1, 29, none⟩), .pointer (some a), .int .u64 386])).run Tryd.prog w = .ok (some (29, a, 386)) w := by kernel_rfl
theorem as_partsE (a : Addr) (w : World) : (ReflectliteValue.parts (.agg #[.pointer (some ⟨1, 29, none⟩), .pointer (some a), .int .u64 130])).run Tryd.prog w = .ok (some (29, a, 130)) w := by kernel_rfl
theorem as_directE (w : World) : (Rtype.directlyAssignable 29 29).run Tryd.prog w = .ok true w := by kernel_rfl
theorem as_setE (ta b : Addr) (n : Int) (old : Value) (W : World) (hb : W.cell? b = some (.int .i64 n)) (ht : W.cell? ta = some old) (hf : W.frozen? ta = false) :
    (ReflectliteValue.set #[.agg #[.pointer (some ⟨1, 29, none⟩), .pointer (some ta), .int .u64 386], .agg #[.pointer (some ⟨1, 29, none⟩), .pointer (some b), .int .u64 130]]).run Tryd.prog W
      = .ok (.tuple #[]) (W.setCell ta (.int .i64 n)) := by
  rw [as_rls]
  simp only [Sem.run_bind, as_partsEa, as_partsE, Result.andThen]
  simp [ReflectliteValue.flagAddr, loadVar, isAgg, underlying, Tryd.underlying29, hb, Result.andThen, as_directE, storeVar, Value.cells, storeCells, Addr.add]
  rw [run_store Tryd.prog W ta _ _ (by rfl)]
  simp [ht, hf]

/-- WHAT errors.errorType HOLDS. -/
def ErrT (w : World) : Prop := w.cell? ⟨0, 0, none⟩ = some (.iface 98 (.agg #[.pointer (some ⟨1, 27, none⟩)]))

set_option maxHeartbeats 4000000 in
theorem as_hit (n : Int) (t : Addr) (old : Value) (w : World) (hg : ErrT w) (ht0 : w.cell? t = some old) (hf0 : w.frozen? t = false) :
    Calls Tryd.prog 33 #[.iface 29 (.int .i64 n), .iface 71 (.pointer (some t))] w fun ev w' => ev = .returned (.bool true) ∧ w' = ((((w.alloc (.cells #[.pointer (some t)] 71)).alloc (.cells #[.pointer (some ⟨1, 71, none⟩), .pointer (some ⟨w.heap.size, 0, none⟩), .int .u64 150] 87)).alloc (.cells #[.pointer (some ⟨1, 71, none⟩), .pointer (some ⟨w.heap.size, 0, none⟩), .int .u64 150] 87)).alloc (.cells #[.int .i64 n] 29)).setCell t (.int .i64 n) := by
  unfold ErrT at hg
  have h6 := @run_callFunc_extern Tryd.prog 46 _ (fun args => ReflectliteValue.unpack (args.getD 0 (.tuple #[]))) Tryd.func46 (by kernel_rfl) (by kernel_rfl) (by kernel_rfl) (by kernel_rfl)
  have h7 := @run_callFunc_extern Tryd.prog 47 _ (ReflectliteValue.methodAny (ReflectliteValue.valueError "reflectlite.Value.Type" 0) (fun t _ _ _ => ReflectliteType.toType t)) Tryd.func47 (by kernel_rfl) (by kernel_rfl) (by kernel_rfl) (by kernel_rfl)
  have h8 := @run_callFunc_extern Tryd.prog 48 _ (ReflectliteValue.method (ReflectliteValue.valueError "reflectlite.Value.IsNil" 0) ReflectliteValue.isNil) Tryd.func48 (by kernel_rfl) (by kernel_rfl) (by kernel_rfl) (by kernel_rfl)
  have h27 := @run_callFunc_extern Tryd.prog 89 _ (ReflectliteType.abiMethod fun t => do pure (.int .u8 (← Rtype.kind t))) Tryd.func89 (by kernel_rfl) (by kernel_rfl) (by kernel_rfl) (by kernel_rfl)
  have h37 := @run_callFunc_extern Tryd.prog 99 _ (ReflectliteType.method ReflectliteType.elem) Tryd.func99 (by kernel_rfl) (by kernel_rfl) (by kernel_rfl) (by kernel_rfl)
  have h38 := @run_callFunc_extern Tryd.prog 100 _ (ReflectliteType.relation "Implements" ReflectliteType.implements_) Tryd.func100 (by kernel_rfl) (by kernel_rfl) (by kernel_rfl) (by kernel_rfl)
  have h10 := @run_callFunc_extern Tryd.prog 52 _ ReflectliteType.typeOf Tryd.func52 (by kernel_rfl) (by kernel_rfl) (by kernel_rfl) (by kernel_rfl)
  have h35 := @run_callFunc_extern Tryd.prog 97 _ (ReflectliteType.relation "AssignableTo" ReflectliteType.assignableTo) Tryd.func97 (by kernel_rfl) (by kernel_rfl) (by kernel_rfl) (by kernel_rfl)
  have h11 := @run_callFunc_extern Tryd.prog 53 _ (ReflectliteValue.method (ReflectliteValue.valueError "reflectlite.Value.Elem" 0) ReflectliteValue.elem) Tryd.func53 (by kernel_rfl) (by kernel_rfl) (by kernel_rfl) (by kernel_rfl)
  have h12 := @run_callFunc_extern Tryd.prog 54 _ ReflectliteValue.set Tryd.func54 (by kernel_rfl) (by kernel_rfl) (by kernel_rfl) (by kernel_rfl)
  have tO := as_typeOfE
  have mA := as_methodAssignable
  have a25 := as_assignableE
  have v25 := as_valueOfE
  have f6 := as_valueOfP
  have f7 := as_typeP
  have mK := as_methodKind
  have mE := as_methodElem
  have mI := as_methodImplements
  have k27 := as_kindP
  have k25 := as_kindE
  have e27 := as_elemP
  have i25 := as_implementsE
  have n8 := as_isNil ⟨w.heap.size, 0, none⟩ t ((w.alloc (.cells #[.pointer (some t)] 71)).alloc (.cells #[.pointer (some ⟨1, 71, none⟩), .pointer (some ⟨w.heap.size, 0, none⟩), .int .u64 150] 87)) (by simp)
  have hlt : 0 < w.heap.size := by
    rcases Nat.eq_zero_or_pos w.heap.size with h0 | h
    · simp [World.cell?, h0] at hg
    · exact h
  have hg2 : ((w.alloc (.cells #[.pointer (some t)] 71)).alloc (.cells #[.pointer (some ⟨1, 71, none⟩), .pointer (some ⟨w.heap.size, 0, none⟩), .int .u64 150] 87)).cell? ⟨0, 0, none⟩ = some (.iface 98 (.agg #[.pointer (some ⟨1, 27, none⟩)])) := by
    rw [World.cell?_alloc_lt _ _ ⟨0, 0, none⟩ (by simp), World.cell?_alloc_lt _ _ ⟨0, 0, none⟩ hlt]; exact hg
  have htl : t.block < w.heap.size := by
    rcases Nat.lt_or_ge t.block w.heap.size with h | h
    · exact h
    · simp [World.cell?, Array.getElem?_eq_none h] at ht0
  have el := as_elemVP ⟨w.heap.size, 0, none⟩ t (((w.alloc (.cells #[.pointer (some t)] 71)).alloc (.cells #[.pointer (some ⟨1, 71, none⟩), .pointer (some ⟨w.heap.size, 0, none⟩), .int .u64 150] 87)).alloc (.cells #[.pointer (some ⟨1, 71, none⟩), .pointer (some ⟨w.heap.size, 0, none⟩), .int .u64 150] 87)) (by rw [World.cell?_alloc_lt _ _ ⟨w.heap.size, 0, none⟩ (by simp; omega)]; simp)
  have st := as_setE t ⟨w.heap.size + 1 + 1 + 1, 0, none⟩ n old ((((w.alloc (.cells #[.pointer (some t)] 71)).alloc (.cells #[.pointer (some ⟨1, 71, none⟩), .pointer (some ⟨w.heap.size, 0, none⟩), .int .u64 150] 87)).alloc (.cells #[.pointer (some ⟨1, 71, none⟩), .pointer (some ⟨w.heap.size, 0, none⟩), .int .u64 150] 87)).alloc (.cells #[.int .i64 n] 29))
    (by rw [World.cell?_alloc_at _ _ _ _ (by simp)]; rfl)
    (by rw [World.cell?_alloc_lt _ _ t (by simp; omega), World.cell?_alloc_lt _ _ t (by simp; omega), World.cell?_alloc_lt _ _ t (by simp; omega), World.cell?_alloc_lt _ _ t htl]; exact ht0)
    (by rw [World.frozen?_alloc_old _ _ t (by simp; omega), World.frozen?_alloc_old _ _ t (by simp; omega), World.frozen?_alloc_old _ _ t (by simp; omega), World.frozen?_alloc_old _ _ t (Nat.ne_of_lt htl)]; exact hf0)
  go_enter Tryd.func33, Tryd.ntmps33
  go_wp2
  refine wp_loop_rounds 1 ?_
  rw [rounds_succ]
  go_wp2
  go_ret
  exact ⟨rfl, rfl⟩
end Go.Proofs.YtihncdlbbhmglaaDoor

/- api.Number: what an error's number is. The door's seat alone. -/
namespace Go.Proofs.YtihncdlbbhmglaaDoor
open Go.RowKit

def NumRet (n : Int) (w : World) (e : Ending) (w' : World) : Prop := e = .returned (.int .i64 n) ∧ Upd (fun _ => False) w w'
set_option maxHeartbeats 1000000 in
theorem number_nil (w : World) : Calls Tryd.prog 11 #[.nilIface] w (NumRet 0 w) := by
  go_enter Tryd.func11, Tryd.ntmps11
  go_wp2_with (go_at_call 33; refine (as_nil _ _).mono ?_; rintro e w1 ⟨rfl, rfl⟩)
  go_ret
  exact ⟨rfl, (Upd.refl _ _).alloc _⟩
set_option maxHeartbeats 4000000 in
theorem number_hit (n : Int) (w : World) (hg : ErrT w) : Calls Tryd.prog 11 #[.iface 29 (.int .i64 n)] w (NumRet n w) := by
  have hlt : 0 < w.heap.size := by
    unfold ErrT at hg
    rcases Nat.eq_zero_or_pos w.heap.size with h0 | h
    · simp [World.cell?, h0] at hg
    · exact h
  have hg1 : ErrT (w.alloc (.cells #[.int .i64 0] 29)) := (World.cell?_alloc_lt _ _ ⟨0, 0, none⟩ hlt).trans hg
  have HG := Lib.hid hg1
  clear hg hg1
  go_enter Tryd.func11, Tryd.ntmps11
  go_wp2_with (go_at_call 33; refine (as_hit n ⟨w.heap.size, 0, none⟩ (.int .i64 0) _ HG.out (by simp) (by simp)).mono ?_; rintro e w1 ⟨rfl, rfl⟩)
  go_ret
  exact ⟨rfl, (((((Upd.refl _ _).alloc _).alloc _).alloc _).alloc _).alloc _⟩
theorem api_Number (n : Int) (w : World) (hg : ErrT w) : Calls Tryd.prog 11 #[errV n] w (NumRet n w) := by
  unfold errV
  split
  · next h => subst h; exact number_nil w
  · exact number_hit n w hg
end Go.Proofs.YtihncdlbbhmglaaDoor

/- Walks: disk.Arm, disk.Stopped. The door's seat alone. -/
namespace Go.Proofs.YtihncdlbbhmglaaDoor
open Go.RowKit
set_option maxRecDepth 100000 in
set_option maxHeartbeats 400000 in
theorem disk_Arm (p : Nat) (d : Hw.HDisk) (F : Nat → Prop) (n : Int) (w : World) (h : IsDisk w p d F) (hn : n ≤ 9223372036854775807) :
    Calls Tryd.prog 25 #[.pointer (some ⟨p, 0, none⟩), .int .i64 n] w (ArmRet p (d.arm n) F w) := by
  obtain ⟨bm, clock, Fs, h⟩ := h
  have c2 : w.cell? ⟨p, 2, none⟩ = some (.int .i64 d.left) := by simp [World.cell?, h.top]
  have f2 : w.frozen? ⟨p, 2, none⟩ = false := by simp [World.frozen?, h.top]
  have hend := fun m hm => disk_Arm_at h n hn m hm
  have HE := Lib.hid hend
  have hF := (h.fp p).2 (.inl rfl)
  have HF := Lib.hid hF
  have HN := Lib.hid hn
  clear h hend hF hn
  go_enter Tryd.func25, Tryd.ntmps25
  go_wp2
  all_goals
    go_end0
    exact ⟨rfl, ⟨bm, clock, Fs, HE.out _ (by omega)⟩, (Upd.refl F w).setCell (p := ⟨p, 2, none⟩) (.inl HF.out) _⟩
set_option maxRecDepth 100000 in
set_option maxHeartbeats 400000 in
theorem disk_Stopped (p : Nat) (d : Hw.HDisk) (F : Nat → Prop) (w : World) (h : IsDisk w p d F) :
    Calls Tryd.prog 27 #[.pointer (some ⟨p, 0, none⟩)] w fun e w' => e = .returned (.bool d.stopped) ∧ w = w' := by
  obtain ⟨bm, clock, Fs, h⟩ := h
  have c3 : w.cell? ⟨p, 3, none⟩ = some (.bool d.stopped) := by simp [World.cell?, h.top]
  clear h
  go_enter Tryd.func27, Tryd.ntmps27
  go_wp2
  go_ret
  exact ⟨rfl, rfl⟩
end Go.Proofs.YtihncdlbbhmglaaDoor

/- What errors.errorType holds stays. The door's seat alone. -/
namespace Go.Proofs.YtihncdlbbhmglaaDoor
open Go.RowKit

theorem ErrT.of {w0 w : World} {B : Nat} (h : ErrT w0) (hb : Below B w0 w) (hB : 0 < B) : ErrT w := by
  unfold ErrT at h ⊢
  rw [← h]; exact hb.cell (p := ⟨0, 0, none⟩) hB
theorem ErrT.pos {w : World} (h : ErrT w) : 0 < w.heap.size := by
  unfold ErrT at h
  rcases Nat.eq_zero_or_pos w.heap.size with h0 | h1
  · simp [World.cell?, h0] at h
  · exact h1
end Go.Proofs.YtihncdlbbhmglaaDoor

/- Arguments and the laid variable: what the rows hand to the walks. The door's seat. -/
namespace Go.Proofs.YtihncdlbbhmglaaDoor
open Go.ChangeShapes Go.WideShapes Go.ChangeAt Go.RowKit
open Go.ChangeMaps (open_string shut_string)

theorem own : ownKnob Tryd.prog.godebug = none := by kernel_rfl
theorem laidOut : laidOutB Tryd.prog = true := by kernel_rfl
theorem gl_et : Tryd.prog.globalNamed "errors.errorType" = some 0 := by kernel_rfl
theorem gl_rt : (Tryd.prog.cutTypes.find? (·.1 == "internal/reflectlite.rtype")).map (·.2) = some 98 := by kernel_rfl
theorem gl_oneRow : ((List.range 161).filter fun t => Tryd.prog.rowNamed t [101, 114, 114, 111, 114]) = [27] := by kernel_rfl
theorem gl_size : Tryd.prog.types.size = 161 := by kernel_rfl
theorem bytes_u8 : Tryd.prog.bytesOf 5 = 1 := by kernel_rfl
def theLaid {H : Type} : List (String × DataW H) := [("errors.errorType", Rows.laid_errors_errorType)]
theorem errT_of_laid {W : World} (h : laidMetH Tryd.prog [("errors.errorType", Rows.laid_errors_errorType)] W) : ErrT W := by
  have h' : laidMet Tryd.prog [] W ∧ handlesMet Tryd.prog [("errors.errorType", Rows.laid_errors_errorType)] W := h
  obtain ⟨name, u, ty, e1, e2, e3, e4, e5⟩ := h'.2 _ (List.mem_singleton.2 rfl)
  have en : name = [101, 114, 114, 111, 114] := (Option.some.inj e1).symm
  subst en
  obtain rfl := Option.some.inj (gl_rt.symm.trans e2)
  have hm : ty ∈ (List.range 161).filter fun t => Tryd.prog.rowNamed t [101, 114, 114, 111, 114] := List.mem_filter.2 ⟨List.mem_range.2 (by rw [← gl_size]; exact e3), e4⟩
  rw [gl_oneRow] at hm
  obtain rfl := List.mem_singleton.1 hm
  have hh : typeHandle Tryd.prog 27 = .pointer (some ⟨1, 27, none⟩) := by kernel_rfl
  rw [hh] at e5
  unfold ErrT
  simpa using World.var?_cell gl_et e5 0
noncomputable def laidWorld (os : Os) : World :=
  let w0 := World.holding Tryd.prog os ⟨#[], #[], []⟩
  { w0 with heap := w0.heap.modify 0 fun
      | .cells _ t frozen => .cells #[.iface 98 (.agg #[.pointer (some ⟨1, 27, none⟩)])] t frozen
      | o => o }
theorem laidWorld_met (os : Os) (args : Array Value) : laidMetH Tryd.prog [("errors.errorType", Rows.laid_errors_errorType)] ((laidWorld os).forCall (fun _ _ => 0) ⟨#[], args, []⟩).memory :=
  laidMetH_of_parts (laidMet_nil _ _) (by kernel_rfl)

set_option maxRecDepth 100000 in
theorem argB {H : Type} {enc : TypeId × Value → H} {W : World} {base : Nat} {v : Value} {d : DataW H} {p : List MemPlace} (hval : Value.okWide Tryd.prog W .any base 22 v)
    (h : DataW.Trod enc Tryd.prog W 0 (fun _ => true) true 22 v d p) (hsz : ∀ elems spare, d = .slice elems spare → (elems.length + spare.length) * Tryd.prog.bytesOf 5 ≤ reachBytes) :
    ∃ bs : Hw.Bytes, RdB (fun k => W.heap.size ≤ k) W v bs ∧ bs.length ≤ 1000000000000000 := by
  obtain ⟨a, len, cap, rfl⟩ := okWide_slice Tryd.underlying22 hval
  obtain ⟨fuel, hf⟩ := h
  rcases open_ints Tryd.underlying22 Tryd.underlying5 (by kernel_rfl) hf with ⟨hcs, _⟩ | ⟨x, l, c, zs, hcs, _, hl, hm, hz, hx, hcell, hwz⟩
  · simp [Value.cells] at hcs
    obtain ⟨rfl, rfl, rfl⟩ := hcs
    exact ⟨[], RdB.nil _ _, Nat.zero_le _⟩
  · simp [Value.cells] at hcs
    obtain ⟨rfl, rfl, rfl⟩ := hcs
    simp only [if_true] at hz
    have hd : d = .slice (lits .u8 (zs.take len)) (lits .u8 (zs.drop len)) := (Prod.mk.inj hx).1
    have h1 := hsz _ _ hd
    rw [bytes_u8] at h1
    simp only [lits, List.length_map, List.length_take, List.length_drop, reachBytes] at h1
    simp only [Value.okWide, Tryd.underlying22, Cell.okWide, Cell.ok] at hval
    obtain ⟨_, _, _, hsp, row, cells, hsh, _⟩ := hval
    have hlt : x.block < W.heap.size := by
      rcases Nat.lt_or_ge x.block W.heap.size with h | h
      · exact h
      · simp [World.shape?, Array.getElem?_eq_none h] at hsh
    have hlen : ((zs.take len).map fun n => UInt8.ofNat n.toNat).length = len := by simp; omega
    refine ⟨(zs.take len).map fun n => UInt8.ofNat n.toNat, ⟨some x, cap, by rw [hlen], by simp [u8s_length], by omega, hm, fun h => (by cases h), fun ad hA _ => ?_⟩, by rw [hlen]; omega⟩
    cases hA
    refine ⟨hsp, by omega, hlt, fun i y hy => ?_⟩
    have hi : i < len := by
      have := (List.getElem?_eq_some_iff.1 hy).1
      rw [u8s_length, hlen] at this; exact this
    have hc := hcell i (by omega)
    have ha : x.add i = ⟨x.block, x.off + i, none⟩ := by
      have : x = ⟨x.block, x.off, none⟩ := by cases x; simp_all
      rw [this]; exact Addr.add_lit _ _ _
    rw [ha] at hc
    rw [hc]
    have hzi : zs[i]? = some zs[i] := List.getElem?_eq_getElem (by omega)
    have hw := hwz zs[i] (List.getElem_mem _)
    have hb := bounds_u8 hw
    rw [← hy]
    simp only [u8s, List.map_map, List.getElem?_map, List.getElem?_take, if_pos hi, hzi, Option.map_some, Function.comp, List.getD, Option.getD_some]
    congr 2
    simp
    omega
end Go.Proofs.YtihncdlbbhmglaaDoor

/- Arguments: rows of bytes. -/
namespace Go.Proofs.YtihncdlbbhmglaaDoor
open Go.ChangeShapes Go.WideShapes Go.ChangeAt Go.RowKit Go.Deep

def u8of (zs : List Int) : Hw.Bytes := zs.map fun n => UInt8.ofNat n.toNat
/-- Numbers in cells read as bytes. -/
theorem rdB_row {W : World} {M : Nat → Prop} {A : Option Addr} {L C : Nat} {zs : List Int} (hM : ∀ b, b < W.heap.size → ¬ M b) (h1 : L ≤ C) (h2 : C ≤ maxLen) (h3 : zs.length = C) (hw : ∀ n ∈ zs, (Lit.int .u8 n).wf = true) (h4 : A = none → C = 0)
    (h5 : ∀ a', A = some a' → ∀ c, c < C → W.cell? (a'.add c) = some (.int .u8 (zs.getD c 0))) : RdB M W (.slice A L C) (u8of (zs.take L)) := by
  have hlen : (u8of (zs.take L)).length = L := by simp [u8of]; omega
  refine ⟨A, C, by rw [hlen], by simp [u8s_length], by omega, h2, h4, fun ad hA hc => ?_⟩
  have hcell := h5 ad hA
  have h0 := hcell 0 hc
  have hsp : ad.spot = none := by
    have : ad.add 0 = ad := by cases ad; rfl
    rw [this] at h0
    cases ad; exact World.cell?_spot h0
  have ha : ∀ i, ad.add i = ⟨ad.block, ad.off + i, none⟩ := by
    intro i
    have : ad = ⟨ad.block, ad.off, none⟩ := by cases ad; simp_all
    rw [this]; exact Addr.add_lit _ _ _
  have hlt : ad.block < W.heap.size := by
    rw [ha 0] at h0
    have h6 := World.block_lt_of_cell? W _ h0
    exact h6
  refine ⟨hsp, hM _ hlt, hlt, fun i y hy => ?_⟩
  have hi : i < L := by
    have := (List.getElem?_eq_some_iff.1 hy).1
    rw [u8s_length, hlen] at this; exact this
  have hc := hcell i (by omega)
  rw [ha i] at hc
  rw [hc]
  have hzi : zs[i]? = some zs[i] := List.getElem?_eq_getElem (by omega)
  have hw := hw zs[i] (List.getElem_mem _)
  have hb := bounds_u8 hw
  rw [← hy]
  simp only [u8s, u8of, List.map_map, List.getElem?_map, List.getElem?_take, if_pos hi, hzi, Option.map_some, Function.comp, List.getD, Option.getD_some]
  congr 2
  simp
  omega
theorem RdRows.of_map {M : Nat → Prop} {w : World} {α : Type} (f : α → Value) (g : α → Hw.Bytes) : ∀ (l : List α), (∀ x ∈ l, RdB M w (f x) (g x)) → RdRows M w (l.map f) (l.map g)
  | [], _ => trivial
  | x :: l, h => ⟨h x (by simp), RdRows.of_map f g l (fun y hy => h y (by simp [hy]))⟩
theorem cells_u8 : Tryd.prog.cellsOf 5 = 1 := by kernel_rfl
theorem cells_bytes : Tryd.prog.cellsOf 22 = 1 := by kernel_rfl
/-- Rows in cells. -/
theorem rdRows_cells {H : Type} {enc : TypeId × Value → H} {W : World} {base fuel : Nat} {v : Value} {x : DataW H × List MemPlace} (hv : ∃ A n c, v = .slice A n c) (hf : DataW.trod enc Tryd.prog W base (fun _ => true) true fuel 47 [v] = some x) (M : Nat → Prop) (hM : ∀ b, b < W.heap.size → ¬ M b) :
    ∃ (rs : List Hw.Bytes) (us : List Value), RdC M W 1 v rs.length us ∧ RdRows M W us rs := by
  rcases open_int_rows Tryd.underlying47 Tryd.underlying22 Tryd.underlying5 cells_bytes cells_u8 hf with ⟨hcs, _⟩ | ⟨a, len, cap, A, L, C, Z, hcs, _, hl, hm, _, hr⟩
  · obtain rfl : v = .slice none 0 0 := by simpa using hcs
    exact ⟨[], [], RdC.nil _ _ _, trivial⟩
  · obtain rfl : v = .slice (some a) len cap := by simpa using hcs
    refine ⟨(List.range len).map fun r => u8of ((Z r).take (L r)), (List.range len).map fun r => .slice (A r) (L r) (C r), ⟨some a, cap, by simp, by simp, by simpa using hl, hm, (fun h => by cases h), fun ad hA hc => ?_⟩, RdRows.of_map _ _ _ (fun r hr' => ?_)⟩
    · cases hA
      have h0 := (hr 0 hc).1
      have hsp : a.spot = none := by
        have : a.add 0 = a := by cases a; rfl
        rw [this] at h0
        cases a; exact World.cell?_spot h0
      have ha : ∀ i, a.add i = ⟨a.block, a.off + i, none⟩ := by
        intro i
        have : a = ⟨a.block, a.off, none⟩ := by cases a; simp_all
        rw [this]; exact Addr.add_lit _ _ _
      have hlt : a.block < W.heap.size := by
        rw [ha 0] at h0
        have h6 := World.block_lt_of_cell? W _ h0
        exact h6
      refine ⟨hsp, hM _ hlt, hlt, fun i y hy => ?_⟩
      have hi : i < len := by simpa using (List.getElem?_eq_some_iff.1 hy).1
      have := (hr i (by omega)).1
      rw [ha i] at this
      rw [this, ← hy]; simp [hi]
    · have hlt := hr r (by have := List.mem_range.1 hr'; omega)
      obtain ⟨_, q1, q2, q3, q4, q5, q6⟩ := hlt
      exact rdB_row hM q1 q2 q3 q4 q5 (fun a' h c hc => (q6 a' h).2 c hc)
set_option maxRecDepth 100000 in
theorem argRows {H : Type} {enc : TypeId × Value → H} {W : World} {base : Nat} {v : Value} {d : DataW H} {p : List MemPlace} (hval : Value.okWide Tryd.prog W .any base 47 v)
    (h : DataW.Trod enc Tryd.prog W 0 (fun _ => true) true 47 v d p) : ∃ (rs : List Hw.Bytes) (us : List Value), RdC (fun k => W.heap.size ≤ k) W 1 v rs.length us ∧ RdRows (fun k => W.heap.size ≤ k) W us rs := by
  obtain ⟨a, len, cap, rfl⟩ := okWide_slice Tryd.underlying47 hval
  obtain ⟨fuel, hf⟩ := h
  exact rdRows_cells ⟨_, _, _, rfl⟩ (by simpa [Value.cells] using hf) _ (fun b hb => by omega)
end Go.Proofs.YtihncdlbbhmglaaDoor
