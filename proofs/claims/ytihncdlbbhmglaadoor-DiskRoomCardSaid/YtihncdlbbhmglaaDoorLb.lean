/- Words of the walks: maps whose keys are ints. -/
import Derived.Test.YtihncdlbbhmglaaDoorLa
import Derived.MapKept
import Derived.Maps.OwnOps
import Derived.Maps.RangeWalk
import Derived.Maps.OwnSet
namespace Go.Proofs.YtihncdlbbhmglaaDoor
open Go.RowKit Go.MapKept

structure ME where
  key : Int
  val : Value
  born : Nat
def ment (x : ME) : MapEntry := { key := .int .i64 x.key, val := x.val, born := x.born }
/-- Block bm is a map of these entries, each stamped once, behind which the clock is. -/
structure MapIs (w : World) (bm : Nat) (l : List ME) (clock : Nat) : Prop where
  blk : w.heap[bm]? = some (.map (l.map ment).toArray clock)
  borns : (l.map (·.born)).Nodup
  below : ∀ x ∈ l, x.born < clock
def mlook : List ME → Int → Option Value
  | [], _ => none
  | x :: l, k => if x.key = k then some x.val else mlook l k
def mset : List ME → Int → Value → Nat → List ME
  | [], k, v, c => [⟨k, v, c⟩]
  | x :: l, k, v, c => if x.key = k then ⟨x.key, v, x.born⟩ :: l else x :: mset l k v c
def mdel : List ME → Int → List ME
  | [], _ => []
  | x :: l, k => if x.key = k then l else x :: mdel l k
theorem map_erase (l : List ME) : ∀ j, (l.map ment).eraseIdx j = (l.eraseIdx j).map ment := by
  induction l with
  | nil => intro j; simp
  | cons x l ih => intro j; cases j <;> simp [ih]
theorem findNow_none {k : Int} : ∀ (l : List ME) (i : Nat), mlook l k = none → Instr.findNow (.int .i64) (.int .i64 k) (l.map ment) i = some none := by
  intro l
  induction l with
  | nil => intro i _; rfl
  | cons x l ih =>
    intro i h
    unfold mlook at h
    split at h
    · cases h
    · rename_i hne
      have : (k == x.key) = false := by simp; exact fun e => hne e.symm
      simp [Instr.findNow, Instr.sameNow, ment, this, ih (i + 1) h]
theorem findNow_some {k : Int} {v : Value} : ∀ (l : List ME) (i : Nat), mlook l k = some v → ∃ j, Instr.findNow (.int .i64) (.int .i64 k) (l.map ment) i = some (some (i + j, v)) ∧
    (∃ x, l[j]? = some x ∧ x.key = k) ∧ l.eraseIdx j = mdel l k ∧ (∀ u c, l.modify j (fun x => ⟨x.key, u, x.born⟩) = mset l k u c) := by
  intro l
  induction l with
  | nil => intro i h; cases h
  | cons x l ih =>
    intro i h
    unfold mlook at h
    split at h
    · rename_i he
      cases h
      refine ⟨0, by simp [Instr.findNow, Instr.sameNow, ment, he], ⟨x, rfl, he⟩, by simp [mdel, he], fun u c => by simp [mset, he]⟩
    · rename_i hne
      obtain ⟨j, h1, ⟨y, h2, h2'⟩, h3, h4⟩ := ih (i + 1) h
      have : (k == x.key) = false := by simp; exact fun e => hne e.symm
      refine ⟨j + 1, by simp [Instr.findNow, Instr.sameNow, ment, this] at h1 ⊢; rw [h1]; simp; omega, ⟨y, by simpa using h2, h2'⟩, by simp [mdel, hne, h3], fun u c => by simp [mset, hne, ← h4 u c]⟩
theorem mset_new {k : Int} (v : Value) (c : Nat) : ∀ (l : List ME), mlook l k = none → mset l k v c = l ++ [⟨k, v, c⟩] := by
  intro l
  induction l with
  | nil => intro _; rfl
  | cons x l ih =>
    intro h
    unfold mlook at h
    split at h
    · cases h
    · rename_i hne; simp [mset, hne, ih h]
theorem map_modify_ment (l : List ME) (j : Nat) (k : Int) (u : Value) (hk : ∃ x, l[j]? = some x ∧ x.key = k) :
    ((l.map ment).toArray.modify j fun e => { e with key := .int .i64 k, val := u }) = ((l.modify j fun x => ⟨x.key, u, x.born⟩).map ment).toArray := by
  obtain ⟨x, hx, hk⟩ := hk
  apply Array.ext_getElem?
  intro i
  rw [Array.getElem?_modify]
  simp only [List.getElem?_toArray, List.getElem?_map, List.getElem?_modify]
  by_cases h : j = i
  · subst h; simp [hx, ment, hk]
  · simp [h]

section
variable {P : Program} {w : World} {bm : Nat} {l : List ME} {clock : Nat} {t e kt : TypeId}
theorem run_lookup_some (ht : P.underlying t = some (.map kt e)) (hk : P.underlying kt = some (.int .i64)) (h : MapIs w bm l clock) {k : Int} {v : Value} (hl : mlook l k = some v) :
    (Instr.lookup t (.map (some bm)) (.int .i64 k) false).run P w = .ok v w := by
  obtain ⟨j, h1, _⟩ := findNow_some l 0 hl
  have hc := run_checkKey (P := P) (w := w) hk (k := .int .i64 k) (by simp [IsKey]) ((l.map ment).toArray.isEmpty) 9999
  have hf := run_findKey (P := P) (w := w) hk h1
  simp only [Instr.lookup, Sem.run_bind, run_underlying ht, Result.andThen, Go.MapKept.run_getObj_map h.blk, Sem.run_pure, hc]
  simp only [List.toList_toArray, hf, Sem.run_bind, Sem.run_pure, Result.andThen]
  simp
theorem run_lookup_none (ht : P.underlying t = some (.map kt e)) (hk : P.underlying kt = some (.int .i64)) {z : Value} (hz : (zeroValue e).run P w = .ok z w) (h : MapIs w bm l clock) {k : Int} (hl : mlook l k = none) :
    (Instr.lookup t (.map (some bm)) (.int .i64 k) false).run P w = .ok z w := by
  have h1 := findNow_none l 0 hl
  have hc := run_checkKey (P := P) (w := w) hk (k := .int .i64 k) (by simp [IsKey]) ((l.map ment).toArray.isEmpty) 9999
  have hf := run_findKey (P := P) (w := w) hk h1
  simp only [Instr.lookup, Sem.run_bind, run_underlying ht, Result.andThen, Go.MapKept.run_getObj_map h.blk, Sem.run_pure, hc]
  simp only [List.toList_toArray, hf, Sem.run_bind, Sem.run_pure, Result.andThen, hz]
  simp
/-- The world with another map in block bm. -/
def withMap (w : World) (bm : Nat) (l : List ME) (clock : Nat) : World := { w with heap := w.heap.setIfInBounds bm (.map (l.map ment).toArray clock) }
theorem withMap_other (w : World) (bm : Nat) (l : List ME) (clock : Nat) (k : Nat) (hk : k ≠ bm) : (withMap w bm l clock).heap[k]? = w.heap[k]? := by
  simp [withMap, Ne.symm hk]
theorem withMap_upd (w : World) (bm : Nat) (l : List ME) (clock : Nat) : Upd (fun n => n = bm) w (withMap w bm l clock) :=
  ⟨rfl, rfl, rfl, by simp [withMap], fun k _ hk => withMap_other w bm l clock k hk⟩
theorem withMap_is (h : w.heap[bm]? = some (.map (l.map ment).toArray clock)) {l' : List ME} {c' : Nat} (h2 : (l'.map (·.born)).Nodup) (h3 : ∀ x ∈ l', x.born < c') : MapIs (withMap w bm l' c') bm l' c' :=
  ⟨(heap_set h).1, h2, h3⟩
theorem sameBits_int (k : Int) : Instr.sameBits 10000 (.int .i64 k) (.int .i64 k) = true := by simp [Instr.sameBits]
theorem run_update_some (ht : P.underlying t = some (.map kt e)) (hk : P.underlying kt = some (.int .i64)) (h : MapIs w bm l clock) {k : Int} {v u : Value} (hl : mlook l k = some v) :
    (Instr.mapUpdate t (.map (some bm)) (.int .i64 k) u).run P w = .ok () (withMap w bm (mset l k u clock) clock) := by
  obtain ⟨j, h1, ⟨x, hx, hxk⟩, _, h4⟩ := findNow_some l 0 hl
  have hc := run_checkKey (P := P) (w := w) hk (k := .int .i64 k) (by simp [IsKey]) false 9999
  have hf := run_findKey (P := P) (w := w) hk h1
  have hkey : (((l.map ment).toArray[0 + j]?).map (·.key)).getD (.int .i64 k) = .int .i64 k := by simp [hx, ment, hxk]
  have hst : (Instr.keyThatStays (.int .i64 k) (.int .i64 k)).run P w = .ok (.int .i64 k) w := by unfold Instr.keyThatStays; rw [if_pos (sameBits_int k)]; rfl
  have hm := map_modify_ment l j k u ⟨x, hx, hxk⟩
  simp only [Instr.mapUpdate, Sem.run_bind, run_underlying ht, Result.andThen, Go.MapKept.run_getObj_map h.blk, hc]
  simp only [List.toList_toArray, hf, Sem.run_bind, Result.andThen, hkey, hst]
  rw [Nat.zero_add, hm, h4 u clock]
  exact Go.MapKept.run_setObj_map _ h.blk
theorem run_update_none (ht : P.underlying t = some (.map kt e)) (hk : P.underlying kt = some (.int .i64)) (h : MapIs w bm l clock) {k : Int} {u : Value} (hl : mlook l k = none) :
    (Instr.mapUpdate t (.map (some bm)) (.int .i64 k) u).run P w = .ok () (withMap w bm (mset l k u clock) (clock + 1)) := by
  have h1 := findNow_none l 0 hl
  have hc := run_checkKey (P := P) (w := w) hk (k := .int .i64 k) (by simp [IsKey]) false 9999
  have hf := run_findKey (P := P) (w := w) hk h1
  simp only [Instr.mapUpdate, Sem.run_bind, run_underlying ht, Result.andThen, Go.MapKept.run_getObj_map h.blk, hc]
  simp only [List.toList_toArray, hf]
  rw [mset_new u clock l hl]
  have : (l.map ment).toArray.push { key := .int .i64 k, val := u, born := clock } = ((l ++ [(⟨k, u, clock⟩ : ME)]).map ment).toArray := by simp [ment]
  rw [this]
  exact Go.MapKept.run_setObj_map _ h.blk
theorem run_delete_some {ty : TypeId} (ht : P.underlying t = some (.map kt e)) (hk : P.underlying kt = some (.int .i64)) (h : MapIs w bm l clock) {k : Int} {v : Value} (hl : mlook l k = some v) (t2 : TypeId) :
    (Builtin.delete_ #[t, t2] ty #[.map (some bm), .int .i64 k]).run P w = .ok (.tuple #[]) (withMap w bm (mdel l k) clock) := by
  obtain ⟨j, h1, _, h3, _⟩ := findNow_some l 0 hl
  have hc := run_checkKey (P := P) (w := w) hk (k := .int .i64 k) (by simp [IsKey]) ((l.map ment).toArray.isEmpty) 9999
  have hf := run_findKey (P := P) (w := w) hk h1
  have he : (l.map ment).toArray.eraseIdxIfInBounds j = ((mdel l k).map ment).toArray := by
    rw [← h3]
    apply Array.toList_inj.1
    simp only [Array.eraseIdxIfInBounds, List.size_toArray, List.length_map]
    split
    · simp [map_erase]
    · rename_i hge; rw [List.eraseIdx_of_length_le (by omega)]
  have hs := Go.MapKept.run_setObj_map (P := P) (.map ((mdel l k).map ment).toArray clock) h.blk
  simp only [Builtin.delete_, List.getElem?_toArray, List.getElem?_cons_zero, List.getElem?_cons_succ, Sem.run_bind, run_underlying ht, Result.andThen, Go.MapKept.run_getObj_map h.blk, hc]
  simp only [List.toList_toArray, hf, Nat.zero_add, he]
  rw [Sem.run_bind, hs]; rfl

/-! ### ranging over a map -/
/-- Block r goes over map bm; these stamps have come. -/
def IterAt (w : World) (r bm clock : Nat) (seen : Array Nat) : Prop := w.heap[r]? = some (.mapIter (some bm) clock seen clock)
theorem run_range_map (ht : P.underlying t = some (.map kt e)) (h : MapIs w bm l clock) :
    (Instr.range t (.map (some bm))).run P w = .ok (.pointer (some ⟨w.heap.size, 0, none⟩)) (w.alloc (.mapIter (some bm) clock #[] clock)) := by
  simp only [Instr.range, Sem.run_bind, run_underlying ht, Result.andThen, Go.MapKept.run_getObj_map h.blk]
  rfl
theorem iter_new (w : World) (bm clock : Nat) : IterAt (w.alloc (.mapIter (some bm) clock #[] clock)) w.heap.size bm clock #[] := heap_alloc_new w _
def withIter (w : World) (r bm clock : Nat) (seen : Array Nat) : World := Go.ChangeMaps.setBlock w r (.mapIter (some bm) clock seen clock)
theorem withIter_upd (w : World) (r bm clock : Nat) (seen : Array Nat) : Upd (fun n => n = r) w (withIter w r bm clock seen) :=
  ⟨rfl, rfl, rfl, by simp [withIter, Go.ChangeMaps.setBlock], fun k _ hk => by simp [withIter, Go.ChangeMaps.setBlock, Ne.symm hk]⟩
theorem withIter_at {w : World} {r bm clock : Nat} {seen : Array Nat} (h : IterAt w r bm clock seen) (s' : Array Nat) : IterAt (withIter w r bm clock s') r bm clock s' := by
  have hlt : r < w.heap.size := (Array.getElem?_eq_some_iff.1 h).1
  simp [IterAt, withIter, Go.ChangeMaps.setBlock, hlt]
/-- The step: nothing is left, or one of those that have not come comes. -/
theorem run_next_map {r : Nat} {seen : Array Nat} (h : MapIs w bm l clock) (hi : IterAt w r bm clock seen) (ty : TypeId) :
    ((∀ x ∈ l, x.born ∈ seen) ∧ (Instr.next (.pointer (some ⟨r, 0, none⟩)) false ty).run P w = .ok (.tuple #[.bool false]) w) ∨
    ∃ x w1, (w1 = w ∨ w1 = w.drew) ∧ x ∈ l ∧ x.born ∉ seen ∧ (Instr.next (.pointer (some ⟨r, 0, none⟩)) false ty).run P w = .ok (.tuple #[.bool true, .int .i64 x.key, x.val]) (withIter w1 r bm clock (seen.push x.born)) := by
  have hold : ∀ x ∈ (l.map ment).toArray.toList, x.born < clock := by
    intro x hx
    simp only [List.toList_toArray, List.mem_map] at hx
    obtain ⟨y, hy, rfl⟩ := hx
    exact h.below y hy
  rcases run_next_at (P := P) w ty r bm clock clock seen (l.map ment).toArray clock hi h.blk hold (Nat.le_refl _) with ⟨h0, hrun⟩ | ⟨e, he, w1, hal, hrun⟩
  · refine .inl ⟨fun x hx => ?_, hrun⟩
    have := all_seen _ _ h0 (ment x) (by simp; exact ⟨x, hx, rfl⟩)
    simpa [ment] using this
  · have hm := mem_left he
    simp only [List.toList_toArray, List.mem_map] at hm
    obtain ⟨⟨x, hx, rfl⟩, hs⟩ := hm
    exact .inr ⟨x, w1, hal, hx, by simpa [ment] using hs, hrun⟩
theorem run_entry_map {r : Nat} {seen : Array Nat} {x : ME} (h : MapIs w bm l clock) (hx : x ∈ l) (hi : IterAt w r bm clock (seen.push x.born)) :
    (Instr.entry (.pointer (some ⟨r, 0, none⟩))).run P w = .ok (.tuple #[.int .i64 x.key, x.val]) w :=
  run_entry_at (P := P) w r bm clock seen (l.map ment).toArray clock (ment x) hi h.blk (by simp; exact ⟨x, hx, rfl⟩) (by have := h.borns; simpa [List.map_map, Function.comp_def, ment] using this)
end

/-! ### at the operations -/
section
variable {P : Program} {w : World} {bm : Nat} {l : List ME} {clock : Nat} {t e kt : TypeId} {ops : Array Oper} {rest : List Oper} {o : Oper} {a : Act} {Q : Exit → Act → World → Prop}
theorem wpLookup (hgd : o.guard = none) (m x : Operand) (hop : o.op = Op.lookup t m x false) (ht : P.underlying t = some (.map kt e)) (hk : P.underlying kt = some (.int .i64)) {z : Value} (hz : ∀ w, (zeroValue e).run P w = .ok z w)
    (h : MapIs w bm l clock) (hm : a.eval m = .map (some bm)) {k : Int} (hx : a.eval x = .int .i64 k) (hK : wpList P ops Q rest (a.put o.dst ((mlook l k).getD z)) w) : wpList P ops Q (o :: rest) a w := by
  refine wpList_plain hgd fun K' hK' => ?_
  have hrun : (Instr.lookup t (.map (some bm)) (.int .i64 k) false).run P w = .ok ((mlook l k).getD z) w := by
    cases hl : mlook l k with
    | none => exact run_lookup_none ht hk (hz w) h hl
    | some v => exact run_lookup_some ht hk h hl
  unfold Oper.wp
  simp [execOp, hop, hm, hx, hrun, Result.andThen]
  exact hK' _ _ hK
def bump (l : List ME) (k : Int) (c : Nat) : Nat := if (mlook l k).isSome then c else c + 1
theorem wpUpdate (hgd : o.guard = none) (m x v : Operand) (hop : o.op = Op.mapUpdate t m x v) (ht : P.underlying t = some (.map kt e)) (hk : P.underlying kt = some (.int .i64))
    (h : MapIs w bm l clock) (hm : a.eval m = .map (some bm)) {k : Int} (hx : a.eval x = .int .i64 k) {u : Value} (hv : a.eval v = u)
    (hK : ∀ w', Hid (w' = withMap w bm (mset l k u clock) (bump l k clock)) → wpList P ops Q rest (a.put o.dst undef) w') : wpList P ops Q (o :: rest) a w := by
  refine wpList_plain hgd fun K' hK' => ?_
  have hrun : (Instr.mapUpdate t (.map (some bm)) (.int .i64 k) u).run P w = .ok () (withMap w bm (mset l k u clock) (bump l k clock)) := by
    unfold bump
    cases hl : mlook l k with
    | none => exact run_update_none ht hk h hl
    | some v => exact run_update_some ht hk h hl
  unfold Oper.wp
  simp [execOp, hop, hm, hx, hv, hrun, Result.andThen]
  exact hK' _ _ (hK _ rfl)
theorem wpDelete (hgd : o.guard = none) (m x : Operand) (t2 : TypeId) (hop : o.op = Op.call { callee := Callee.builtin Builtin.delete, args := #[m, x], argTypes := #[t, t2] }) (ht : P.underlying t = some (.map kt e)) (hk : P.underlying kt = some (.int .i64))
    (h : MapIs w bm l clock) (hm : a.eval m = .map (some bm)) {k : Int} (hx : a.eval x = .int .i64 k) {v : Value} (hl : mlook l k = some v)
    (hK : wpList P ops Q rest (a.put o.dst (.tuple #[])) (withMap w bm (mdel l k) clock)) : wpList P ops Q (o :: rest) a w := by
  refine wpList_plain hgd fun K' hK' => ?_
  have hrun := run_delete_some (ty := o.type) ht hk h hl t2
  unfold Oper.wp
  simp only [execOp, hop, resolve, invoke, builtin, Sem.run_bind, Sem.run_pure, Result.andThen_ok, List.map_toArray, List.map_cons, List.map_nil, hm, hx, hrun]
  exact hK' _ _ hK
theorem wpRange (hgd : o.guard = none) (m : Operand) (hop : o.op = Op.range t m) (ht : P.underlying t = some (.map kt e)) (h : MapIs w bm l clock) (hm : a.eval m = .map (some bm))
    (hK : wpList P ops Q rest (a.put o.dst (.pointer (some ⟨w.heap.size, 0, none⟩))) (w.alloc (.mapIter (some bm) clock #[] clock))) : wpList P ops Q (o :: rest) a w := by
  refine wpList_plain hgd fun K' hK' => ?_
  have hrun := run_range_map (P := P) ht h
  unfold Oper.wp
  simp [execOp, hop, hm, hrun, Result.andThen]
  exact hK' _ _ hK
structure AllSeen (l : List ME) (seen : Array Nat) : Prop where mk :: (out : ∀ x ∈ l, x.born ∈ seen)
structure Comes1 (w w1 : World) (l : List ME) (seen : Array Nat) (x : ME) : Prop where
  al : w1 = w ∨ w1 = w.drew
  mem : x ∈ l
  fresh : x.born ∉ seen
theorem wpNext (hgd : o.guard = none) (it : Operand) (hop : o.op = Op.next it false) {r : Nat} {seen : Array Nat} (h : MapIs w bm l clock) (hi : IterAt w r bm clock seen) (hit : a.eval it = .pointer (some ⟨r, 0, none⟩))
    (hDone : AllSeen l seen → wpList P ops Q rest (a.put o.dst (.tuple #[.bool false])) w)
    (hMore : ∀ (x : ME) (w1 : World), Comes1 w w1 l seen x → wpList P ops Q rest (a.put o.dst (.tuple #[.bool true, .int .i64 x.key, x.val])) (withIter w1 r bm clock (seen.push x.born))) :
    wpList P ops Q (o :: rest) a w := by
  refine wpList_plain hgd fun K' hK' => ?_
  unfold Oper.wp
  rcases run_next_map (P := P) h hi o.type with ⟨h0, hrun⟩ | ⟨x, w1, h1, h2, h3, hrun⟩
  · simp [execOp, hop, hit, hrun, Result.andThen]
    exact hK' _ _ (hDone ⟨h0⟩)
  · simp [execOp, hop, hit, hrun, Result.andThen]
    exact hK' _ _ (hMore x w1 ⟨h1, h2, h3⟩)
end
end Go.Proofs.YtihncdlbbhmglaaDoor
