/- Texts that build together: Lb Lc Wj Wk Ld Le Wl Wm Wn Wo. -/
import Derived.MapKept
import Derived.Maps.OwnOps
import Derived.Maps.RangeWalk
import Derived.Maps.OwnSet
import Derived.Test.YtihncdlbbhmglaaDoorQ1
set_option linter.unusedVariables false
set_option linter.unusedSimpArgs false
/- Words of the walks: maps whose keys are ints. -/
namespace Go.Proofs.YtihncdlbbhmglaaDoor
open Go.RowKit Go.MapKept

structure ME where
  key : Int
  val : Value
  born : Nat
def ment (x : ME) : MapEntry := { key := .int .i64 x.key, val := x.val, born := x.born }
/-- Block bm is a map of these entries, each stamped once, behind which the clock is. -/
structure MapIs (w : World) (bm : Nat) (l : List ME) (clock : Nat) : Prop where
  blk : w.heap[bm]? = some (.map (l.map ment).toArray clock)
  borns : (l.map (·.born)).Nodup
  below : ∀ x ∈ l, x.born < clock
def mlook : List ME → Int → Option Value
  | [], _ => none
  | x :: l, k => if x.key = k then some x.val else mlook l k
def mset : List ME → Int → Value → Nat → List ME
  | [], k, v, c => [⟨k, v, c⟩]
  | x :: l, k, v, c => if x.key = k then ⟨x.key, v, x.born⟩ :: l else x :: mset l k v c
def mdel : List ME → Int → List ME
  | [], _ => []
  | x :: l, k => if x.key = k then l else x :: mdel l k
theorem map_erase (l : List ME) : ∀ j, (l.map ment).eraseIdx j = (l.eraseIdx j).map ment := by
  induction l with
  | nil => intro j; simp
  | cons x l ih => intro j; cases j <;> simp [ih]
theorem findNow_none {k : Int} : ∀ (l : List ME) (i : Nat), mlook l k = none → Instr.findNow (.int .i64) (.int .i64 k) (l.map ment) i = some none := by
  intro l
  induction l with
  | nil => intro i _; rfl
  | cons x l ih =>
    intro i h
    unfold mlook at h
    split at h
    · cases h
    · rename_i hne
      have : (k == x.key) = false := by simp; exact fun e => hne e.symm
      simp [Instr.findNow, Instr.sameNow, ment, this, ih (i + 1) h]
theorem findNow_some {k : Int} {v : Value} : ∀ (l : List ME) (i : Nat), mlook l k = some v → ∃ j, Instr.findNow (.int .i64) (.int .i64 k) (l.map ment) i = some (some (i + j, v)) ∧
    (∃ x, l[j]? = some x ∧ x.key = k) ∧ l.eraseIdx j = mdel l k ∧ (∀ u c, l.modify j (fun x => ⟨x.key, u, x.born⟩) = mset l k u c) := by
  intro l
  induction l with
  | nil => intro i h; cases h
  | cons x l ih =>
    intro i h
    unfold mlook at h
    split at h
    · rename_i he
      cases h
      refine ⟨0, by simp [Instr.findNow, Instr.sameNow, ment, he], ⟨x, rfl, he⟩, by simp [mdel, he], fun u c => by simp [mset, he]⟩
    · rename_i hne
      obtain ⟨j, h1, ⟨y, h2, h2'⟩, h3, h4⟩ := ih (i + 1) h
      have : (k == x.key) = false := by simp; exact fun e => hne e.symm
      refine ⟨j + 1, by simp [Instr.findNow, Instr.sameNow, ment, this] at h1 ⊢; rw [h1]; simp; omega, ⟨y, by simpa using h2, h2'⟩, by simp [mdel, hne, h3], fun u c => by simp [mset, hne, ← h4 u c]⟩
theorem mset_new {k : Int} (v : Value) (c : Nat) : ∀ (l : List ME), mlook l k = none → mset l k v c = l ++ [⟨k, v, c⟩] := by
  intro l
  induction l with
  | nil => intro _; rfl
  | cons x l ih =>
    intro h
    unfold mlook at h
    split at h
    · cases h
    · rename_i hne; simp [mset, hne, ih h]
theorem map_modify_ment (l : List ME) (j : Nat) (k : Int) (u : Value) (hk : ∃ x, l[j]? = some x ∧ x.key = k) :
    ((l.map ment).toArray.modify j fun e => { e with key := .int .i64 k, val := u }) = ((l.modify j fun x => ⟨x.key, u, x.born⟩).map ment).toArray := by
  obtain ⟨x, hx, hk⟩ := hk
  apply Array.ext_getElem?
  intro i
  rw [Array.getElem?_modify]
  simp only [List.getElem?_toArray, List.getElem?_map, List.getElem?_modify]
  by_cases h : j = i
  · subst h; simp [hx, ment, hk]
  · simp [h]

section
variable {P : Program} {w : World} {bm : Nat} {l : List ME} {clock : Nat} {t e kt : TypeId}
theorem run_lookup_some (ht : P.underlying t = some (.map kt e)) (hk : P.underlying kt = some (.int .i64)) (h : MapIs w bm l clock) {k : Int} {v : Value} (hl : mlook l k = some v) :
    (Instr.lookup t (.map (some bm)) (.int .i64 k) false).run P w = .ok v w := by
  obtain ⟨j, h1, _⟩ := findNow_some l 0 hl
  have hc := run_checkKey (P := P) (w := w) hk (k := .int .i64 k) (by simp [IsKey]) ((l.map ment).toArray.isEmpty) 9999
  have hf := run_findKey (P := P) (w := w) hk h1
  simp only [Instr.lookup, Sem.run_bind, run_underlying ht, Result.andThen, Go.MapKept.run_getObj_map h.blk, Sem.run_pure, hc]
  simp only [List.toList_toArray, hf, Sem.run_bind, Sem.run_pure, Result.andThen]
  simp
theorem run_lookup_none (ht : P.underlying t = some (.map kt e)) (hk : P.underlying kt = some (.int .i64)) {z : Value} (hz : (zeroValue e).run P w = .ok z w) (h : MapIs w bm l clock) {k : Int} (hl : mlook l k = none) :
    (Instr.lookup t (.map (some bm)) (.int .i64 k) false).run P w = .ok z w := by
  have h1 := findNow_none l 0 hl
  have hc := run_checkKey (P := P) (w := w) hk (k := .int .i64 k) (by simp [IsKey]) ((l.map ment).toArray.isEmpty) 9999
  have hf := run_findKey (P := P) (w := w) hk h1
  simp only [Instr.lookup, Sem.run_bind, run_underlying ht, Result.andThen, Go.MapKept.run_getObj_map h.blk, Sem.run_pure, hc]
  simp only [List.toList_toArray, hf, Sem.run_bind, Sem.run_pure, Result.andThen, hz]
  simp
/-- The world with another map in block bm. -/
def withMap (w : World) (bm : Nat) (l : List ME) (clock : Nat) : World := { w with heap := w.heap.setIfInBounds bm (.map (l.map ment).toArray clock) }
theorem withMap_other (w : World) (bm : Nat) (l : List ME) (clock : Nat) (k : Nat) (hk : k ≠ bm) : (withMap w bm l clock).heap[k]? = w.heap[k]? := by
  simp [withMap, Ne.symm hk]
theorem withMap_upd (w : World) (bm : Nat) (l : List ME) (clock : Nat) : Upd (fun n => n = bm) w (withMap w bm l clock) :=
  ⟨rfl, rfl, rfl, by simp [withMap], fun k _ hk => withMap_other w bm l clock k hk⟩
theorem withMap_is (h : w.heap[bm]? = some (.map (l.map ment).toArray clock)) {l' : List ME} {c' : Nat} (h2 : (l'.map (·.born)).Nodup) (h3 : ∀ x ∈ l', x.born < c') : MapIs (withMap w bm l' c') bm l' c' :=
  ⟨(heap_set h).1, h2, h3⟩
theorem sameBits_int (k : Int) : Instr.sameBits 10000 (.int .i64 k) (.int .i64 k) = true := by simp [Instr.sameBits]
theorem run_update_some (ht : P.underlying t = some (.map kt e)) (hk : P.underlying kt = some (.int .i64)) (h : MapIs w bm l clock) {k : Int} {v u : Value} (hl : mlook l k = some v) :
    (Instr.mapUpdate t (.map (some bm)) (.int .i64 k) u).run P w = .ok () (withMap w bm (mset l k u clock) clock) := by
  obtain ⟨j, h1, ⟨x, hx, hxk⟩, _, h4⟩ := findNow_some l 0 hl
  have hc := run_checkKey (P := P) (w := w) hk (k := .int .i64 k) (by simp [IsKey]) false 9999
  have hf := run_findKey (P := P) (w := w) hk h1
  have hkey : (((l.map ment).toArray[0 + j]?).map (·.key)).getD (.int .i64 k) = .int .i64 k := by simp [hx, ment, hxk]
  have hst : (Instr.keyThatStays (.int .i64 k) (.int .i64 k)).run P w = .ok (.int .i64 k) w := by unfold Instr.keyThatStays; rw [if_pos (sameBits_int k)]; rfl
  have hm := map_modify_ment l j k u ⟨x, hx, hxk⟩
  simp only [Instr.mapUpdate, Sem.run_bind, run_underlying ht, Result.andThen, Go.MapKept.run_getObj_map h.blk, hc]
  simp only [List.toList_toArray, hf, Sem.run_bind, Result.andThen, hkey, hst]
  rw [Nat.zero_add, hm, h4 u clock]
  exact Go.MapKept.run_setObj_map _ h.blk
theorem run_update_none (ht : P.underlying t = some (.map kt e)) (hk : P.underlying kt = some (.int .i64)) (h : MapIs w bm l clock) {k : Int} {u : Value} (hl : mlook l k = none) :
    (Instr.mapUpdate t (.map (some bm)) (.int .i64 k) u).run P w = .ok () (withMap w bm (mset l k u clock) (clock + 1)) := by
  have h1 := findNow_none l 0 hl
  have hc := run_checkKey (P := P) (w := w) hk (k := .int .i64 k) (by simp [IsKey]) false 9999
  have hf := run_findKey (P := P) (w := w) hk h1
  simp only [Instr.mapUpdate, Sem.run_bind, run_underlying ht, Result.andThen, Go.MapKept.run_getObj_map h.blk, hc]
  simp only [List.toList_toArray, hf]
  rw [mset_new u clock l hl]
  have : (l.map ment).toArray.push { key := .int .i64 k, val := u, born := clock } = ((l ++ [(⟨k, u, clock⟩ : ME)]).map ment).toArray := by simp [ment]
  rw [this]
  exact Go.MapKept.run_setObj_map _ h.blk
theorem run_delete_some {ty : TypeId} (ht : P.underlying t = some (.map kt e)) (hk : P.underlying kt = some (.int .i64)) (h : MapIs w bm l clock) {k : Int} {v : Value} (hl : mlook l k = some v) (t2 : TypeId) :
    (Builtin.delete_ #[t, t2] ty #[.map (some bm), .int .i64 k]).run P w = .ok (.tuple #[]) (withMap w bm (mdel l k) clock) := by
  obtain ⟨j, h1, _, h3, _⟩ := findNow_some l 0 hl
  have hc := run_checkKey (P := P) (w := w) hk (k := .int .i64 k) (by simp [IsKey]) ((l.map ment).toArray.isEmpty) 9999
  have hf := run_findKey (P := P) (w := w) hk h1
  have he : (l.map ment).toArray.eraseIdxIfInBounds j = ((mdel l k).map ment).toArray := by
    rw [← h3]
    apply Array.toList_inj.1
    simp only [Array.eraseIdxIfInBounds, List.size_toArray, List.length_map]
    split
    · simp [map_erase]
    · rename_i hge; rw [List.eraseIdx_of_length_le (by omega)]
  have hs := Go.MapKept.run_setObj_map (P := P) (.map ((mdel l k).map ment).toArray clock) h.blk
  simp only [Builtin.delete_, List.getElem?_toArray, List.getElem?_cons_zero, List.getElem?_cons_succ, Sem.run_bind, run_underlying ht, Result.andThen, Go.MapKept.run_getObj_map h.blk, hc]
  simp only [List.toList_toArray, hf, Nat.zero_add, he]
  rw [Sem.run_bind, hs]; rfl

/-! ### ranging over a map -/
/-- Block r goes over map bm; these stamps have come. -/
def IterAt (w : World) (r bm clock : Nat) (seen : Array Nat) : Prop := w.heap[r]? = some (.mapIter (some bm) clock seen clock)
theorem run_range_map (ht : P.underlying t = some (.map kt e)) (h : MapIs w bm l clock) :
    (Instr.range t (.map (some bm))).run P w = .ok (.pointer (some ⟨w.heap.size, 0, none⟩)) (w.alloc (.mapIter (some bm) clock #[] clock)) := by
  simp only [Instr.range, Sem.run_bind, run_underlying ht, Result.andThen, Go.MapKept.run_getObj_map h.blk]
  rfl
theorem iter_new (w : World) (bm clock : Nat) : IterAt (w.alloc (.mapIter (some bm) clock #[] clock)) w.heap.size bm clock #[] := heap_alloc_new w _
def withIter (w : World) (r bm clock : Nat) (seen : Array Nat) : World := Go.ChangeMaps.setBlock w r (.mapIter (some bm) clock seen clock)
theorem withIter_upd (w : World) (r bm clock : Nat) (seen : Array Nat) : Upd (fun n => n = r) w (withIter w r bm clock seen) :=
  ⟨rfl, rfl, rfl, by simp [withIter, Go.ChangeMaps.setBlock], fun k _ hk => by simp [withIter, Go.ChangeMaps.setBlock, Ne.symm hk]⟩
theorem withIter_at {w : World} {r bm clock : Nat} {seen : Array Nat} (h : IterAt w r bm clock seen) (s' : Array Nat) : IterAt (withIter w r bm clock s') r bm clock s' := by
  have hlt : r < w.heap.size := (Array.getElem?_eq_some_iff.1 h).1
  simp [IterAt, withIter, Go.ChangeMaps.setBlock, hlt]
/-- The step: nothing is left, or one of those that have not come comes. -/
theorem run_next_map {r : Nat} {seen : Array Nat} (h : MapIs w bm l clock) (hi : IterAt w r bm clock seen) (ty : TypeId) :
    ((∀ x ∈ l, x.born ∈ seen) ∧ (Instr.next (.pointer (some ⟨r, 0, none⟩)) false ty).run P w = .ok (.tuple #[.bool false]) w) ∨
    ∃ x w1, (w1 = w ∨ w1 = w.drew) ∧ x ∈ l ∧ x.born ∉ seen ∧ (Instr.next (.pointer (some ⟨r, 0, none⟩)) false ty).run P w = .ok (.tuple #[.bool true, .int .i64 x.key, x.val]) (withIter w1 r bm clock (seen.push x.born)) := by
  have hold : ∀ x ∈ (l.map ment).toArray.toList, x.born < clock := by
    intro x hx
    simp only [List.toList_toArray, List.mem_map] at hx
    obtain ⟨y, hy, rfl⟩ := hx
    exact h.below y hy
  rcases run_next_at (P := P) w ty r bm clock clock seen (l.map ment).toArray clock hi h.blk hold (Nat.le_refl _) with ⟨h0, hrun⟩ | ⟨e, he, w1, hal, hrun⟩
  · refine .inl ⟨fun x hx => ?_, hrun⟩
    have := all_seen _ _ h0 (ment x) (by simp; exact ⟨x, hx, rfl⟩)
    simpa [ment] using this
  · have hm := mem_left he
    simp only [List.toList_toArray, List.mem_map] at hm
    obtain ⟨⟨x, hx, rfl⟩, hs⟩ := hm
    exact .inr ⟨x, w1, hal, hx, by simpa [ment] using hs, hrun⟩
theorem run_entry_map {r : Nat} {seen : Array Nat} {x : ME} (h : MapIs w bm l clock) (hx : x ∈ l) (hi : IterAt w r bm clock (seen.push x.born)) :
    (Instr.entry (.pointer (some ⟨r, 0, none⟩))).run P w = .ok (.tuple #[.int .i64 x.key, x.val]) w :=
  run_entry_at (P := P) w r bm clock seen (l.map ment).toArray clock (ment x) hi h.blk (by simp; exact ⟨x, hx, rfl⟩) (by have := h.borns; simpa [List.map_map, Function.comp_def, ment] using this)
end

/-! ### at the operations -/
section
variable {P : Program} {w : World} {bm : Nat} {l : List ME} {clock : Nat} {t e kt : TypeId} {ops : Array Oper} {rest : List Oper} {o : Oper} {a : Act} {Q : Exit → Act → World → Prop}
theorem wpLookup (hgd : o.guard = none) (m x : Operand) (hop : o.op = Op.lookup t m x false) (ht : P.underlying t = some (.map kt e)) (hk : P.underlying kt = some (.int .i64)) {z : Value} (hz : ∀ w, (zeroValue e).run P w = .ok z w)
    (h : MapIs w bm l clock) (hm : a.eval m = .map (some bm)) {k : Int} (hx : a.eval x = .int .i64 k) (hK : wpList P ops Q rest (a.put o.dst ((mlook l k).getD z)) w) : wpList P ops Q (o :: rest) a w := by
  refine wpList_plain hgd fun K' hK' => ?_
  have hrun : (Instr.lookup t (.map (some bm)) (.int .i64 k) false).run P w = .ok ((mlook l k).getD z) w := by
    cases hl : mlook l k with
    | none => exact run_lookup_none ht hk (hz w) h hl
    | some v => exact run_lookup_some ht hk h hl
  unfold Oper.wp
  simp [execOp, hop, hm, hx, hrun, Result.andThen]
  exact hK' _ _ hK
def bump (l : List ME) (k : Int) (c : Nat) : Nat := if (mlook l k).isSome then c else c + 1
theorem wpUpdate (hgd : o.guard = none) (m x v : Operand) (hop : o.op = Op.mapUpdate t m x v) (ht : P.underlying t = some (.map kt e)) (hk : P.underlying kt = some (.int .i64))
    (h : MapIs w bm l clock) (hm : a.eval m = .map (some bm)) {k : Int} (hx : a.eval x = .int .i64 k) {u : Value} (hv : a.eval v = u)
    (hK : ∀ w', Hid (w' = withMap w bm (mset l k u clock) (bump l k clock)) → wpList P ops Q rest (a.put o.dst undef) w') : wpList P ops Q (o :: rest) a w := by
  refine wpList_plain hgd fun K' hK' => ?_
  have hrun : (Instr.mapUpdate t (.map (some bm)) (.int .i64 k) u).run P w = .ok () (withMap w bm (mset l k u clock) (bump l k clock)) := by
    unfold bump
    cases hl : mlook l k with
    | none => exact run_update_none ht hk h hl
    | some v => exact run_update_some ht hk h hl
  unfold Oper.wp
  simp [execOp, hop, hm, hx, hv, hrun, Result.andThen]
  exact hK' _ _ (hK _ rfl)
theorem wpDelete (hgd : o.guard = none) (m x : Operand) (t2 : TypeId) (hop : o.op = Op.call { callee := Callee.builtin Builtin.delete, args := #[m, x], argTypes := #[t, t2] }) (ht : P.underlying t = some (.map kt e)) (hk : P.underlying kt = some (.int .i64))
    (h : MapIs w bm l clock) (hm : a.eval m = .map (some bm)) {k : Int} (hx : a.eval x = .int .i64 k) {v : Value} (hl : mlook l k = some v)
    (hK : wpList P ops Q rest (a.put o.dst (.tuple #[])) (withMap w bm (mdel l k) clock)) : wpList P ops Q (o :: rest) a w := by
  refine wpList_plain hgd fun K' hK' => ?_
  have hrun := run_delete_some (ty := o.type) ht hk h hl t2
  unfold Oper.wp
  simp only [execOp, hop, resolve, invoke, builtin, Sem.run_bind, Sem.run_pure, Result.andThen_ok, List.map_toArray, List.map_cons, List.map_nil, hm, hx, hrun]
  exact hK' _ _ hK
theorem wpRange (hgd : o.guard = none) (m : Operand) (hop : o.op = Op.range t m) (ht : P.underlying t = some (.map kt e)) (h : MapIs w bm l clock) (hm : a.eval m = .map (some bm))
    (hK : wpList P ops Q rest (a.put o.dst (.pointer (some ⟨w.heap.size, 0, none⟩))) (w.alloc (.mapIter (some bm) clock #[] clock))) : wpList P ops Q (o :: rest) a w := by
  refine wpList_plain hgd fun K' hK' => ?_
  have hrun := run_range_map (P := P) ht h
  unfold Oper.wp
  simp [execOp, hop, hm, hrun, Result.andThen]
  exact hK' _ _ hK
structure AllSeen (l : List ME) (seen : Array Nat) : Prop where mk :: (out : ∀ x ∈ l, x.born ∈ seen)
structure Comes1 (w w1 : World) (l : List ME) (seen : Array Nat) (x : ME) : Prop where
  al : w1 = w ∨ w1 = w.drew
  mem : x ∈ l
  fresh : x.born ∉ seen
theorem wpNext (hgd : o.guard = none) (it : Operand) (hop : o.op = Op.next it false) {r : Nat} {seen : Array Nat} (h : MapIs w bm l clock) (hi : IterAt w r bm clock seen) (hit : a.eval it = .pointer (some ⟨r, 0, none⟩))
    (hDone : AllSeen l seen → wpList P ops Q rest (a.put o.dst (.tuple #[.bool false])) w)
    (hMore : ∀ (x : ME) (w1 : World), Comes1 w w1 l seen x → wpList P ops Q rest (a.put o.dst (.tuple #[.bool true, .int .i64 x.key, x.val])) (withIter w1 r bm clock (seen.push x.born))) :
    wpList P ops Q (o :: rest) a w := by
  refine wpList_plain hgd fun K' hK' => ?_
  unfold Oper.wp
  rcases run_next_map (P := P) h hi o.type with ⟨h0, hrun⟩ | ⟨x, w1, h1, h2, h3, hrun⟩
  · simp [execOp, hop, hit, hrun, Result.andThen]
    exact hK' _ _ (hDone ⟨h0⟩)
  · simp [execOp, hop, hit, hrun, Result.andThen]
    exact hK' _ _ (hMore x w1 ⟨h1, h2, h3⟩)
end
end Go.Proofs.YtihncdlbbhmglaaDoor

/- Words of the walks: a disk in memory. -/
namespace Go.Proofs.YtihncdlbbhmglaaDoor
open Go.RowKit

/-- A file, and where it lies: its own block, its bytes' block, its stamp in the map. -/
structure FE where
  name : Int
  file : Hw.HFile
  bf : Nat
  row : Option Nat
  born : Nat
def fme (x : FE) : ME := ⟨x.name, .pointer (some ⟨x.bf, 0, none⟩), x.born⟩
def FileAt (w : World) (bf : Nat) (row : Option Nat) (f : Hw.HFile) : Prop :=
  ∃ sv, w.heap[bf]? = some (.cells #[sv, .int .i64 (f.safe : Int)] 69 (0, 0)) ∧ sv.ownBlock = row ∧ w.ownsRow 0 5 1 sv f.bytes.length (u8s f.bytes)
structure DiskAt (w : World) (p : Nat) (d : Hw.HDisk) (F : Nat → Prop) (bm clock : Nat) (Fs : List FE) : Prop where
  top : w.heap[p]? = some (.cells #[.map (some bm), .int .i64 (d.room : Int), .int .i64 d.left, .bool d.stopped] 66 (0, 0))
  mp : MapIs w bm (Fs.map fme) clock
  files : d.files = Fs.map fun x => (x.name, x.file)
  each : ∀ x ∈ Fs, FileAt w x.bf x.row x.file
  bfs : (Fs.map (·.bf)).Nodup
  rows : (Fs.filterMap (·.row)).Nodup
  fp : ∀ b, F b ↔ b = p ∨ b = bm ∨ ∃ x ∈ Fs, b = x.bf ∨ x.row = some b
  left0 : -1 ≤ d.left
  left1 : d.left ≤ 9223372036854775807
  wf : Hw.HDisk.WF d
/-- The pointer to block p is a disk that has d; its memory is F. -/
def IsDisk (w : World) (p : Nat) (d : Hw.HDisk) (F : Nat → Prop) : Prop := ∃ bm clock Fs, DiskAt w p d F bm clock Fs
theorem blk_lt {w : World} {b : Nat} {o : Obj} (h : w.heap[b]? = some o) : b < w.heap.size := (Array.getElem?_eq_some_iff.1 h).1
theorem own_lt {w : World} {base size n : Nat} {e : TypeId} {v : Value} {xs : List Value} (h : w.ownsRow base e size v n xs) {k : Nat} (hk : v.ownBlock = some k) : k < w.heap.size := (h.lt k hk).2
theorem DiskAt.lt {w : World} {p : Nat} {d : Hw.HDisk} {F : Nat → Prop} {bm clock : Nat} {Fs : List FE} (h : DiskAt w p d F bm clock Fs) {b : Nat} (hb : F b) : b < w.heap.size := by
  rcases (h.fp b).1 hb with rfl | rfl | ⟨x, hx, h1⟩
  · exact blk_lt h.top
  · exact blk_lt h.mp.blk
  · obtain ⟨sv, g1, g2, g3⟩ := h.each x hx
    rcases h1 with rfl | h1
    · exact blk_lt g1
    · exact own_lt g3 (g2.trans h1)
theorem FileAt.upd {G : Nat → Prop} {w w' : World} {bf : Nat} {row : Option Nat} {f : Hw.HFile} (h : FileAt w bf row f) (hu : Upd G w w') (h1 : ¬ G bf) (h2 : ∀ b, row = some b → ¬ G b) : FileAt w' bf row f := by
  obtain ⟨sv, g1, g2, g3⟩ := h
  exact ⟨sv, (hu.block bf (blk_lt g1) h1).trans g1, g2, own_upd g3 hu (fun k hk => h2 k (g2.symm.trans hk))⟩
theorem MapIs.upd {G : Nat → Prop} {w w' : World} {bm clock : Nat} {l : List ME} (h : MapIs w bm l clock) (hu : Upd G w w') (h1 : ¬ G bm) : MapIs w' bm l clock :=
  ⟨(hu.block bm (blk_lt h.blk) h1).trans h.blk, h.borns, h.below⟩
theorem DiskAt.upd {G : Nat → Prop} {w w' : World} {p : Nat} {d : Hw.HDisk} {F : Nat → Prop} {bm clock : Nat} {Fs : List FE} (h : DiskAt w p d F bm clock Fs) (hu : Upd G w w') (hG : ∀ b, F b → ¬ G b) : DiskAt w' p d F bm clock Fs := by
  have hf := fun b => (h.fp b).2
  refine ⟨(hu.block p (blk_lt h.top) (hG p (hf p (.inl rfl)))).trans h.top, h.mp.upd hu (hG bm (hf bm (.inr (.inl rfl)))), h.files, fun x hx => ?_, h.bfs, h.rows, h.fp, h.left0, h.left1, h.wf⟩
  exact (h.each x hx).upd hu (hG _ (hf _ (.inr (.inr ⟨x, hx, .inl rfl⟩)))) (fun b hb => hG b (hf b (.inr (.inr ⟨x, hx, .inr hb⟩))))
theorem IsDisk.upd {G : Nat → Prop} {w w' : World} {p : Nat} {d : Hw.HDisk} {F : Nat → Prop} (h : IsDisk w p d F) (hu : Upd G w w') (hG : ∀ b, F b → ¬ G b) : IsDisk w' p d F := by
  obtain ⟨bm, clock, Fs, h⟩ := h; exact ⟨bm, clock, Fs, h.upd hu hG⟩
theorem IsDisk.below {w w' : World} {p : Nat} {d : Hw.HDisk} {F : Nat → Prop} (h : IsDisk w p d F) (hu : Below w.heap.size w w') : IsDisk w' p d F :=
  h.upd (G := fun _ => False) (Upd.of_below hu) (fun _ _ h => h)
theorem IsDisk.lt {w : World} {p : Nat} {d : Hw.HDisk} {F : Nat → Prop} (h : IsDisk w p d F) {b : Nat} (hb : F b) : b < w.heap.size := by
  obtain ⟨bm, clock, Fs, h⟩ := h; exact h.lt hb
/-- Blocks of several kinds are several. -/
theorem DiskAt.ne_map {w : World} {p : Nat} {d : Hw.HDisk} {F : Nat → Prop} {bm clock : Nat} {Fs : List FE} (h : DiskAt w p d F bm clock Fs) : p ≠ bm := by
  intro e; have h1 := h.top; rw [e, h.mp.blk] at h1; cases h1
theorem FileAt.ne_cells {w : World} {bf b : Nat} {row : Option Nat} {f : Hw.HFile} (h : FileAt w bf row f) {cs : Array Value} {t : TypeId} (hb : w.heap[b]? = some (.cells cs t (0, 0))) (ht : t ≠ 69) : b ≠ bf := by
  obtain ⟨sv, g1, _⟩ := h
  intro e; rw [e, g1] at hb; cases hb; exact ht rfl
theorem FileAt.ne_map {w : World} {bf b : Nat} {row : Option Nat} {f : Hw.HFile} (h : FileAt w bf row f) {es : Array MapEntry} {c : Nat} (hb : w.heap[b]? = some (.map es c)) : b ≠ bf := by
  obtain ⟨sv, g1, _⟩ := h
  intro e; rw [e, g1] at hb; cases hb
theorem FileAt.row_cells {w : World} {bf b k : Nat} {row : Option Nat} {f : Hw.HFile} (h : FileAt w bf row f) (hk : row = some k) {cs : Array Value} {t : TypeId} (hb : w.heap[b]? = some (.cells cs t (0, 0))) (ht : t ≠ 5) : b ≠ k := by
  obtain ⟨sv, _, g2, g3⟩ := h
  intro e
  rcases g3.2 with ⟨rfl, _⟩ | ⟨g, cap, cur, rfl, _, hg, _⟩
  · rw [hk] at g2; cases g2
  · rw [hk] at g2; cases g2; rw [e, hg] at hb; cases hb; exact ht rfl
theorem FileAt.row_map {w : World} {bf b k : Nat} {row : Option Nat} {f : Hw.HFile} (h : FileAt w bf row f) (hk : row = some k) {es : Array MapEntry} {c : Nat} (hb : w.heap[b]? = some (.map es c)) : b ≠ k := by
  obtain ⟨sv, _, g2, g3⟩ := h
  intro e
  rcases g3.2 with ⟨rfl, _⟩ | ⟨g, cap, cur, rfl, _, hg, _⟩
  · rw [hk] at g2; cases g2
  · rw [hk] at g2; cases g2; rw [e, hg] at hb; cases hb

theorem DiskAt.cell0 {w : World} {p : Nat} {d : Hw.HDisk} {F : Nat → Prop} {bm clock : Nat} {Fs : List FE} (h : DiskAt w p d F bm clock Fs) : w.cell? ⟨p, 0, none⟩ = some (.map (some bm)) := by simp [World.cell?, h.top]
theorem DiskAt.cell1 {w : World} {p : Nat} {d : Hw.HDisk} {F : Nat → Prop} {bm clock : Nat} {Fs : List FE} (h : DiskAt w p d F bm clock Fs) : w.cell? ⟨p, 1, none⟩ = some (.int .i64 (d.room : Int)) := by simp [World.cell?, h.top]
theorem DiskAt.cell3 {w : World} {p : Nat} {d : Hw.HDisk} {F : Nat → Prop} {bm clock : Nat} {Fs : List FE} (h : DiskAt w p d F bm clock Fs) : w.cell? ⟨p, 3, none⟩ = some (.bool d.stopped) := by simp [World.cell?, h.top]
/-! ### counting what has come -/
def leftN : List ME → Array Nat → Nat
  | [], _ => 0
  | x :: l, seen => (if seen.contains x.born then 0 else 1) + leftN l seen
theorem leftN_filter (seen : Array Nat) : ∀ l : List ME, ((l.map ment).filter fun e => !seen.contains e.born).length = leftN l seen := by
  intro l
  induction l with
  | nil => rfl
  | cons x l ih =>
    rw [List.map_cons, List.filter_cons, leftN, ← ih]
    cases h : seen.contains x.born <;> simp only [ment, h] <;> simp <;> omega
theorem rangeLeft_eq {w : World} {bm r clock : Nat} {l : List ME} {seen : Array Nat} (h : MapIs w bm l clock) (hi : IterAt w r bm clock seen) : w.rangeLeft bm r = leftN l seen := by
  simp only [World.rangeLeft, h.blk, show w.heap[r]? = _ from hi, leftOf]
  rw [← leftN_filter, ← Array.length_toList, Array.toList_filter]
theorem contains_push (seen : Array Nat) (a b : Nat) : (seen.push a).contains b = (seen.contains b || b == a) := by
  rw [Bool.eq_iff_iff]; simp
theorem leftN_push_le (seen : Array Nat) (b : Nat) : ∀ l : List ME, leftN l (seen.push b) ≤ leftN l seen := by
  intro l
  induction l with
  | nil => simp [leftN]
  | cons x l ih =>
    simp only [leftN, contains_push]
    cases seen.contains x.born <;> cases x.born == b <;> simp <;> omega
theorem leftN_push {seen : Array Nat} {x : ME} (hs : x.born ∉ seen) : ∀ {l : List ME}, x ∈ l → leftN l (seen.push x.born) < leftN l seen := by
  intro l
  induction l with
  | nil => intro h; cases h
  | cons y l ih =>
    intro hx
    have hle := leftN_push_le seen x.born l
    simp only [leftN, contains_push]
    rcases List.mem_cons.1 hx with rfl | hx
    · have : seen.contains x.born = false := by simpa using hs
      simp only [this, beq_self_eq_true, Bool.or_true, if_true, Bool.false_eq_true, if_false]; omega
    · have := ih hx
      cases seen.contains y.born <;> cases y.born == x.born <;> simp <;> omega
def wsum (g : FE → Nat) (Fs : List FE) (seen : Array Nat) : Nat := (Fs.map fun x => if x.born ∈ seen then g x else 0).sum
theorem wsum_empty (g : FE → Nat) (Fs : List FE) : wsum g Fs #[] = 0 := by
  unfold wsum
  induction Fs with
  | nil => rfl
  | cons x l ih => simp at ih ⊢; exact ih
theorem wsum_all {g : FE → Nat} {Fs : List FE} {seen : Array Nat} (h : ∀ x ∈ Fs, x.born ∈ seen) : wsum g Fs seen = (Fs.map g).sum := by
  unfold wsum
  congr 1
  apply List.map_congr_left
  intro x hx; rw [if_pos (h x hx)]
theorem wsum_le (g : FE → Nat) (Fs : List FE) (seen : Array Nat) : wsum g Fs seen ≤ (Fs.map g).sum := by
  unfold wsum
  induction Fs with
  | nil => simp
  | cons x l ih => simp only [List.map_cons, List.sum_cons]; split <;> omega
theorem wsum_push {g : FE → Nat} {Fs : List FE} {seen : Array Nat} {x : FE} (hn : (Fs.map (·.born)).Nodup) (hx : x ∈ Fs) (hs : x.born ∉ seen) : wsum g Fs (seen.push x.born) = wsum g Fs seen + g x := by
  unfold wsum
  induction Fs with
  | nil => cases hx
  | cons y l ih =>
    simp only [List.map_cons, List.nodup_cons] at hn
    simp only [List.map_cons, List.sum_cons]
    rcases List.mem_cons.1 hx with rfl | hx
    · have hrest : (l.map fun z => if z.born ∈ seen.push x.born then g z else 0) = l.map fun z => if z.born ∈ seen then g z else 0 := by
        apply List.map_congr_left
        intro z hz
        have : z.born ≠ x.born := fun e => hn.1 (by rw [← e]; exact List.mem_map.2 ⟨z, hz, rfl⟩)
        simp [this]
      rw [hrest]; simp [hs]; omega
    · have hy : y.born ≠ x.born := fun e => hn.1 (by rw [e]; exact List.mem_map.2 ⟨x, hx, rfl⟩)
      rw [ih hn.2 hx]; simp [hy]; omega
end Go.Proofs.YtihncdlbbhmglaaDoor

/- Walks: disk: Of, works, Used. -/
namespace Go.Proofs.YtihncdlbbhmglaaDoor
open Go.RowKit
theorem dmap : Tryd.prog.underlying 64 = some (.map 3 67) := by kernel_rfl
theorem dint : Tryd.prog.underlying 3 = some (.int .i64) := by kernel_rfl
theorem dptr (w : World) : (zeroValue 67).run Tryd.prog w = .ok (.pointer none) w := by kernel_rfl
def WorksRet (p : Nat) (d : Hw.HDisk) (F : Nat → Prop) (bm clock : Nat) (Fs : List FE) (w : World) (e : Ending) (w' : World) : Prop :=
  e = .returned (.bool (!d.works.stopped)) ∧ DiskAt w' p d.works F bm clock Fs ∧ Upd (fun b => b = p) w w'
theorem works_end {w w' : World} {p : Nat} {d : Hw.HDisk} {F : Nat → Prop} {bm clock : Nat} {Fs : List FE} (h : DiskAt w p d F bm clock Fs) (hu : Upd (fun b => b = p) w w')
    (ht : w'.heap[p]? = some (.cells #[.map (some bm), .int .i64 (d.room : Int), .int .i64 d.works.left, .bool d.works.stopped] 66 (0, 0))) : DiskAt w' p d.works F bm clock Fs := by
  refine ⟨ht, h.mp.upd hu (fun e => h.ne_map e.symm), h.files, fun x hx => ?_, h.bfs, h.rows, h.fp, ?_, ?_, h.wf.works⟩
  · have hx' := h.each x hx
    exact hx'.upd hu (fun e => hx'.ne_cells h.top (by decide) e.symm) (fun b hb e => hx'.row_cells hb h.top (by decide) e.symm)
  · have := h.left0; unfold Hw.HDisk.works; simp only; split <;> omega
  · have := h.left1; unfold Hw.HDisk.works; simp only; split <;> omega
set_option maxRecDepth 100000 in
set_option maxHeartbeats 400000 in
theorem disk_works (p : Nat) (d : Hw.HDisk) (F : Nat → Prop) (bm clock : Nat) (Fs : List FE) (w : World) (h : DiskAt w p d F bm clock Fs) :
    Calls Tryd.prog 32 #[.pointer (some ⟨p, 0, none⟩)] w (WorksRet p d F bm clock Fs w) := by
  have c2 : w.cell? ⟨p, 2, none⟩ = some (.int .i64 d.left) := by simp [World.cell?, h.top]
  have c3 : w.cell? ⟨p, 3, none⟩ = some (.bool d.stopped) := by simp [World.cell?, h.top]
  have f2 : w.frozen? ⟨p, 2, none⟩ = false := by simp [World.frozen?, h.top]
  have f3 : w.frozen? ⟨p, 3, none⟩ = false := by simp [World.frozen?, h.top]
  have l0 := h.left0
  have l1 := h.left1
  have H := Lib.hid h; clear h
  go_enter Tryd.func32, Tryd.ntmps32
  go_wp2
  · exfalso; have h1 : (d.left == 0) = true := by assumption
    have h2 : 0 < d.left := by assumption
    simp at h1; omega
  · have h1 : (d.left == 0) = true := by assumption
    have HZ := Lib.hid h1; clear h1
    go_ret
    have h1 : d.left = 0 := by have := HZ.out; simpa using this
    have hw : d.works.stopped = true := by simp [Hw.HDisk.works, h1]
    have hl : d.works.left = d.left := by simp [Hw.HDisk.works, h1]
    have hu : Upd (fun b => b = p) w (w.setCell ⟨p, 3, none⟩ (.bool true)) := (Upd.refl (fun b => b = p) w).setCell (p := ⟨p, 3, none⟩) (.inl rfl) _
    refine ⟨by rw [hw]; rfl, works_end H.out hu ?_, hu⟩
    rw [blk_set H.out.top, hw, hl]; rfl
  · have h1 : (d.left == 0) = false := by assumption
    have h2 : 0 < d.left := by assumption
    have HZ := Lib.hid h1; clear h1
    go_ret
    have hw : d.works.stopped = d.stopped := by simp only [Hw.HDisk.works]; rw [HZ.out]; simp
    have hl : d.works.left = d.left - 1 := by simp [Hw.HDisk.works, h2]
    have hu : Upd (fun b => b = p) w (w.setCell ⟨p, 2, none⟩ (.int .i64 (d.left - 1))) := (Upd.refl (fun b => b = p) w).setCell (p := ⟨p, 2, none⟩) (.inl rfl) _
    refine ⟨by rw [hw]; rfl, works_end H.out hu ?_, hu⟩
    rw [blk_set H.out.top, hw, hl]; rfl
  · have h1 : (d.left == 0) = false := by assumption
    have h2 : d.left ≤ 0 := by assumption
    have HZ := Lib.hid h1; clear h1
    go_ret
    have hw : d.works.stopped = d.stopped := by simp only [Hw.HDisk.works]; rw [HZ.out]; simp
    have hl : d.works.left = d.left := by simp only [Hw.HDisk.works]; rw [if_neg (by omega)]
    refine ⟨by rw [hw]; rfl, works_end H.out (Upd.refl _ _) ?_, Upd.refl _ _⟩
    rw [hw, hl]; exact H.out.top

theorem FileAt.below {w w' : World} {bf : Nat} {row : Option Nat} {f : Hw.HFile} (h : FileAt w bf row f) (hu : Below w.heap.size w w') : FileAt w' bf row f :=
  h.upd (G := fun _ => False) (Upd.of_below hu) (fun h => h) (fun _ _ h => h)
theorem MapIs.below' {w w' : World} {bm clock : Nat} {l : List ME} (h : MapIs w bm l clock) (hu : Below w.heap.size w w') : MapIs w' bm l clock :=
  h.upd (G := fun _ => False) (Upd.of_below hu) (fun h => h)
/-- What a file's block holds. -/
theorem FileAt.cells {w : World} {bf : Nat} {row : Option Nat} {f : Hw.HFile} (h : FileAt w bf row f) : ∃ A c, w.cell? ⟨bf, 0, none⟩ = some (.slice A f.bytes.length c) ∧ w.cell? ⟨bf, 1, none⟩ = some (.int .i64 (f.safe : Int)) ∧ f.bytes.length ≤ c ∧ c ≤ maxLen := by
  obtain ⟨sv, g1, g2, g3⟩ := h
  obtain ⟨A, c, rfl, h1, h2⟩ := RdB.len (RdB.of_own (M := fun _ => False) g3 (fun _ _ h => h))
  exact ⟨A, c, by simp [World.cell?, g1], by simp [World.cell?, g1], h1, h2⟩
theorem FileAt.unfrozen {w : World} {bf : Nat} {row : Option Nat} {f : Hw.HFile} (h : FileAt w bf row f) (i : Nat) : w.frozen? ⟨bf, i, none⟩ = false := by
  obtain ⟨sv, g1, _⟩ := h; simp [World.frozen?, g1]
def flen (x : FE) : Nat := x.file.bytes.length
theorem used_flen {d : Hw.HDisk} {Fs : List FE} (h : d.files = Fs.map fun x => (x.name, x.file)) : (Fs.map flen).sum = d.used := by
  unfold Hw.HDisk.used; rw [h, List.map_map]; rfl
theorem born_fme (Fs : List FE) : (Fs.map fme).map (·.born) = Fs.map (·.born) := by simp [List.map_map, Function.comp_def, fme]
def UsedRel (w : World) (bm clock : Nat) (Fs : List FE) (t3 : Value) (wr : World) : Prop :=
  ∃ seen, IterAt wr w.heap.size bm clock seen ∧ t3 = .int .i64 (wsum flen Fs seen : Nat) ∧ Below w.heap.size w wr
/-- Behind the step the relation of the iterator stands. -/
theorem iter_step {w wr w1 : World} {bm clock : Nat} {seen : Array Nat} (hi : IterAt wr w.heap.size bm clock seen) (hb : Below w.heap.size w wr) (h1 : w1 = wr ∨ w1 = wr.drew) (s' : Array Nat) :
    IterAt (withIter w1 w.heap.size bm clock s') w.heap.size bm clock s' ∧ Below w.heap.size w (withIter w1 w.heap.size bm clock s') := by
  have hb1 : Below w.heap.size w w1 := by rcases h1 with rfl | rfl; exact hb; exact hb.drew
  have hi1 : IterAt w1 w.heap.size bm clock seen := by rcases h1 with rfl | rfl; exact hi; exact hi
  refine ⟨withIter_at hi1 s', hb1.trans ?_⟩
  exact (withIter_upd w1 w.heap.size bm clock s').below (by have := hb1.size; omega) (fun n e => by omega)
set_option maxRecDepth 100000 in
set_option maxHeartbeats 400000 in
theorem disk_Used (p : Nat) (d : Hw.HDisk) (F : Nat → Prop) (bm clock : Nat) (Fs : List FE) (w : World) (h : DiskAt w p d F bm clock Fs) :
    Calls Tryd.prog 13 #[.pointer (some ⟨p, 0, none⟩)] w fun e w' => e = .returned (.int .i64 (d.used : Nat)) ∧ Below w.heap.size w w' := by
  have c0 : w.cell? ⟨p, 0, none⟩ = some (.map (some bm)) := by simp [World.cell?, h.top]
  have hbn : (Fs.map (·.born)).Nodup := by have := h.mp.borns; rwa [born_fme] at this
  have hus : ∀ seen, wsum flen Fs seen ≤ 262144 := fun seen => Nat.le_trans (wsum_le flen Fs seen) (by rw [used_flen h.files]; exact Nat.le_trans h.wf.room h.wf.most)
  have H := Lib.hid h; clear h
  have HB := Lib.hid hbn; clear hbn
  have HU := Lib.hid hus; clear hus
  go_enter Tryd.func13, Tryd.ntmps13
  go_wp2_with (at_range; refine wpRange rfl _ rfl dmap H.out.mp rfl ?_)
  go_frame
  go_loopw [3] (fun t3 wr => UsedRel w bm clock Fs t3 wr) (fun _ wr => wr.rangeLeft bm w.heap.size)
  case atStart => exact ⟨#[], iter_new _ _ _, by rw [wsum_empty]; rfl, below_new _ _⟩
  case round =>
    obtain ⟨seen, hi, rfl, hb⟩ := hrel
    have HM := Lib.hid (H.out.mp.below' hb)
    have HI := Lib.hid (And.intro hi hb); clear hi hb
    go_wp2_with (at_next; refine wpNext rfl _ rfl HM.out HI.out.1 rfl ?_ ?_)
    · intro hall
      have hsum : wsum flen Fs seen = d.used := by
        rw [← used_flen H.out.files]
        exact wsum_all fun x hx => hall.out (fme x) (List.mem_map.2 ⟨x, hx, rfl⟩)
      have HS := Lib.hid hsum; clear hsum hall
      go_wp2_with fail
      go_ret
      exact ⟨by rw [← HS.out]; rfl, HI.out.2⟩
    · intro x w1 hcome
      obtain ⟨h1, hx, hs⟩ := hcome
      obtain ⟨y, hy, rfl⟩ := List.mem_map.1 hx
      obtain ⟨hi2, hb2⟩ := iter_step HI.out.1 HI.out.2 h1 (seen.push (fme y).born)
      have hlt := leftN_push hs hx
      have hm2 := H.out.mp.below' hb2
      rw [← rangeLeft_eq HM.out HI.out.1, ← rangeLeft_eq hm2 hi2] at hlt
      have hen := run_entry_map (P := Tryd.prog) hm2 hx hi2
      obtain ⟨A, c, k0, _, _, _⟩ := ((H.out.each y hy).below hb2).cells
      have hsum := wsum_push (g := flen) HB.out hy hs
      have hle := HU.out (seen.push y.born)
      have hle0 := HU.out seen
      have HF := Lib.hid (And.intro hi2 hb2)
      clear hi2 hb2 hm2 hs h1 hx
      change _ < _ at hlt
      have HLT := Lib.hid hlt; clear hlt
      have hsum' : ((wsum flen Fs seen : Nat) : Int) + (y.file.bytes.length : Int) = ((wsum flen Fs (seen.push y.born) : Nat) : Int) := by rw [hsum]; simp [flen]
      have HS := Lib.hid hsum'; clear hsum'
      rw [hsum] at hle
      unfold flen at hle
      clear hsum
      simp only [fme] at *
      generalize wsum _ Fs seen = s0 at *
      go_wp2_with fail
      go_roundw
      case rel => exact ⟨_, HF.out.1, by rw [← HS.out], HF.out.2⟩
      case measure => exact HLT.out
end Go.Proofs.YtihncdlbbhmglaaDoor

/- Walks: disk: Read, Arm, Stopped, Of. -/
namespace Go.Proofs.YtihncdlbbhmglaaDoor
open Go.RowKit
theorem look_fme (Fs : List FE) (n : Int) : mlook (Fs.map fme) n = (Fs.find? fun x => x.name == n).map fun x => .pointer (some ⟨x.bf, 0, none⟩) := by
  induction Fs with
  | nil => rfl
  | cons x l ih =>
    simp only [List.map_cons, mlook, fme, List.find?_cons]
    by_cases h : x.name = n
    · simp [h]
    · have : (x.name == n) = false := by simp [h]
      rw [this, if_neg h]; exact ih
theorem find_files (Fs : List FE) (n : Int) : (Fs.map fun x => (x.name, x.file)).lookup n = (Fs.find? fun x => x.name == n).map (·.file) := by
  induction Fs with
  | nil => rfl
  | cons x l ih =>
    rw [List.map_cons, Hw.HDisk.lookup_c, List.find?_cons, ih]
    by_cases h : x.name = n
    · simp [h]
    · have : (x.name == n) = false := by simp [h]
      rw [this, if_neg (fun e => h e.symm)]
theorem DiskAt.find_none {w : World} {p : Nat} {d : Hw.HDisk} {F : Nat → Prop} {bm clock : Nat} {Fs : List FE} (h : DiskAt w p d F bm clock Fs) {n : Int} (hf : d.find n = none) : mlook (Fs.map fme) n = none := by
  unfold Hw.HDisk.find at hf
  rw [h.files, find_files] at hf
  rw [look_fme]
  cases e : Fs.find? fun x => x.name == n with
  | none => rfl
  | some x => rw [e] at hf; cases hf
theorem DiskAt.find_some {w : World} {p : Nat} {d : Hw.HDisk} {F : Nat → Prop} {bm clock : Nat} {Fs : List FE} (h : DiskAt w p d F bm clock Fs) {n : Int} {f : Hw.HFile} (hf : d.find n = some f) :
    ∃ x ∈ Fs, x.name = n ∧ x.file = f ∧ mlook (Fs.map fme) n = some (.pointer (some ⟨x.bf, 0, none⟩)) := by
  unfold Hw.HDisk.find at hf
  rw [h.files, find_files] at hf
  rw [look_fme]
  cases e : Fs.find? fun x => x.name == n with
  | none => rw [e] at hf; cases hf
  | some x =>
    rw [e] at hf
    simp only [Option.map_some, Option.some.injEq] at hf
    exact ⟨x, List.mem_of_find?_eq_some e, by have := List.find?_some e; simpa using this, hf, rfl⟩
def ReadRet (r : Option Hw.Bytes) (w : World) (e : Ending) (w' : World) : Prop :=
  Below w.heap.size w w' ∧ match r with
    | none => e = .returned (.tuple #[.slice none 0 0, .bool false])
    | some b => ∃ v', e = .returned (.tuple #[v', .bool true]) ∧ w'.ownsRow w.heap.size 5 1 v' b.length (u8s b)
set_option maxRecDepth 100000 in
set_option maxHeartbeats 400000 in
theorem disk_Read (p : Nat) (d : Hw.HDisk) (F : Nat → Prop) (n : Int) (w : World) (h : IsDisk w p d F) :
    Calls Tryd.prog 31 #[.pointer (some ⟨p, 0, none⟩), .int .i64 n] w (ReadRet (d.read n) w) := by
  obtain ⟨i0, hi, hz0, hz1, hz2⟩ := info_parts u8row
  obtain ⟨bm, clock, Fs, h⟩ := h
  have c0 : w.cell? ⟨p, 0, none⟩ = some (.map (some bm)) := by simp [World.cell?, h.top]
  unfold Hw.HDisk.read
  cases hf : d.find n with
  | none =>
    have hl := h.find_none hf
    have H := Lib.hid h; clear h hf
    go_enter Tryd.func31, Tryd.ntmps31
    go_wp2_with (at_lookup; refine wpLookup rfl _ _ rfl dmap dint dptr H.out.mp rfl rfl ?_)
    go_ret2
    exact ⟨Below.refl _ _, rfl⟩
  | some f =>
    obtain ⟨x, hx, _, hxf, hl⟩ := h.find_some hf
    have hfile := h.each x hx
    rw [hxf] at hfile
    obtain ⟨sv, g1, g2, g3⟩ := hfile
    obtain ⟨A, c, rfl, k1, k2⟩ := RdB.len (RdB.of_own (M := fun _ => False) g3 (fun _ _ h => h))
    have cf : w.cell? ⟨x.bf, 0, none⟩ = some (.slice A f.bytes.length c) := by simp [World.cell?, g1]
    have hlen : f.bytes.length ≤ 262144 := by
      have := Hw.HDisk.len_le d n
      rw [Hw.HDisk.len_some hf] at this
      exact Nat.le_trans this (Nat.le_trans h.wf.room h.wf.most)
    have H := Lib.hid h
    have G := Lib.hid g3
    clear h hf g1 g2 g3 hx hxf
    go_enter Tryd.func31, Tryd.ntmps31
    go_wp2_with (first
      | (at_lookup; refine wpLookup rfl _ _ rfl dmap dint dptr H.out.mp rfl rfl ?_)
      | (at_builtin; refine wpAppend _ rfl _ _ 22 rfl w.heap.size 5 i0 (.int .u8 0) 1 1 u8slice hi hz0 hz1 hz2 rfl (by decide) _ 0 _ rfl (World.ownsRow_nil _ _ _ _) (fun _ => False) _ f.bytes.length (u8s f.bytes) rfl (RdB.of_own G.out (fun _ _ h => h)) ?_ ?_ ?_ ?_ ?_))
    · exact u8s_one _
    · unfold maxLen; omega
    · omega
    · exact Nat.le_refl _
    · intro v1 w1 q1 g1 a1
      have HO := Lib.hid q1
      have HB := Lib.hid ((Below.refl w.heap.size w).grown g1 (Nat.le_refl _) (by intro k hk; cases hk))
      clear q1 g1 a1
      go_wp2_with fail
      go_ret2
      exact ⟨HB.out, _, rfl, by have := HO.out; simpa using this⟩
def OfRet (n : Int) (w : World) (e : Ending) (w' : World) : Prop :=
  ∃ p, e = .returned (.pointer (some ⟨p, 0, none⟩)) ∧ IsDisk w' p (Hw.HDisk.new n) (fun b => b = p ∨ b = w.heap.size) ∧ w.heap.size ≤ p ∧ Below w.heap.size w w'
theorem of_end (n : Int) (w : World) (R : Int) (hR : R = ((Hw.HDisk.new n).room : Int)) :
    OfRet n w (.returned (.pointer (some ⟨w.heap.size + 1, 0, none⟩))) ((w.alloc (.map #[] 0)).alloc (.cells #[.map (some w.heap.size), .int .i64 R, .int .i64 (-1), .bool false] 66)) := by
  have hs : (w.alloc (.map #[] 0)).heap.size = w.heap.size + 1 := by simp
  refine ⟨_, rfl, ⟨w.heap.size, 0, [], ?_, ⟨?_, by simp, by simp⟩, rfl, by simp, by simp, by simp, by simp, by simp [Hw.HDisk.new], by simp [Hw.HDisk.new], Hw.HDisk.WF.new n⟩, by omega, ?_⟩
  · have := heap_alloc_new (w.alloc (.map #[] 0)) (.cells #[.map (some w.heap.size), .int .i64 R, .int .i64 (-1), .bool false] 66)
    rw [hs] at this; rw [this, hR]; rfl
  · rw [Below.heap_alloc _ _ _ (by rw [hs]; omega)]; exact heap_alloc_new w _
  · exact (below_new w _).trans ((below_new _ _).mono (by rw [hs]; omega))
set_option maxRecDepth 100000 in
set_option maxHeartbeats 400000 in
theorem disk_Of (n : Int) (w : World) :
    Calls Tryd.prog 9 #[.int .i64 n] w (OfRet n w) := by
  have hmm := @run_makeMap Tryd.prog
  go_enter Tryd.func9, Tryd.ntmps9
  go_wp2
  all_goals
    go_ret
    refine of_end n w _ ?_
    simp [Hw.HDisk.new]; omega
theorem disk_Arm_at {w : World} {p : Nat} {d : Hw.HDisk} {F : Nat → Prop} {bm clock : Nat} {Fs : List FE} (h : DiskAt w p d F bm clock Fs) (n : Int) (hn : n ≤ 9223372036854775807) (m : Int) (hm : m = max 0 n) :
    DiskAt (w.setCell ⟨p, 2, none⟩ (.int .i64 m)) p (d.arm n) F bm clock Fs := by
  have hu : Upd (fun b => b = p) w (w.setCell ⟨p, 2, none⟩ (.int .i64 m)) := (Upd.refl (fun b => b = p) w).setCell (p := ⟨p, 2, none⟩) (.inl rfl) _
  refine ⟨?_, h.mp.upd hu (fun e => h.ne_map e.symm), h.files, fun x hx => ?_, h.bfs, h.rows, h.fp, ?_, ?_, h.wf.arm n⟩
  · rw [blk_set h.top, hm]; rfl
  · have hx' := h.each x hx
    exact hx'.upd hu (fun e => hx'.ne_cells h.top (by decide) e.symm) (fun b hb e => hx'.row_cells hb h.top (by decide) e.symm)
  · simp [Hw.HDisk.arm]; omega
  · simp [Hw.HDisk.arm]; omega
def ArmRet (p : Nat) (d : Hw.HDisk) (F : Nat → Prop) (w : World) (e : Ending) (w' : World) : Prop := e = .returned (.tuple #[]) ∧ IsDisk w' p d F ∧ Upd F w w'
end Go.Proofs.YtihncdlbbhmglaaDoor

/- Words of the walks: what becomes of a disk in memory. -/
namespace Go.Proofs.YtihncdlbbhmglaaDoor
open Go.RowKit

def errV (n : Int) : Value := if n = 0 then .nilIface else .iface 29 (.int .i64 n)
/-- A deed of a disk: what is told; the disk is this one then; nothing but it has turned. -/
def DiskRet (p : Nat) (r : Int × Hw.HDisk) (F : Nat → Prop) (w : World) (e : Ending) (w' : World) : Prop :=
  e = .returned (errV r.1) ∧ ∃ F', IsDisk w' p r.2 F' ∧ (∀ b, F' b → F b ∨ w.heap.size ≤ b) ∧ Upd F w w'
theorem DiskAt.names {w : World} {p : Nat} {d : Hw.HDisk} {F : Nat → Prop} {bm clock : Nat} {Fs : List FE} (h : DiskAt w p d F bm clock Fs) : (Fs.map (·.name)).Nodup := by
  have := h.wf.nodup
  rw [h.files] at this
  simpa [Hw.HDisk.Keys, List.map_map, Function.comp_def] using this
theorem setAt_map {n : Int} {f : Hw.HFile} : ∀ {l : List (Int × Hw.HFile)}, (l.map (·.1)).Nodup → n ∈ l.map (·.1) → Hw.HDisk.setAt l n f = l.map fun q => if q.1 = n then (n, f) else q := by
  intro l
  induction l with
  | nil => intro _ h; cases h
  | cons q l ih =>
    intro hn hm
    simp only [List.map_cons, List.nodup_cons] at hn
    unfold Hw.HDisk.setAt
    by_cases h : q.1 = n
    · rw [if_pos h, List.map_cons, if_pos h]
      congr 1
      rw [← List.map_id l]
      rw [List.map_map]
      apply List.map_congr_left
      intro z hz
      have : z.1 ≠ n := fun e => hn.1 (by rw [h, ← e]; exact List.mem_map.2 ⟨z, hz, rfl⟩)
      simp [this]
    · rw [if_neg h, List.map_cons, if_neg h, ih hn.2 (by simpa [Ne.symm h] using hm)]
theorem setAt_new {n : Int} {f : Hw.HFile} : ∀ {l : List (Int × Hw.HFile)}, n ∉ l.map (·.1) → Hw.HDisk.setAt l n f = l ++ [(n, f)] := by
  intro l
  induction l with
  | nil => intro _; rfl
  | cons q l ih =>
    intro hm
    simp only [List.map_cons, List.mem_cons, not_or] at hm
    unfold Hw.HDisk.setAt
    rw [if_neg (fun e => hm.1 e.symm), ih hm.2]; rfl
def reF (n : Int) (f : Hw.HFile) (bf : Nat) (row : Option Nat) (y : FE) : FE := if y.name = n then ⟨n, f, bf, row, y.born⟩ else y
theorem inj_of_nodup {α β : Type} (g : α → β) : ∀ {l : List α}, (l.map g).Nodup → ∀ {x y : α}, x ∈ l → y ∈ l → g x = g y → x = y := by
  intro l
  induction l with
  | nil => intro _ x y hx; cases hx
  | cons z l ih =>
    intro hn x y hx hy e
    simp only [List.map_cons, List.nodup_cons] at hn
    rcases List.mem_cons.1 hx with h1 | h1 <;> rcases List.mem_cons.1 hy with h2 | h2
    · rw [h1, h2]
    · exact absurd (List.mem_map.2 ⟨y, h2, by rw [← e, h1]⟩) hn.1
    · exact absurd (List.mem_map.2 ⟨x, h1, by rw [e, h2]⟩) hn.1
    · exact ih hn.2 h1 h2 e
theorem rows_inj : ∀ {l : List FE}, (l.filterMap (·.row)).Nodup → ∀ {x y : FE} {b : Nat}, x ∈ l → y ∈ l → x.row = some b → y.row = some b → x.bf = y.bf ∨ x = y := by
  intro l
  induction l with
  | nil => intro _ x y b hx; cases hx
  | cons z l ih =>
    intro hn x y b hx hy hxb hyb
    have hn' : (l.filterMap (·.row)).Nodup := by
      rw [List.filterMap_cons] at hn
      split at hn
      · exact hn
      · exact (List.nodup_cons.1 hn).2
    rcases List.mem_cons.1 hx with h1 | h1 <;> rcases List.mem_cons.1 hy with h2 | h2
    · exact .inr (h1.trans h2.symm)
    · rw [List.filterMap_cons, ← h1, hxb] at hn
      exact absurd (List.mem_filterMap.2 ⟨y, h2, hyb⟩) (List.nodup_cons.1 hn).1
    · rw [List.filterMap_cons, ← h2, hyb] at hn
      exact absurd (List.mem_filterMap.2 ⟨x, h1, hxb⟩) (List.nodup_cons.1 hn).1
    · exact ih hn' h1 h2 hxb hyb
theorem rows_nodup_of {l : List FE} (h1 : l.Nodup) (h2 : ∀ x ∈ l, ∀ y ∈ l, ∀ b, x.row = some b → y.row = some b → x = y) : (l.filterMap (·.row)).Nodup := by
  induction l with
  | nil => simp
  | cons z l ih =>
    have hn := List.nodup_cons.1 h1
    have ih' := ih hn.2 (fun x hx y hy => h2 x (by simp [hx]) y (by simp [hy]))
    rw [List.filterMap_cons]
    split
    · exact ih'
    · rename_i b hb
      refine List.nodup_cons.2 ⟨fun hm => ?_, ih'⟩
      obtain ⟨y, hy, hyb⟩ := List.mem_filterMap.1 hm
      have := h2 z (by simp) y (by simp [hy]) b hb hyb
      exact hn.1 (this ▸ hy)
theorem nodup_of_map {α β : Type} (g : α → β) : ∀ {l : List α}, (l.map g).Nodup → l.Nodup := by
  intro l
  induction l with
  | nil => intro _; simp
  | cons z l ih =>
    intro hn
    simp only [List.map_cons, List.nodup_cons] at hn
    exact List.nodup_cons.2 ⟨fun hm => hn.1 (List.mem_map.2 ⟨z, hm, rfl⟩), ih hn.2⟩
/-- A file of a disk is another one behind a change of its own blocks alone. -/
theorem DiskAt.put {w w' : World} {p : Nat} {d : Hw.HDisk} {F : Nat → Prop} {bm clock : Nat} {Fs : List FE} (h : DiskAt w p d F bm clock Fs) {x : FE} (hx : x ∈ Fs) {n : Int} (hxn : x.name = n) {f' : Hw.HFile} {row' : Option Nat}
    (hu : Upd (fun b => b = x.bf ∨ x.row = some b) w w') (hf : FileAt w' x.bf row' f') (hr : row' = x.row ∨ row' = none ∨ ∃ b, row' = some b ∧ w.heap.size ≤ b)
    (hwf : Hw.HDisk.WF (d.put n f')) : ∃ F', DiskAt w' p (d.put n f') F' bm clock (Fs.map (reF n f' x.bf row')) ∧ (∀ b, F' b → F b ∨ w.heap.size ≤ b) := by
  have hnames := h.names
  have hother : ∀ y ∈ Fs, y.name ≠ n → y.bf ≠ x.bf ∧ (∀ b, x.row = some b → y.row ≠ some b) := by
    intro y hy hyn
    have hb : y.bf ≠ x.bf := fun e => hyn (by rw [inj_of_nodup _ h.bfs hy hx e]; exact hxn)
    refine ⟨hb, fun b hb1 hb2 => ?_⟩
    rcases rows_inj h.rows hy hx hb2 hb1 with e | e
    · exact hb e
    · exact hyn (e ▸ hxn)
  have hreF : ∀ y ∈ Fs, (reF n f' x.bf row' y).bf = y.bf := by
    intro y hy
    unfold reF; split
    · rename_i e; rw [inj_of_nodup _ hnames hy hx (e.trans hxn.symm)]
    · rfl
  have hxe : ∀ y ∈ Fs, y.name = n → y = x := fun y hy e => inj_of_nodup _ hnames hy hx (e.trans hxn.symm)
  have hcase : ∀ z, z ∈ Fs.map (reF n f' x.bf row') → (z = ⟨n, f', x.bf, row', x.born⟩) ∨ (z ∈ Fs ∧ z.name ≠ n) := by
    intro z hz
    obtain ⟨y, hy, rfl⟩ := List.mem_map.1 hz
    unfold reF
    by_cases e : y.name = n
    · left; rw [if_pos e, hxe y hy e]
    · right; rw [if_neg e]; exact ⟨hy, e⟩
  have hbfs : ((Fs.map (reF n f' x.bf row')).map (·.bf)).Nodup := by
    rw [List.map_map]
    have : Fs.map ((fun x => x.bf) ∘ reF n f' x.bf row') = Fs.map (·.bf) := List.map_congr_left hreF
    rw [this]; exact h.bfs
  have hm : (Fs.map (reF n f' x.bf row')).map fme = Fs.map fme := by
    rw [List.map_map]
    apply List.map_congr_left
    intro y hy
    simp only [Function.comp, fme, hreF y hy]
    unfold reF
    by_cases e : y.name = n
    · rw [if_pos e]; simp [e]
    · rw [if_neg e]
  refine ⟨fun b => b = p ∨ b = bm ∨ ∃ z ∈ Fs.map (reF n f' x.bf row'), b = z.bf ∨ z.row = some b, ⟨?_, ?_, ?_, ?_, hbfs, ?_, fun b => Iff.rfl, h.left0, h.left1, hwf⟩, ?_⟩
  · exact (hu.block p (blk_lt h.top) (by
      have hx' := h.each x hx
      rintro (e | e)
      · exact hx'.ne_cells h.top (by decide) e
      · exact hx'.row_cells e h.top (by decide) rfl)).trans h.top
  · rw [hm]
    exact h.mp.upd hu (by
      have hx' := h.each x hx
      rintro (e | e)
      · exact hx'.ne_map h.mp.blk e
      · exact hx'.row_map e h.mp.blk rfl)
  · show Hw.HDisk.setAt d.files n f' = _
    rw [setAt_map h.wf.nodup (by rw [h.files, List.map_map]; exact List.mem_map.2 ⟨x, hx, hxn⟩), h.files, List.map_map, List.map_map]
    apply List.map_congr_left
    intro y hy
    simp only [Function.comp, reF]
    by_cases e : y.name = n
    · simp [e]
    · simp [e]
  · intro z hz
    rcases hcase z hz with rfl | ⟨hz, hzn⟩
    · exact hf
    · obtain ⟨h1, h2⟩ := hother z hz hzn
      obtain ⟨svz, gz, _⟩ := h.each z hz
      obtain ⟨svx, gx, _⟩ := h.each x hx
      refine (h.each z hz).upd hu (by rintro (e | e); exact h1 e; exact (h.each x hx).row_cells e gz (by decide) rfl) (fun b hb => by
        rintro (e | e)
        · subst e
          exact (h.each z hz).row_cells hb gx (by decide) rfl
        · exact h2 b e hb)
  · refine rows_nodup_of (nodup_of_map (·.bf) hbfs) (fun z hz y hy b hzb hyb => ?_)
    rcases hcase z hz with rfl | ⟨hz', hzn⟩ <;> rcases hcase y hy with rfl | ⟨hy', hyn⟩
    · rfl
    · exfalso
      rcases hr with e | e | ⟨c, e, hc⟩
      · exact (hother y hy' hyn).2 b (by rw [← e]; exact hzb) hyb
      · rw [e] at hzb; cases hzb
      · rw [e] at hzb; cases hzb
        have := h.lt ((h.fp b).2 (.inr (.inr ⟨y, hy', .inr hyb⟩))); omega
    · exfalso
      rcases hr with e | e | ⟨c, e, hc⟩
      · exact (hother z hz' hzn).2 b (by rw [← e]; exact hyb) hzb
      · rw [e] at hyb; cases hyb
      · rw [e] at hyb; cases hyb
        have := h.lt ((h.fp b).2 (.inr (.inr ⟨z, hz', .inr hzb⟩))); omega
    · rcases rows_inj h.rows hz' hy' hzb hyb with e | e
      · exact inj_of_nodup _ h.bfs hz' hy' e
      · exact e
  · rintro b (rfl | rfl | ⟨z, hz, hb⟩)
    · exact .inl ((h.fp _).2 (.inl rfl))
    · exact .inl ((h.fp _).2 (.inr (.inl rfl)))
    · rcases hcase z hz with rfl | ⟨hz', _⟩
      · rcases hb with hb | hb
        · exact .inl ((h.fp _).2 (.inr (.inr ⟨x, hx, .inl hb⟩)))
        · rcases hr with e | e | ⟨c, e, hc⟩
          · exact .inl ((h.fp _).2 (.inr (.inr ⟨x, hx, .inr (by rw [← e]; exact hb)⟩)))
          · simp only at hb; rw [e] at hb; cases hb
          · simp only at hb; rw [e] at hb; cases hb; exact .inr hc
      · exact .inl ((h.fp _).2 (.inr (.inr ⟨z, hz', hb⟩)))
end Go.Proofs.YtihncdlbbhmglaaDoor

/- Words of the walks: files that come and go. -/
namespace Go.Proofs.YtihncdlbbhmglaaDoor
open Go.RowKit

theorem mdel_fme (n : Int) : ∀ {Fs : List FE}, (Fs.map (·.name)).Nodup → mdel (Fs.map fme) n = (Fs.filter fun x => x.name != n).map fme := by
  intro Fs
  induction Fs with
  | nil => intro _; rfl
  | cons x l ih =>
    intro hn
    simp only [List.map_cons, List.nodup_cons] at hn
    simp only [List.map_cons, mdel, List.filter_cons]
    by_cases h : x.name = n
    · have h2 : (l.filter fun y => y.name != n) = l := by
        apply List.filter_eq_self.2
        intro y hy; simp only [bne_iff_ne, ne_eq]; intro e; exact hn.1 (by rw [h, ← e]; exact List.mem_map.2 ⟨y, hy, rfl⟩)
      have h3 : (fme x).key = n := h
      rw [if_pos h3, if_neg (by simp [h]), h2]
    · have h3 : ¬ (fme x).key = n := h
      rw [if_neg h3, if_pos (by simp [h]), ih hn.2]; rfl
theorem mset_fme (n : Int) (f : Hw.HFile) (bf : Nat) (row : Option Nat) (c : Nat) : ∀ {Fs : List FE}, (Fs.map (·.name)).Nodup → n ∈ Fs.map (·.name) →
    mset (Fs.map fme) n (.pointer (some ⟨bf, 0, none⟩)) c = (Fs.map (reF n f bf row)).map fme := by
  intro Fs
  induction Fs with
  | nil => intro _ h; cases h
  | cons x l ih =>
    intro hn hm
    simp only [List.map_cons, List.nodup_cons] at hn
    simp only [List.map_cons, mset]
    by_cases h : x.name = n
    · have h3 : (fme x).key = n := h
      rw [if_pos h3]
      have h2 : l.map (reF n f bf row) = l := by
        conv => rhs; rw [← List.map_id l]
        apply List.map_congr_left
        intro y hy
        have : y.name ≠ n := fun e => hn.1 (by rw [h, ← e]; exact List.mem_map.2 ⟨y, hy, rfl⟩)
        simp [reF, this]
      rw [h2]; simp [reF, h, fme]
    · have h3 : ¬ (fme x).key = n := h
      rw [if_neg h3, ih hn.2 (by simpa [Ne.symm h] using hm)]
      congr 1
      simp [reF, h, fme]
theorem delAt_map (Fs : List FE) (n : Int) : Hw.HDisk.delAt (Fs.map fun x => (x.name, x.file)) n = (Fs.filter fun x => x.name != n).map fun x => (x.name, x.file) := by
  unfold Hw.HDisk.delAt; rw [List.filter_map]; rfl
theorem DiskAt.sub_fp {w : World} {p : Nat} {d : Hw.HDisk} {F : Nat → Prop} {bm clock : Nat} {Fs : List FE} (h : DiskAt w p d F bm clock Fs) {b : Nat} (hb : b = p ∨ b = bm ∨ ∃ z ∈ Fs, b = z.bf ∨ z.row = some b) : F b := (h.fp b).2 hb
/-- A file goes. -/
theorem DiskAt.del {w : World} {p : Nat} {d : Hw.HDisk} {F : Nat → Prop} {bm clock : Nat} {Fs : List FE} (h : DiskAt w p d F bm clock Fs) (n : Int) :
    DiskAt (withMap w bm (mdel (Fs.map fme) n) clock) p (d.del n) (fun b => b = p ∨ b = bm ∨ ∃ z ∈ Fs.filter (fun x => x.name != n), b = z.bf ∨ z.row = some b) bm clock (Fs.filter fun x => x.name != n) := by
  have hu := withMap_upd w bm (mdel (Fs.map fme) n) clock
  have hsub : (Fs.filter fun x => x.name != n).Sublist Fs := List.filter_sublist
  refine ⟨(hu.block p (blk_lt h.top) h.ne_map).trans h.top, ?_, ?_, fun x hx => ?_, h.bfs.sublist (hsub.map _), ?_, fun b => Iff.rfl, h.left0, h.left1, h.wf.del n⟩
  · rw [mdel_fme n h.names]
    refine withMap_is h.mp.blk ?_ (fun x hx => h.mp.below x ((hsub.map fme).mem hx))
    exact h.mp.borns.sublist ((hsub.map fme).map _)
  · show Hw.HDisk.delAt d.files n = _
    rw [h.files, delAt_map]
  · have hx' := h.each x (hsub.mem hx)
    exact hx'.upd hu (fun e => hx'.ne_map h.mp.blk e.symm) (fun b hb e => hx'.row_map hb h.mp.blk e.symm)
  · exact h.rows.sublist (hsub.filterMap _)
theorem DiskAt.mdel {w : World} {p : Nat} {d : Hw.HDisk} {F : Nat → Prop} {bm clock : Nat} {Fs : List FE} (h : DiskAt w p d F bm clock Fs) (n : Int) :
    MapIs (withMap w bm (YtihncdlbbhmglaaDoor.mdel (Fs.map fme) n) clock) bm (YtihncdlbbhmglaaDoor.mdel (Fs.map fme) n) clock := by
  have := (h.del n).mp
  rw [← mdel_fme n h.names] at this; exact this
theorem works_cell {w w1 : World} {p : Nat} {d : Hw.HDisk} {F : Nat → Prop} {bm clock : Nat} {Fs : List FE} (h : DiskAt w p d F bm clock Fs) (hu : Upd (fun b => b = p) w w1) {x : FE} (hx : x ∈ Fs) {i : Nat} {v : Value} (hc : w.cell? ⟨x.bf, i, none⟩ = some v) : w1.cell? ⟨x.bf, i, none⟩ = some v := by
  rw [← hc]
  exact World.cell?_of_block (w := w) (hu.block x.bf (h.lt ((h.fp _).2 (.inr (.inr ⟨x, hx, .inl rfl⟩)))) (fun e => (h.each x hx).ne_cells h.top (by decide) e.symm))
/-- A file comes that lay loose: under a name that is new, or in another's place. -/
theorem DiskAt.ins {w : World} {p : Nat} {d : Hw.HDisk} {F : Nat → Prop} {bm clock : Nat} {Fs : List FE} (h : DiskAt w p d F bm clock Fs) (n : Int) {f : Hw.HFile} {bf : Nat} {row : Option Nat}
    (hf : FileAt w bf row f) (hbf : ∀ x ∈ Fs, x.bf ≠ bf) (hrow : ∀ x ∈ Fs, ∀ b, row = some b → x.row ≠ some b) (hwf : Hw.HDisk.WF (d.put n f)) :
    ∃ c' Fs' F', DiskAt (withMap w bm (mset (Fs.map fme) n (.pointer (some ⟨bf, 0, none⟩)) clock) (bump (Fs.map fme) n clock)) p (d.put n f) F' bm c' Fs' ∧ (∀ b, F' b → F b ∨ b = bf ∨ row = some b) ∧ ∃ x ∈ Fs', x.name = n ∧ x.bf = bf ∧ x.row = row ∧ x.file = f := by
  have hnames := h.names
  unfold bump
  by_cases hn : n ∈ Fs.map (·.name)
  · have hlk : (mlook (Fs.map fme) n).isSome := by
      rw [look_fme]
      obtain ⟨x, hx, hxn⟩ := List.mem_map.1 hn
      cases e : Fs.find? (fun x => x.name == n) with
      | none => have := List.find?_eq_none.1 e x hx; simp [hxn] at this
      | some y => rfl
    rw [if_pos hlk, mset_fme n f bf row clock hnames hn]
    have hu := withMap_upd w bm ((Fs.map (reF n f bf row)).map fme) clock
    obtain ⟨x0, hx0, hxn0⟩ := List.mem_map.1 hn
    have hcase : ∀ z, z ∈ Fs.map (reF n f bf row) → (z = ⟨n, f, bf, row, x0.born⟩) ∨ (z ∈ Fs ∧ z.name ≠ n) := by
      intro z hz
      obtain ⟨y, hy, rfl⟩ := List.mem_map.1 hz
      unfold reF
      by_cases e : y.name = n
      · left; rw [if_pos e, inj_of_nodup _ hnames hy hx0 (e.trans hxn0.symm)]
      · right; rw [if_neg e]; exact ⟨hy, e⟩
    have hborn : ((Fs.map (reF n f bf row)).map fme).map (·.born) = (Fs.map fme).map (·.born) := by
      simp only [List.map_map]
      apply List.map_congr_left
      intro y _; simp only [Function.comp, fme, reF]; split <;> rfl
    have hbfs : ((Fs.map (reF n f bf row)).map (·.bf)).Nodup := by
      have hnm : (Fs.map (reF n f bf row)).map (·.name) = Fs.map (·.name) := by
        rw [List.map_map]; apply List.map_congr_left
        intro y _; simp only [Function.comp, reF]; split
        · rename_i e; exact e.symm
        · rfl
      have h1 : (Fs.map (reF n f bf row)).Nodup := nodup_of_map (·.name) (by rw [hnm]; exact hnames)
      rw [List.nodup_iff_pairwise_ne, List.pairwise_map]
      refine (List.nodup_iff_pairwise_ne.1 h1).imp_of_mem ?_
      intro z y hz hy hzy e
      rcases hcase z hz with rfl | ⟨hz', _⟩ <;> rcases hcase y hy with rfl | ⟨hy', _⟩
      · exact hzy rfl
      · exact hbf y hy' e.symm
      · exact hbf z hz' e
      · exact hzy (inj_of_nodup _ h.bfs hz' hy' e)
    refine ⟨clock, Fs.map (reF n f bf row), fun b => b = p ∨ b = bm ∨ ∃ z ∈ Fs.map (reF n f bf row), b = z.bf ∨ z.row = some b, ⟨(hu.block p (blk_lt h.top) h.ne_map).trans h.top, ?_, ?_, fun z hz => ?_, hbfs, ?_, fun b => Iff.rfl, h.left0, h.left1, hwf⟩, ?_, ?_⟩
    · refine withMap_is h.mp.blk (by rw [hborn]; exact h.mp.borns) (fun x hx => ?_)
      have : x.born ∈ ((Fs.map (reF n f bf row)).map fme).map (·.born) := List.mem_map.2 ⟨x, hx, rfl⟩
      rw [hborn] at this
      obtain ⟨y, hy, e⟩ := List.mem_map.1 this
      rw [← e]; exact h.mp.below y hy
    · show Hw.HDisk.setAt d.files n f = _
      rw [setAt_map h.wf.nodup (by rw [h.files, List.map_map]; exact hn), h.files, List.map_map, List.map_map]
      apply List.map_congr_left
      intro y hy
      simp only [Function.comp, reF]
      by_cases e : y.name = n <;> simp [e]
    · rcases hcase z hz with rfl | ⟨hz', _⟩
      · exact hf.upd hu (fun e => hf.ne_map h.mp.blk e.symm) (fun b hb e => hf.row_map hb h.mp.blk e.symm)
      · have hx' := h.each z hz'
        exact hx'.upd hu (fun e => hx'.ne_map h.mp.blk e.symm) (fun b hb e => hx'.row_map hb h.mp.blk e.symm)
    · refine rows_nodup_of (nodup_of_map (·.bf) hbfs) (fun z hz y hy b hzb hyb => ?_)
      rcases hcase z hz with rfl | ⟨hz', _⟩ <;> rcases hcase y hy with rfl | ⟨hy', _⟩
      · rfl
      · exact absurd hyb (hrow y hy' b hzb)
      · exact absurd hzb (hrow z hz' b hyb)
      · rcases rows_inj h.rows hz' hy' hzb hyb with e | e
        · exact inj_of_nodup _ h.bfs hz' hy' e
        · exact e
    · rintro b (rfl | rfl | ⟨z, hz, hb⟩)
      · exact .inl (h.sub_fp (.inl rfl))
      · exact .inl (h.sub_fp (.inr (.inl rfl)))
      · rcases hcase z hz with rfl | ⟨hz', _⟩
        · exact .inr hb
        · exact .inl (h.sub_fp (.inr (.inr ⟨z, hz', hb⟩)))
    · exact ⟨_, List.mem_map.2 ⟨x0, hx0, rfl⟩, by simp [reF, hxn0], by simp [reF, hxn0], by simp [reF, hxn0], by simp [reF, hxn0]⟩
  · have hlk : mlook (Fs.map fme) n = none := by
      rw [look_fme]
      have : Fs.find? (fun x => x.name == n) = none := List.find?_eq_none.2 (fun x hx => by
        simp only [beq_iff_eq]; exact fun e => hn (List.mem_map.2 ⟨x, hx, e⟩))
      rw [this]; rfl
    rw [hlk, if_neg (by simp), mset_new _ _ _ hlk]
    have hms : Fs.map fme ++ [(⟨n, .pointer (some ⟨bf, 0, none⟩), clock⟩ : ME)] = (Fs ++ [(⟨n, f, bf, row, clock⟩ : FE)]).map fme := by simp [fme]
    rw [hms]
    have hu := withMap_upd w bm ((Fs ++ [(⟨n, f, bf, row, clock⟩ : FE)]).map fme) (clock + 1)
    have hcase : ∀ z, z ∈ Fs ++ [(⟨n, f, bf, row, clock⟩ : FE)] → (z = ⟨n, f, bf, row, clock⟩) ∨ z ∈ Fs := by
      intro z hz; rcases List.mem_append.1 hz with hz | hz
      · exact .inr hz
      · exact .inl (by simpa using hz)
    have hbfs : ((Fs ++ [(⟨n, f, bf, row, clock⟩ : FE)]).map (·.bf)).Nodup := by
      rw [List.map_append, List.nodup_append]
      refine ⟨h.bfs, by simp, ?_⟩
      intro a ha b hb e
      obtain ⟨x, hx, rfl⟩ := List.mem_map.1 ha
      simp at hb; exact hbf x hx (e.trans hb)
    refine ⟨clock + 1, Fs ++ [⟨n, f, bf, row, clock⟩], fun b => b = p ∨ b = bm ∨ ∃ z ∈ Fs ++ [(⟨n, f, bf, row, clock⟩ : FE)], b = z.bf ∨ z.row = some b, ⟨(hu.block p (blk_lt h.top) h.ne_map).trans h.top, ?_, ?_, fun z hz => ?_, hbfs, ?_, fun b => Iff.rfl, h.left0, h.left1, hwf⟩, ?_, ⟨_, List.mem_append.2 (.inr (List.mem_singleton.2 rfl)), rfl, rfl, rfl, rfl⟩⟩
    · refine withMap_is h.mp.blk ?_ (fun x hx => ?_)
      · rw [List.map_append, List.map_append, List.nodup_append]
        refine ⟨h.mp.borns, by simp, ?_⟩
        intro a ha b hb e
        obtain ⟨x, hx, rfl⟩ := List.mem_map.1 ha
        have := h.mp.below x hx
        simp [fme] at hb; omega
      · rw [List.map_append] at hx
        rcases List.mem_append.1 hx with hx | hx
        · have := h.mp.below x hx; omega
        · simp [fme] at hx; rw [hx]; simp
    · show Hw.HDisk.setAt d.files n f = _
      rw [setAt_new (by rw [h.files, List.map_map]; exact hn), h.files]; simp
    · rcases hcase z hz with rfl | hz'
      · exact hf.upd hu (fun e => hf.ne_map h.mp.blk e.symm) (fun b hb e => hf.row_map hb h.mp.blk e.symm)
      · have hx' := h.each z hz'
        exact hx'.upd hu (fun e => hx'.ne_map h.mp.blk e.symm) (fun b hb e => hx'.row_map hb h.mp.blk e.symm)
    · refine rows_nodup_of (nodup_of_map (·.bf) hbfs) (fun z hz y hy b hzb hyb => ?_)
      rcases hcase z hz with rfl | hz' <;> rcases hcase y hy with rfl | hy'
      · rfl
      · exact absurd hyb (hrow y hy' b hzb)
      · exact absurd hzb (hrow z hz' b hyb)
      · rcases rows_inj h.rows hz' hy' hzb hyb with e | e
        · exact inj_of_nodup _ h.bfs hz' hy' e
        · exact e
    · rintro b (rfl | rfl | ⟨z, hz, hb⟩)
      · exact .inl (h.sub_fp (.inl rfl))
      · exact .inl (h.sub_fp (.inr (.inl rfl)))
      · rcases hcase z hz with rfl | hz'
        · exact .inr hb
        · exact .inl (h.sub_fp (.inr (.inr ⟨z, hz', hb⟩)))
end Go.Proofs.YtihncdlbbhmglaaDoor

/- Walks: disk: Sync, Remove. -/
namespace Go.Proofs.YtihncdlbbhmglaaDoor
open Go.RowKit
theorem DiskRet.same {w : World} {p : Nat} {d : Hw.HDisk} {F : Nat → Prop} (h : IsDisk w p d F) (e : Int) {w' : World} (hu : Below w.heap.size w w') : DiskRet p (e, d) F w (.returned (errV e)) w' :=
  ⟨rfl, F, h.below hu, fun _ h => .inl h, Upd.of_below hu⟩
theorem DiskRet.of {w w' : World} {p : Nat} {d' : Hw.HDisk} {F F' : Nat → Prop} {bm clock : Nat} {Fs : List FE} (e : Int) (h : DiskAt w' p d' F' bm clock Fs) (hF : ∀ b, F' b → F b ∨ w.heap.size ≤ b) (hu : Upd F w w') :
    DiskRet p (e, d') F w (.returned (errV e)) w' := ⟨rfl, F', ⟨bm, clock, Fs, h⟩, hF, hu⟩
theorem DiskAt.fpU {w w' : World} {p : Nat} {d : Hw.HDisk} {F : Nat → Prop} {bm clock : Nat} {Fs : List FE} (h : DiskAt w p d F bm clock Fs) (hu : Upd (fun b => b = p) w w') : Upd F w w' :=
  hu.mono (fun n _ e => (h.fp n).2 (.inl e))
def SyncEnd (p : Nat) (d : Hw.HDisk) (F : Nat → Prop) (n : Int) (f : Hw.HFile) (x : FE) (w : World) (w2 : World) : Prop :=
  DiskRet p (0, d.works.put n ⟨f.bytes, f.bytes.length⟩) F w (.returned .nilIface) w2
theorem sync_end {w w1 : World} {p : Nat} {d : Hw.HDisk} {F : Nat → Prop} {bm clock : Nat} {Fs : List FE} {n : Int} {f : Hw.HFile} {x : FE} (h : DiskAt w p d F bm clock Fs) (h1 : DiskAt w1 p d.works F bm clock Fs) (hu : Upd (fun b => b = p) w w1)
    (hx : x ∈ Fs) (hxn : x.name = n) (hxf : x.file = f) (hf : d.find n = some f) : SyncEnd p d F n f x w (w1.setCell ⟨x.bf, 1, none⟩ (.int .i64 (f.bytes.length : Int))) := by
  obtain ⟨sv, g1, g2, g3⟩ := h1.each x hx
  have hus : Upd (fun b => b = x.bf ∨ x.row = some b) w1 (w1.setCell ⟨x.bf, 1, none⟩ (.int .i64 (f.bytes.length : Int))) :=
    (Upd.refl (fun b => b = x.bf ∨ x.row = some b) w1).setCell (p := ⟨x.bf, 1, none⟩) (.inl (.inl rfl)) _
  have hfile : FileAt (w1.setCell ⟨x.bf, 1, none⟩ (.int .i64 (f.bytes.length : Int))) x.bf x.row ⟨f.bytes, f.bytes.length⟩ := by
    refine ⟨sv, by rw [blk_set g1]; rfl, g2, ?_⟩
    rw [hxf] at g3
    exact own_upd g3 ((Upd.refl (fun b => b = x.bf) w1).setCell (p := ⟨x.bf, 1, none⟩) (.inl rfl) _) (fun k hk e => (h1.each x hx).row_cells (g2.symm.trans hk) g1 (by decide) e.symm)
  have hwf : Hw.HDisk.WF (d.works.put n ⟨f.bytes, f.bytes.length⟩) := by
    refine h1.wf.put _ _ (Nat.le_refl _) ?_
    have := Hw.HDisk.len_some (d := d.works) (n := n) hf
    have := h1.wf.room
    show d.works.used + f.bytes.length ≤ _
    omega
  obtain ⟨F', h2, h3⟩ := h1.put hx hxn hus hfile (.inl rfl) hwf
  refine DiskRet.of (0 : Int) h2 (fun b hb => ?_) ((h.fpU hu).trans hus (fun b _ hb => ?_))
  · rcases h3 b hb with h | h'
    · exact .inl h
    · have := hu.size; exact .inr (by omega)
  · exact (h.fp b).2 (.inr (.inr ⟨x, hx, hb⟩))
set_option maxRecDepth 100000 in
set_option maxHeartbeats 400000 in
theorem disk_Sync (p : Nat) (d : Hw.HDisk) (F : Nat → Prop) (n : Int) (w : World) (h : IsDisk w p d F) :
    Calls Tryd.prog 30 #[.pointer (some ⟨p, 0, none⟩), .int .i64 n] w (DiskRet p (d.sync n) F w) := by
  obtain ⟨bm, clock, Fs, h⟩ := h
  have c0 : w.cell? ⟨p, 0, none⟩ = some (.map (some bm)) := by simp [World.cell?, h.top]
  have c3 : w.cell? ⟨p, 3, none⟩ = some (.bool d.stopped) := by simp [World.cell?, h.top]
  have H := Lib.hid h
  unfold Hw.HDisk.sync
  by_cases hst : d.stopped = true
  · rw [if_pos hst]
    rw [hst] at c3
    clear h hst
    go_enter Tryd.func30, Tryd.ntmps30
    go_wp2_with (at_lookup; refine wpLookup rfl _ _ rfl dmap dint dptr H.out.mp rfl rfl ?_)
    all_goals
      go_ret
      exact DiskRet.same ⟨bm, clock, Fs, H.out⟩ 12 (Below.refl _ _)
  · rw [if_neg hst]
    have hst' : d.stopped = false := by simpa using hst
    rw [hst'] at c3
    clear hst
    cases hf : d.find n with
    | none =>
      have hl := h.find_none hf
      clear h hf hst'
      go_enter Tryd.func30, Tryd.ntmps30
      go_wp2_with (at_lookup; refine wpLookup rfl _ _ rfl dmap dint dptr H.out.mp rfl rfl ?_)
      go_ret
      exact DiskRet.same ⟨bm, clock, Fs, H.out⟩ 2 (Below.refl _ _)
    | some f =>
      obtain ⟨x, hx, hxn, hxf, hl⟩ := h.find_some hf
      have HX := Lib.hid (And.intro hx (And.intro hxn (And.intro hxf hf)))
      simp only
      clear h hf hst' hx hxn hxf
      by_cases hws : d.works.stopped = true
      · rw [if_pos hws]
        go_enter Tryd.func30, Tryd.ntmps30
        go_wp2_with (first
          | (at_lookup; refine wpLookup rfl _ _ rfl dmap dint dptr H.out.mp rfl rfl ?_)
          | (go_at_call 32; refine (disk_works p d F bm clock Fs _ H.out).mono ?_; rintro e w1 ⟨rfl, hd, hu⟩; have HD := Lib.hid (And.intro hd hu); clear hd hu))
        go_ret
        exact DiskRet.of 12 HD.out.1 (fun _ h => .inl h) (H.out.fpU HD.out.2)
      · rw [if_neg hws]
        have hws' : d.works.stopped = false := by simpa using hws
        clear hws
        go_enter Tryd.func30, Tryd.ntmps30
        go_wp2_with (first
          | (at_lookup; refine wpLookup rfl _ _ rfl dmap dint dptr H.out.mp rfl rfl ?_)
          | (go_at_call 32; refine (disk_works p d F bm clock Fs _ H.out).mono ?_; rintro e w1 ⟨rfl, hd, hu⟩; obtain ⟨A, c, k0, k1, k2, k3⟩ := (hd.each x HX.out.1).cells; rw [HX.out.2.2.1] at k0; have k4 : w1.frozen? ⟨x.bf, 1, none⟩ = false := (hd.each x HX.out.1).unfrozen 1; have HD := Lib.hid (And.intro hd hu); clear hd hu))
        go_ret
        exact sync_end H.out HD.out.1 HD.out.2 HX.out.1 HX.out.2.1 HX.out.2.2.1 HX.out.2.2.2
theorem remove_end {w w1 : World} {p : Nat} {d : Hw.HDisk} {F : Nat → Prop} {bm clock : Nat} {Fs : List FE} (h : DiskAt w p d F bm clock Fs) (h1 : DiskAt w1 p d.works F bm clock Fs) (hu : Upd (fun b => b = p) w w1) (n : Int) :
    DiskRet p (0, d.works.del n) F w (.returned .nilIface) (withMap w1 bm (mdel (Fs.map fme) n) clock) := by
  refine DiskRet.of (0 : Int) (h1.del n) (fun b hb => .inl ?_) ((h.fpU hu).trans (withMap_upd w1 bm _ clock) (fun b _ e => (h.fp b).2 (.inr (.inl e))))
  rcases hb with e | e | ⟨z, hz, hb⟩
  · exact (h.fp b).2 (.inl e)
  · exact (h.fp b).2 (.inr (.inl e))
  · exact (h.fp b).2 (.inr (.inr ⟨z, (List.mem_filter.1 hz).1, hb⟩))
set_option maxRecDepth 100000 in
set_option maxHeartbeats 400000 in
theorem disk_Remove (p : Nat) (d : Hw.HDisk) (F : Nat → Prop) (n : Int) (w : World) (h : IsDisk w p d F) :
    Calls Tryd.prog 40 #[.pointer (some ⟨p, 0, none⟩), .int .i64 n] w (DiskRet p (d.remove n) F w) := by
  obtain ⟨bm, clock, Fs, h⟩ := h
  have c0 : w.cell? ⟨p, 0, none⟩ = some (.map (some bm)) := by simp [World.cell?, h.top]
  have c3 : w.cell? ⟨p, 3, none⟩ = some (.bool d.stopped) := by simp [World.cell?, h.top]
  have H := Lib.hid h
  unfold Hw.HDisk.remove
  by_cases hst : d.stopped = true
  · rw [if_pos hst]
    rw [hst] at c3
    clear h hst
    go_enter Tryd.func40, Tryd.ntmps40
    go_wp2_with (at_lookup; refine wpLookup rfl _ _ rfl dmap dint dptr H.out.mp rfl rfl ?_)
    all_goals
      go_ret
      exact DiskRet.same ⟨bm, clock, Fs, H.out⟩ 12 (Below.refl _ _)
  · rw [if_neg hst]
    have hst' : d.stopped = false := by simpa using hst
    rw [hst'] at c3
    clear hst
    cases hf : d.find n with
    | none =>
      have hl := h.find_none hf
      clear h hf hst'
      go_enter Tryd.func40, Tryd.ntmps40
      go_wp2_with (at_lookup; refine wpLookup rfl _ _ rfl dmap dint dptr H.out.mp rfl rfl ?_)
      go_ret
      exact DiskRet.same ⟨bm, clock, Fs, H.out⟩ 2 (Below.refl _ _)
    | some f =>
      obtain ⟨x, _, _, _, hl⟩ := h.find_some hf
      simp only
      clear h hf hst'
      by_cases hws : d.works.stopped = true
      · rw [if_pos hws]
        go_enter Tryd.func40, Tryd.ntmps40
        go_wp2_with (first
          | (at_lookup; refine wpLookup rfl _ _ rfl dmap dint dptr H.out.mp rfl rfl ?_)
          | (go_at_call 32; refine (disk_works p d F bm clock Fs _ H.out).mono ?_; rintro e w1 ⟨rfl, hd, hu⟩; have HD := Lib.hid (And.intro hd hu); clear hd hu))
        go_ret
        exact DiskRet.of 12 HD.out.1 (fun _ h => .inl h) (H.out.fpU HD.out.2)
      · rw [if_neg hws]
        have hws' : d.works.stopped = false := by simpa using hws
        clear hws
        go_enter Tryd.func40, Tryd.ntmps40
        go_wp2_with (first
          | (at_lookup; refine wpLookup rfl _ _ rfl dmap dint dptr H.out.mp rfl rfl ?_)
          | (go_at_call 32; refine (disk_works p d F bm clock Fs _ H.out).mono ?_; rintro e w1 ⟨rfl, hd, hu⟩; have k0 : w1.cell? ⟨p, 0, none⟩ = some (.map (some bm)) := hd.cell0; have HD := Lib.hid (And.intro hd hu); clear hd hu)
          | (at_delete; refine wpDelete rfl _ _ 3 rfl dmap dint HD.out.1.mp rfl rfl hl ?_))
        go_ret
        exact remove_end H.out HD.out.1 HD.out.2 n
end Go.Proofs.YtihncdlbbhmglaaDoor

/- Walks: disk: Rename. -/
namespace Go.Proofs.YtihncdlbbhmglaaDoor
open Go.RowKit
theorem rename_end {w w1 : World} {p : Nat} {d : Hw.HDisk} {F : Nat → Prop} {bm clock : Nat} {Fs : List FE} (h : DiskAt w p d F bm clock Fs) (h1 : DiskAt w1 p d.works F bm clock Fs) (hu : Upd (fun b => b = p) w w1)
    {a b : Int} {f : Hw.HFile} {x : FE} (hx : x ∈ Fs) (hxn : x.name = a) (hxf : x.file = f) (hf : d.find a = some f) :
    DiskRet p (0, (d.works.del a).put b f) F w (.returned .nilIface) (withMap (withMap w1 bm (mdel (Fs.map fme) a) clock) bm (mset (mdel (Fs.map fme) a) b (.pointer (some ⟨x.bf, 0, none⟩)) clock) (bump (mdel (Fs.map fme) a) b clock)) := by
  have h2 := h1.del a
  have hu2 := withMap_upd w1 bm (mdel (Fs.map fme) a) clock
  have hx1 := h1.each x hx
  rw [hxf] at hx1
  have hx2 : FileAt (withMap w1 bm (mdel (Fs.map fme) a) clock) x.bf x.row f := hx1.upd hu2 (fun e => hx1.ne_map h1.mp.blk e.symm) (fun b hb e => hx1.row_map hb h1.mp.blk e.symm)
  have hwf : Hw.HDisk.WF ((d.works.del a).put b f) := by
    refine (h1.wf.del a).put _ _ (h1.wf.safe a f hf) ?_
    have := Hw.HDisk.used_del h1.wf.nodup a
    have := Hw.HDisk.len_some (d := d.works) (n := a) hf
    have := h1.wf.room
    simp only [Hw.HDisk.room_del, Hw.HDisk.room_works, Hw.HDisk.used_works] at *; omega
  have hne : ∀ y ∈ Fs.filter (fun z => z.name != a), y ≠ x := by
    intro y hy e
    have := (List.mem_filter.1 hy).2
    rw [e, hxn] at this; simp at this
  have hin := h2.ins b hx2 (fun y hy e => hne y hy (inj_of_nodup _ h.bfs (List.mem_filter.1 hy).1 hx e))
    (fun y hy c hc hyc => by
      rcases rows_inj h.rows (List.mem_filter.1 hy).1 hx hyc hc with e | e
      · exact hne y hy (inj_of_nodup _ h.bfs (List.mem_filter.1 hy).1 hx e)
      · exact hne y hy e) hwf
  rw [← mdel_fme a h.names] at hin
  obtain ⟨c', Fs', F', h3, h4, _⟩ := hin
  refine DiskRet.of (0 : Int) h3 (fun c hc => .inl ?_) (((h.fpU hu).trans hu2 (fun c _ e => (h.fp c).2 (.inr (.inl e)))).trans (withMap_upd _ bm _ _) (fun c _ e => (h.fp c).2 (.inr (.inl e))))
  rcases h4 c hc with (e | e | ⟨z, hz, e⟩) | e | e
  · exact (h.fp c).2 (.inl e)
  · exact (h.fp c).2 (.inr (.inl e))
  · exact (h.fp c).2 (.inr (.inr ⟨z, (List.mem_filter.1 hz).1, e⟩))
  · exact (h.fp c).2 (.inr (.inr ⟨x, hx, .inl e⟩))
  · exact (h.fp c).2 (.inr (.inr ⟨x, hx, .inr e⟩))
set_option maxRecDepth 100000 in
set_option maxHeartbeats 400000 in
theorem disk_Rename (p : Nat) (d : Hw.HDisk) (F : Nat → Prop) (a b : Int) (w : World) (h : IsDisk w p d F) :
    Calls Tryd.prog 44 #[.pointer (some ⟨p, 0, none⟩), .int .i64 a, .int .i64 b] w (DiskRet p (d.rename a b) F w) := by
  obtain ⟨bm, clock, Fs, h⟩ := h
  have c0 : w.cell? ⟨p, 0, none⟩ = some (.map (some bm)) := by simp [World.cell?, h.top]
  have c3 : w.cell? ⟨p, 3, none⟩ = some (.bool d.stopped) := by simp [World.cell?, h.top]
  have H := Lib.hid h
  unfold Hw.HDisk.rename
  by_cases hst : d.stopped = true
  · rw [if_pos hst]
    rw [hst] at c3
    clear h hst
    go_enter Tryd.func44, Tryd.ntmps44
    go_wp2_with (at_lookup; refine wpLookup rfl _ _ rfl dmap dint dptr H.out.mp rfl rfl ?_)
    all_goals
      go_ret
      exact DiskRet.same ⟨bm, clock, Fs, H.out⟩ 12 (Below.refl _ _)
  · rw [if_neg hst]
    have hst' : d.stopped = false := by simpa using hst
    rw [hst'] at c3
    clear hst
    cases hf : d.find a with
    | none =>
      have hl := h.find_none hf
      clear h hf hst'
      go_enter Tryd.func44, Tryd.ntmps44
      go_wp2_with (at_lookup; refine wpLookup rfl _ _ rfl dmap dint dptr H.out.mp rfl rfl ?_)
      go_ret
      exact DiskRet.same ⟨bm, clock, Fs, H.out⟩ 2 (Below.refl _ _)
    | some f =>
      obtain ⟨x, hx, hxn, hxf, hl⟩ := h.find_some hf
      have HX := Lib.hid (And.intro hx (And.intro hxn (And.intro hxf hf)))
      simp only
      clear h hf hst' hx hxn hxf
      by_cases hws : d.works.stopped = true
      · rw [if_pos hws]
        go_enter Tryd.func44, Tryd.ntmps44
        go_wp2_with (first
          | (at_lookup; refine wpLookup rfl _ _ rfl dmap dint dptr H.out.mp rfl rfl ?_)
          | (go_at_call 32; refine (disk_works p d F bm clock Fs _ H.out).mono ?_; rintro e w1 ⟨rfl, hd, hu⟩; have HD := Lib.hid (And.intro hd hu); clear hd hu))
        go_ret
        exact DiskRet.of 12 HD.out.1 (fun _ h => .inl h) (H.out.fpU HD.out.2)
      · rw [if_neg hws]
        have hws' : d.works.stopped = false := by simpa using hws
        clear hws
        go_enter Tryd.func44, Tryd.ntmps44
        go_wp2_with (first
          | (at_lookup; refine wpLookup rfl _ _ rfl dmap dint dptr H.out.mp rfl rfl ?_)
          | (go_at_call 32; refine (disk_works p d F bm clock Fs _ H.out).mono ?_; rintro e w1 ⟨rfl, hd, hu⟩; have k0 : w1.cell? ⟨p, 0, none⟩ = some (.map (some bm)) := hd.cell0; have k9 : (withMap w1 bm (mdel (Fs.map fme) a) clock).cell? ⟨p, 0, none⟩ = some (.map (some bm)) := (hd.del a).cell0; have hm2 : MapIs (withMap w1 bm (mdel (Fs.map fme) a) clock) bm (mdel (Fs.map fme) a) clock := hd.mdel a; have HD := Lib.hid (And.intro hd (And.intro hu hm2)); clear hd hu hm2)
          | (at_delete; refine wpDelete rfl _ _ 3 rfl dmap dint HD.out.1.mp rfl rfl hl ?_)
          | (at_mapUpdate; refine wpUpdate rfl _ _ _ rfl dmap dint HD.out.2.2 rfl rfl rfl ?_; intro w3 hw3))
        go_ret
        rw [hw3.out]
        exact rename_end H.out HD.out.1 HD.out.2.1 HX.out.1 HX.out.2.1 HX.out.2.2.1 HX.out.2.2.2
end Go.Proofs.YtihncdlbbhmglaaDoor

/- Walks: disk: Cut. -/
namespace Go.Proofs.YtihncdlbbhmglaaDoor
open Go.RowKit
theorem own_take {w : World} {base n c m : Nat} {e : TypeId} {A : Option Addr} {xs : List Value} (h : w.ownsRow base e 1 (.slice A n c) n xs) (hm : m ≤ n) : w.ownsRow base e 1 (.slice A m c) m (xs.take m) := by
  have hl := h.1
  refine ⟨by simp; omega, ?_⟩
  rcases h.2 with ⟨hv, hn⟩ | ⟨g, cap, cur, hv, h1, h2, h3, h4, h5, h6⟩
  · cases hv
    have hm0 : m = 0 := by omega
    subst hm0
    exact .inl ⟨rfl, rfl⟩
  · cases hv; right
    refine ⟨g, c, cur, rfl, h1, h2, by omega, h4, h5, ?_⟩
    rw [← h6, List.take_take]; congr 1; omega
theorem FileAt.slice {w : World} {bf : Nat} {row : Option Nat} {f : Hw.HFile} (h : FileAt w bf row f) : ∃ A c, w.heap[bf]? = some (.cells #[.slice A f.bytes.length c, .int .i64 (f.safe : Int)] 69 (0, 0)) ∧ (Value.slice A f.bytes.length c).ownBlock = row ∧ w.ownsRow 0 5 1 (.slice A f.bytes.length c) f.bytes.length (u8s f.bytes) ∧ f.bytes.length ≤ c ∧ c ≤ maxLen := by
  obtain ⟨sv, g1, g2, g3⟩ := h
  obtain ⟨A, c, rfl, h1, h2⟩ := RdB.len (RdB.of_own (M := fun _ => False) g3 (fun _ _ h => h))
  exact ⟨A, c, g1, g2, g3, h1, h2⟩
theorem FileAt.slice_at {w : World} {bf : Nat} {row : Option Nat} {f f' : Hw.HFile} {A : Option Addr} {c : Nat} (h : FileAt w bf row f) (hf : f = f') (hc : w.cell? ⟨bf, 0, none⟩ = some (.slice A f'.bytes.length c)) :
    w.ownsRow 0 5 1 (.slice A f'.bytes.length c) f'.bytes.length (u8s f'.bytes) := by
  subst hf
  obtain ⟨A', c', g1, _, g3, _⟩ := h.slice
  have e : A' = A ∧ c' = c := by simp [World.cell?, g1] at hc; exact hc
  obtain ⟨rfl, rfl⟩ := e
  exact g3
theorem cut_file {w : World} {bf : Nat} {row : Option Nat} {f : Hw.HFile} {A : Option Addr} {c m : Nat} (h : FileAt w bf row f) (hc : w.cell? ⟨bf, 0, none⟩ = some (.slice A f.bytes.length c)) (hm : m ≤ f.bytes.length) :
    FileAt ((w.setCell ⟨bf, 0, none⟩ (.slice A m c)).setCell ⟨bf, 1, none⟩ (.int .i64 (m : Int))) bf row ⟨f.bytes.take m, m⟩ := by
  obtain ⟨A', c', g1, g2, g3, _, _⟩ := h.slice
  have e : A' = A ∧ c' = c := by simp [World.cell?, g1] at hc; exact hc
  obtain ⟨rfl, rfl⟩ := e
  refine ⟨.slice A' m c', by rw [blk_set (blk_set g1 0 _)]; rfl, ?_, ?_⟩
  · rw [← g2]; cases A' <;> rfl
  · have h1 := own_take g3 hm
    rw [← u8s_take] at h1
    have hu : Upd (fun b => b = bf) w ((w.setCell ⟨bf, 0, none⟩ (.slice A' m c')).setCell ⟨bf, 1, none⟩ (.int .i64 (m : Int))) :=
      ((Upd.refl (fun b => b = bf) w).setCell (p := ⟨bf, 0, none⟩) (.inl rfl) _).setCell (p := ⟨bf, 1, none⟩) (.inl rfl) _
    have := own_upd h1 hu (fun k hk e => h.row_cells (by rw [← g2]; cases A' <;> exact hk) g1 (by decide) e.symm)
    show World.ownsRow _ 0 _ 1 _ (f.bytes.take m).length _
    rw [show (f.bytes.take m).length = m by simp; omega]; exact this
theorem cut_end {w w1 : World} {p : Nat} {d : Hw.HDisk} {F : Nat → Prop} {bm clock : Nat} {Fs : List FE} {n : Int} {m : Nat} {f : Hw.HFile} {x : FE} {A : Option Addr} {c : Nat} (h : DiskAt w p d F bm clock Fs) (h1 : DiskAt w1 p d.works F bm clock Fs) (hu : Upd (fun b => b = p) w w1)
    (hx : x ∈ Fs) (hxn : x.name = n) (hxf : x.file = f) (hf : d.find n = some f) (hc : w1.cell? ⟨x.bf, 0, none⟩ = some (.slice A f.bytes.length c)) (hm : m ≤ f.bytes.length) :
    DiskRet p (0, d.works.put n ⟨f.bytes.take m, m⟩) F w (.returned .nilIface) ((w1.setCell ⟨x.bf, 0, none⟩ (.slice A m c)).setCell ⟨x.bf, 1, none⟩ (.int .i64 (m : Int))) := by
  have hus : Upd (fun b => b = x.bf ∨ x.row = some b) w1 ((w1.setCell ⟨x.bf, 0, none⟩ (.slice A m c)).setCell ⟨x.bf, 1, none⟩ (.int .i64 (m : Int))) :=
    ((Upd.refl (fun b => b = x.bf ∨ x.row = some b) w1).setCell (p := ⟨x.bf, 0, none⟩) (.inl (.inl rfl)) _).setCell (p := ⟨x.bf, 1, none⟩) (.inl (.inl rfl)) _
  have hfile := h1.each x hx
  rw [hxf] at hfile
  have hwf : Hw.HDisk.WF (d.works.put n ⟨f.bytes.take m, m⟩) := by
    refine h1.wf.put _ _ (by simp; omega) ?_
    have := Hw.HDisk.len_some (d := d.works) (n := n) hf
    have := h1.wf.room
    show d.works.used + (f.bytes.take m).length ≤ _
    rw [List.length_take]; omega
  obtain ⟨F', h2, h3⟩ := h1.put hx hxn hus (cut_file hfile hc hm) (.inl rfl) hwf
  refine DiskRet.of (0 : Int) h2 (fun b hb => ?_) ((h.fpU hu).trans hus (fun b _ hb => ?_))
  · rcases h3 b hb with h | h'
    · exact .inl h
    · have := hu.size; exact .inr (by omega)
  · exact (h.fp b).2 (.inr (.inr ⟨x, hx, hb⟩))
set_option maxRecDepth 100000 in
set_option maxHeartbeats 800000 in
theorem disk_Cut (p : Nat) (d : Hw.HDisk) (F : Nat → Prop) (n m : Int) (w : World) (h : IsDisk w p d F) :
    Calls Tryd.prog 42 #[.pointer (some ⟨p, 0, none⟩), .int .i64 n, .int .i64 m] w (DiskRet p (d.cut n m) F w) := by
  obtain ⟨bm, clock, Fs, h⟩ := h
  have c0 : w.cell? ⟨p, 0, none⟩ = some (.map (some bm)) := h.cell0
  have c3 : w.cell? ⟨p, 3, none⟩ = some (.bool d.stopped) := h.cell3
  have H := Lib.hid h
  unfold Hw.HDisk.cut
  by_cases hst : d.stopped = true
  · rw [if_pos hst]
    rw [hst] at c3
    clear h hst
    go_enter Tryd.func42, Tryd.ntmps42
    go_wp2_with (at_lookup; refine wpLookup rfl _ _ rfl dmap dint dptr H.out.mp rfl rfl ?_)
    all_goals
      go_ret
      exact DiskRet.same ⟨bm, clock, Fs, H.out⟩ 12 (Below.refl _ _)
  · rw [if_neg hst]
    have hst' : d.stopped = false := by simpa using hst
    rw [hst'] at c3
    clear hst
    cases hf : d.find n with
    | none =>
      have hl := h.find_none hf
      clear h hf hst'
      go_enter Tryd.func42, Tryd.ntmps42
      go_wp2_with (at_lookup; refine wpLookup rfl _ _ rfl dmap dint dptr H.out.mp rfl rfl ?_)
      go_ret
      exact DiskRet.same ⟨bm, clock, Fs, H.out⟩ 2 (Below.refl _ _)
    | some f =>
      obtain ⟨x, hx, hxn, hxf, hl⟩ := h.find_some hf
      have HX := Lib.hid (And.intro hx (And.intro hxn (And.intro hxf hf)))
      obtain ⟨A, c, k0, k1, k2, k3⟩ := (h.each x hx).cells
      rw [hxf] at k0 k2
      simp only
      clear h hf hst' hx hxn hxf k1
      unfold maxLen at k3
      by_cases hbad : m < 0 ∨ (f.bytes.length : Int) < m
      · rw [if_pos hbad]
        go_enter Tryd.func42, Tryd.ntmps42
        go_wp2_with (at_lookup; refine wpLookup rfl _ _ rfl dmap dint dptr H.out.mp rfl rfl ?_)
        all_goals
          go_ret
          exact DiskRet.same ⟨bm, clock, Fs, H.out⟩ 13 (Below.refl _ _)
      · rw [if_neg hbad]
        obtain ⟨k, rfl⟩ := Int.eq_ofNat_of_zero_le (show 0 ≤ m by omega)
        have hk : k ≤ f.bytes.length := by omega
        clear hbad
        rw [Int.toNat_natCast]
        by_cases hws : d.works.stopped = true
        · rw [if_pos hws]
          go_enter Tryd.func42, Tryd.ntmps42
          go_wp2_with (first
            | (at_lookup; refine wpLookup rfl _ _ rfl dmap dint dptr H.out.mp rfl rfl ?_)
            | (go_at_call 32; refine (disk_works p d F bm clock Fs _ H.out).mono ?_; rintro e w1 ⟨rfl, hd, hu⟩; have HD := Lib.hid (And.intro hd hu); clear hd hu))
          go_ret
          exact DiskRet.of 12 HD.out.1 (fun _ h => .inl h) (H.out.fpU HD.out.2)
        · rw [if_neg hws]
          have hws' : d.works.stopped = false := by simpa using hws
          clear hws
          go_enter Tryd.func42, Tryd.ntmps42
          go_wp2_with (first
            | (at_lookup; refine wpLookup rfl _ _ rfl dmap dint dptr H.out.mp rfl rfl ?_)
            | (go_at_call 32; refine (disk_works p d F bm clock Fs _ H.out).mono ?_; rintro e w1 ⟨rfl, hd, hu⟩; have k10 : w1.cell? ⟨x.bf, 0, none⟩ = some (.slice A f.bytes.length c) := works_cell H.out hu HX.out.1 k0; obtain ⟨A', c', _, k11, _, _⟩ := (hd.each x HX.out.1).cells; have k4 : w1.frozen? ⟨x.bf, 0, none⟩ = false := (hd.each x HX.out.1).unfrozen 0; have k5 : w1.frozen? ⟨x.bf, 1, none⟩ = false := (hd.each x HX.out.1).unfrozen 1; have HD := Lib.hid (And.intro hd hu); clear hd hu))
          go_ret
          exact cut_end H.out HD.out.1 HD.out.2 HX.out.1 HX.out.2.1 HX.out.2.2.1 HX.out.2.2.2 k10 hk
end Go.Proofs.YtihncdlbbhmglaaDoor

/- Walks: disk: Append. -/
namespace Go.Proofs.YtihncdlbbhmglaaDoor
open Go.RowKit
structure UsedPost (d : Hw.HDisk) (w : World) (e : Ending) (w' : World) : Prop where
  ret : e = .returned (.int .i64 (d.used : Nat))
  bel : Below w.heap.size w w'
theorem used_at {w W : World} {p : Nat} {d : Hw.HDisk} {F : Nat → Prop} {bm clock : Nat} {Fs : List FE} (h : DiskAt w p d F bm clock Fs) (hb : Below w.heap.size w W) :
    Calls Tryd.prog 13 #[.pointer (some ⟨p, 0, none⟩)] W fun e w' => e = .returned (.int .i64 (d.used : Nat)) ∧ Below w.heap.size w w' :=
  (disk_Used p d F bm clock Fs W (h.upd (G := fun _ => False) (Upd.of_below hb) (fun _ _ h => h))).mono fun _ _ ⟨h1, h2⟩ => ⟨h1, hb.trans (h2.mono hb.size)⟩
theorem setAt_setAt (n : Int) (f g : Hw.HFile) : ∀ l : List (Int × Hw.HFile), Hw.HDisk.setAt (Hw.HDisk.setAt l n f) n g = Hw.HDisk.setAt l n g := by
  intro l
  induction l with
  | nil => simp [Hw.HDisk.setAt]
  | cons q l ih =>
    by_cases h : q.1 = n
    · simp [Hw.HDisk.setAt, h]
    · simp [Hw.HDisk.setAt, h, ih]
theorem put_put (d : Hw.HDisk) (n : Int) (f g : Hw.HFile) : (d.put n f).put n g = d.put n g := by
  simp only [Hw.HDisk.put, setAt_setAt]
/-- A new file, empty. -/
theorem DiskAt.fresh {w : World} {p : Nat} {D : Hw.HDisk} {F : Nat → Prop} {bm clock : Nat} {Fs : List FE} {n : Int} (h : DiskAt w p D F bm clock Fs) (hf : D.find n = none) {w3 : World}
    (hw : w3 = withMap (w.alloc (.cells #[.slice none 0 0, .int .i64 0] 69)) bm (mset (Fs.map fme) n (.pointer (some ⟨w.heap.size, 0, none⟩)) clock) (bump (Fs.map fme) n clock)) :
    ∃ c' Fs' F' x, DiskAt w3 p (D.put n ⟨[], 0⟩) F' bm c' Fs' ∧ (∀ b, F' b → F b ∨ b = w.heap.size) ∧ x ∈ Fs' ∧ x.name = n ∧ x.bf = w.heap.size ∧ x.row = none ∧ x.file = ⟨[], 0⟩ ∧ Upd F w w3 := by
  have hb := below_new w (.cells #[.slice none 0 0, .int .i64 0] 69)
  have h2 := h.upd (G := fun _ => False) (Upd.of_below hb) (fun _ _ h => h)
  have hfile : FileAt (w.alloc (.cells #[.slice none 0 0, .int .i64 0] 69)) w.heap.size none ⟨[], 0⟩ := ⟨.slice none 0 0, heap_alloc_new w _, rfl, World.ownsRow_nil _ _ _ _⟩
  have hwf : Hw.HDisk.WF (D.put n ⟨[], 0⟩) := h.wf.put _ _ (by simp) (by have := h.wf.room; show D.used + 0 ≤ _; omega)
  obtain ⟨c', Fs', F', h3, h4, x, h5, h6, h7, h8, h9⟩ := h2.ins n hfile (fun y hy e => by
      have := h.lt ((h.fp _).2 (.inr (.inr ⟨y, hy, .inl rfl⟩))); omega) (fun y _ b hb => by cases hb) hwf
  refine ⟨c', Fs', F', x, by rw [hw]; exact h3, fun b hb => ?_, h5, h6, h7, h8, h9, ?_⟩
  · rcases h4 b hb with e | e | e
    · exact .inl e
    · exact .inr e
    · cases e
  · rw [hw]; exact (Upd.of_below hb).trans (withMap_upd _ bm _ _) (fun c _ e => (h.fp c).2 (.inr (.inl e)))
/-- Behind an append onto a file's bytes, stored. -/
theorem append_put {w w3 : World} {p : Nat} {D : Hw.HDisk} {F : Nat → Prop} {bm clock : Nat} {Fs : List FE} {n : Int} {x : FE} {f : Hw.HFile} {sv v1 : Value} {bs : Hw.Bytes} (h : DiskAt w p D F bm clock Fs) (hx : x ∈ Fs) (hxn : x.name = n) (hxf : x.file = f) (hf : D.find n = some f)
    (hroom : D.used + bs.length ≤ D.room) (hsv : w.cell? ⟨x.bf, 0, none⟩ = some sv) (o1 : w3.ownsRow 0 5 1 v1 (f.bytes.length + bs.length) (u8s f.bytes ++ u8s bs)) (g1 : w.grownBy w3 sv.ownBlock) (a1 : v1.ownBlock = sv.ownBlock ∨ v1.ownBlock = some w.heap.size) :
    ∃ F', DiskAt (w3.setCell ⟨x.bf, 0, none⟩ v1) p (D.put n ⟨f.bytes ++ bs, f.safe⟩) F' bm clock (Fs.map (reF n ⟨f.bytes ++ bs, f.safe⟩ x.bf v1.ownBlock)) ∧ (∀ b, F' b → F b ∨ w.heap.size ≤ b) ∧ Upd F w (w3.setCell ⟨x.bf, 0, none⟩ v1) := by
  have hfx := h.each x hx
  rw [hxf] at hfx
  obtain ⟨sv', k1, k2, k3⟩ := hfx
  have hfx := h.each x hx
  have e : sv' = sv := by simp [World.cell?, k1] at hsv; exact hsv
  subst e
  have hbf : x.bf < w.heap.size := blk_lt k1
  have k1' : w3.heap[x.bf]? = some (.cells #[sv', .int .i64 (f.safe : Int)] 69 (0, 0)) := (g1.block x.bf hbf (fun e => hfx.row_cells (k2.symm.trans e.symm) k1 (by decide) rfl)).trans k1
  have hus : Upd (fun b => b = x.bf ∨ x.row = some b) w (w3.setCell ⟨x.bf, 0, none⟩ v1) :=
    ((Upd.of_grown g1).mono (fun b _ e => .inr (k2.symm.trans e))).trans ((Upd.refl (fun b => b = x.bf) w3).setCell (p := ⟨x.bf, 0, none⟩) (.inl rfl) v1) (fun b _ e => .inl e)
  have hfile : FileAt (w3.setCell ⟨x.bf, 0, none⟩ v1) x.bf v1.ownBlock ⟨f.bytes ++ bs, f.safe⟩ := by
    refine ⟨v1, by rw [blk_set k1']; rfl, rfl, ?_⟩
    have := own_upd o1 ((Upd.refl (fun b => b = x.bf) w3).setCell (p := ⟨x.bf, 0, none⟩) (.inl rfl) v1) (fun k hk e => by
      rcases a1 with a | a
      · exact hfx.row_cells (k2.symm.trans (a.symm.trans hk)) k1 (by decide) e.symm
      · rw [a] at hk; cases hk; omega)
    rw [u8s_append, List.length_append]; exact this
  have hwf : Hw.HDisk.WF (D.put n ⟨f.bytes ++ bs, f.safe⟩) := by
    have hsf := h.wf.safe n f hf
    refine h.wf.put _ _ (by simp; omega) ?_
    have := Hw.HDisk.len_some hf
    show D.used + (f.bytes ++ bs).length ≤ _
    rw [List.length_append]; omega
  obtain ⟨F', h2, h3⟩ := h.put hx hxn hus hfile (by
    rcases a1 with a | a
    · exact .inl (a.trans k2)
    · exact .inr (.inr ⟨_, a, Nat.le_refl _⟩)) hwf
  exact ⟨F', h2, h3, hus.mono (fun b _ hb => (h.fp b).2 (.inr (.inr ⟨x, hx, hb⟩)))⟩
theorem store_at {w w3 : World} {p : Nat} {D : Hw.HDisk} {F : Nat → Prop} {bm clock : Nat} {Fs : List FE} {x : FE} {sv : Value} (h : DiskAt w p D F bm clock Fs) (hx : x ∈ Fs)
    (hsv : w.cell? ⟨x.bf, 0, none⟩ = some sv) (g1 : w.grownBy w3 sv.ownBlock) : w3.cell? ⟨x.bf, 0, none⟩ = some sv ∧ w3.frozen? ⟨x.bf, 0, none⟩ = false := by
  have hfx := h.each x hx
  obtain ⟨sv', k1, k2, k3⟩ := hfx
  have hfx := h.each x hx
  have e : sv' = sv := by simp [World.cell?, k1] at hsv; exact hsv
  subst e
  have k1' : w3.heap[x.bf]? = some (.cells #[sv', .int .i64 (x.file.safe : Int)] 69 (0, 0)) := (g1.block x.bf (blk_lt k1) (fun e => hfx.row_cells (k2.symm.trans e.symm) k1 (by decide) rfl)).trans k1
  exact ⟨by simp [World.cell?, k1'], by simp [World.frozen?, k1']⟩
def Fresh (w3 : World) (p n0 : Nat) (D : Hw.HDisk) (F : Nat → Prop) (bm : Nat) (n : Int) (w : World) : Prop :=
  ∃ c' Fs' F' x, DiskAt w3 p (D.put n ⟨[], 0⟩) F' bm c' Fs' ∧ (∀ b, F' b → F b ∨ b = n0) ∧ x ∈ Fs' ∧ x.name = n ∧ x.bf = n0 ∧ x.row = none ∧ x.file = ⟨[], 0⟩ ∧ Upd F w w3
theorem fresh_cells {w w3 : World} {p n0 : Nat} {D : Hw.HDisk} {F : Nat → Prop} {bm : Nat} {n : Int} (h : Fresh w3 p n0 D F bm n w) : w3.cell? ⟨n0, 0, none⟩ = some (.slice none 0 0) ∧ w3.frozen? ⟨n0, 0, none⟩ = false := by
  obtain ⟨c', Fs', F', x, h1, _, h3, _, h5, h6, h7, _⟩ := h
  obtain ⟨sv, k1, k2, k3⟩ := h1.each x h3
  rw [h5] at k1
  rw [h7] at k3
  have : sv = .slice none 0 0 := by
    rcases k3.2 with ⟨e, _⟩ | ⟨g, cap, cur, e, _⟩
    · exact e
    · rw [h6, e] at k2; cases k2
  exact ⟨by simp [World.cell?, k1, this], by simp [World.frozen?, k1]⟩
theorem fresh_src {w w2 w3 : World} {p n0 : Nat} {D : Hw.HDisk} {F M : Nat → Prop} {bm : Nat} {n : Int} {v : Value} {bs : Hw.Bytes} (hv : RdB M w v bs) (hM : ∀ b, F b → M b) (hu : Upd F w w2) (h : Fresh w3 p n0 D F bm n w2) : RdB M w3 v bs := by
  obtain ⟨c', Fs', F', x, _, _, _, _, _, _, _, h8⟩ := h
  exact hv.upd (hu.trans h8 (fun _ _ h => h)) (fun n h => .inl (hM n h)) (fun _ h => .inl h)
theorem fresh_store {w w3 w4 : World} {p n0 : Nat} {D : Hw.HDisk} {F : Nat → Prop} {bm : Nat} {n : Int} (h : Fresh w3 p n0 D F bm n w) (g1 : w3.grownBy w4 (Value.slice none 0 0).ownBlock) : w4.cell? ⟨n0, 0, none⟩ = some (.slice none 0 0) ∧ w4.frozen? ⟨n0, 0, none⟩ = false := by
  have hc := fresh_cells h
  obtain ⟨c', Fs', F', x, h1, _, h3, _, h5, _⟩ := h
  subst h5
  exact store_at h1 h3 hc.1 g1
theorem fresh_put {w w3 w4 : World} {p : Nat} {D : Hw.HDisk} {F F0 : Nat → Prop} {bm bm0 clock : Nat} {Fs : List FE} {n : Int} {v1 : Value} {bs : Hw.Bytes} (h0 : DiskAt w p D F0 bm0 clock Fs) (hf : D.find n = none) (h : Fresh w3 p w.heap.size D F bm n w)
    (hroom : D.used + bs.length ≤ D.room) (o1 : w4.ownsRow 0 5 1 v1 bs.length (u8s bs)) (g1 : w3.grownBy w4 (Value.slice none 0 0).ownBlock) (a1 : v1.ownBlock = (Value.slice none 0 0).ownBlock ∨ v1.ownBlock = some w3.heap.size) :
    ∃ D' bm' c' Fs' F', DiskAt (w4.setCell ⟨w.heap.size, 0, none⟩ v1) p D' F' bm' c' Fs' ∧ (∀ b, F' b → F b ∨ w.heap.size ≤ b) ∧ Upd F w (w4.setCell ⟨w.heap.size, 0, none⟩ v1) ∧ D' = D.put n ⟨bs, 0⟩ := by
  have hc := fresh_cells h
  obtain ⟨c', Fs', F', x, h1, h2, h3, h4, h5, h6, h7, h8⟩ := h
  have hu := Hw.HDisk.used_put D n ⟨[], 0⟩
  rw [Hw.HDisk.len_none hf] at hu
  have hs := h8.size
  obtain ⟨F2, q1, q2, q3⟩ := append_put (f := ⟨[], 0⟩) (bs := bs) (n := n) (sv := .slice none 0 0) h1 h3 h4 h7 (Hw.HDisk.find_put_same _ _ _) (by simp only [Hw.HDisk.room_put]; simp at hu; omega) (by rw [h5]; exact hc.1) (by simpa [u8s] using o1) g1 a1
  rw [h5] at q1 q3
  refine ⟨_, _, _, _, F2, q1, fun b hb => ?_, h8.trans q3 (fun b hb hF => ?_), by rw [put_put]; rfl⟩
  · rcases q2 b hb with e | e
    · rcases h2 b e with e | e
      · exact .inl e
      · exact .inr (by omega)
    · exact .inr (by omega)
  · rcases h2 b hF with e | e
    · exact e
    · omega
theorem append_end {w w2 w4 : World} {p : Nat} {d D' : Hw.HDisk} {F F' F2 : Nat → Prop} {bm clock : Nat} {Fs : List FE} (e : Int) (h : DiskAt w4 p D' F' bm clock Fs) (h2 : ∀ b, F' b → F2 b ∨ w2.heap.size ≤ b) (h3 : ∀ b, F2 b → F b ∨ w.heap.size ≤ b) (hs : w.heap.size ≤ w2.heap.size)
    (hu2 : Upd F w w2) (hu4 : Upd F2 w2 w4) (hd : D' = d) : DiskRet p (e, d) F w (.returned (errV e)) w4 := by
  subst hd
  refine DiskRet.of e h (fun b hb => ?_) (hu2.trans hu4 (fun b hb hF => ?_))
  · rcases h2 b hb with h | h
    · exact h3 b h
    · exact .inr (by omega)
  · rcases h3 b hF with h | h
    · exact h
    · omega
set_option maxRecDepth 100000 in
set_option maxHeartbeats 2000000 in
theorem disk_Append (p : Nat) (d : Hw.HDisk) (F M : Nat → Prop) (n : Int) (v : Value) (bs : Hw.Bytes) (w : World) (h : IsDisk w p d F) (hv : RdB M w v bs) (hM : ∀ b, F b → M b) (hbl : bs.length ≤ 1000000000000000) :
    Calls Tryd.prog 10 #[.pointer (some ⟨p, 0, none⟩), .int .i64 n, v] w (DiskRet p (d.append n bs) F w) := by
  obtain ⟨i0, hi, hz0, hz1, hz2⟩ := info_parts u8row
  obtain ⟨bm, clock, Fs, h⟩ := h
  obtain ⟨A, c, rfl, l1, l2⟩ := hv.len
  have HV := Lib.hid (And.intro hv hM); clear hv hM
  unfold maxLen at l2
  have c0 : w.cell? ⟨p, 0, none⟩ = some (.map (some bm)) := h.cell0
  have c1 : w.cell? ⟨p, 1, none⟩ = some (.int .i64 (d.room : Int)) := h.cell1
  have c3 : w.cell? ⟨p, 3, none⟩ = some (.bool d.stopped) := h.cell3
  have hp : p < w.heap.size := blk_lt h.top
  have H := Lib.hid h
  unfold Hw.HDisk.append
  by_cases hst : d.stopped = true
  · rw [if_pos hst]
    rw [hst] at c3
    clear h hst
    go_enter Tryd.func10, Tryd.ntmps10
    go_wp2
    go_ret
    exact DiskRet.same ⟨bm, clock, Fs, H.out⟩ 12 (Below.refl _ _)
  · rw [if_neg hst]
    have hst' : d.stopped = false := by simpa using hst
    rw [hst'] at c3
    have hroom := h.wf.room
    have hmost := h.wf.most
    have hwsum : IntKind.i64.wrap ((d.used : Int) + (bs.length : Int)) = (d.used : Int) + (bs.length : Int) := by rw [IntKind.wrap_i64]; omega
    clear hst h hst'
    by_cases hful : d.room < d.used + bs.length
    · rw [if_pos hful]
      have hfu : (d.room : Int) < (d.used : Int) + (bs.length : Int) := by omega
      go_enter Tryd.func10, Tryd.ntmps10
      go_wp2_with fail
      go_region_held3 (fun w' => w'.cell? ⟨p, 1, none⟩ = some (.int .i64 (d.room : Int)) ∧ Below w.heap.size w w')
        (first | exact ⟨c1, (Below.refl _ _).drew⟩ | exact ⟨(‹Below w.heap.size w _›.cell (p := ⟨p, 1, none⟩) hp).trans c1, ‹_›⟩)
        ((go_at_call 13; refine (used_at H.out (And.right ‹_›)).mono ?_; rintro e w1 ⟨rfl, hb1⟩))
      have HB := Lib.hid (And.right ‹_ ∧ Below w.heap.size w _›)
      clear ‹_ ∧ Below w.heap.size w _›
      go_wp2_with fail
      go_ret
      exact DiskRet.same ⟨bm, clock, Fs, H.out⟩ 8 HB.out
    · rw [if_neg hful]
      have hfu : (d.used : Int) + (bs.length : Int) ≤ (d.room : Int) := by omega
      have hroom' : d.used + bs.length ≤ d.room := by omega
      clear hful
      cases hf : d.find n with
      | some f =>
        obtain ⟨x, hx, hxn, hxf, hl⟩ := H.out.find_some hf
        have HX := Lib.hid (And.intro hx (And.intro hxn (And.intro hxf hf)))
        have hlen : f.bytes.length ≤ 262144 := by
          have := Hw.HDisk.len_le d n
          rw [Hw.HDisk.len_some hf] at this; omega
        simp only [Option.getD_some]
        clear hf hx hxn hxf
        have hwb : ∃ b, d.works.stopped = b := ⟨_, rfl⟩
        obtain ⟨b, hwb⟩ := hwb
        have HW := Lib.hid hwb
        rw [hwb]
        cases b
        all_goals
          go_enter Tryd.func10, Tryd.ntmps10
          go_wp2_with fail
          go_region_held3 (fun w' => w'.cell? ⟨p, 1, none⟩ = some (.int .i64 (d.room : Int)) ∧ Below w.heap.size w w')
            (first | exact ⟨c1, (Below.refl _ _).drew⟩ | exact ⟨(‹Below w.heap.size w _›.cell (p := ⟨p, 1, none⟩) hp).trans c1, ‹_›⟩)
            ((go_at_call 13; refine (used_at H.out (And.right ‹_›)).mono ?_; rintro e w1 ⟨rfl, hb1⟩))
          have HB := Lib.hid (And.right ‹_ ∧ Below w.heap.size w _›)
          clear ‹_ ∧ Below w.heap.size w _›
          have H1 := Lib.hid (H.out.upd (G := fun _ => False) (Upd.of_below HB.out) (fun _ _ h => h))
          go_wp2_with (first
            | (go_at_call 32; refine (disk_works p d F bm clock Fs _ H1.out).mono ?_; rintro e w2 ⟨rfl, hd, hu⟩; have k0 := hd.cell0; obtain ⟨A', c', k10, _, _, _⟩ := (hd.each x HX.out.1).cells; rw [HX.out.2.2.1] at k10; have hus2 := (Upd.of_below (F := F) HB.out).trans (H1.out.fpU hu) (fun _ _ h => h); have HD := Lib.hid (And.intro hd (And.intro hus2 (HV.out.1.upd hus2 (M' := M) (fun n h => .inl (HV.out.2 n h)) (fun _ h => .inl h)))); have HK := Lib.hid k10; have HF := Lib.hid (FileAt.slice_at (hd.each x HX.out.1) HX.out.2.2.1 k10); have hfz : w2.frozen? ⟨x.bf, 0, none⟩ = false := (hd.each x HX.out.1).unfrozen 0; clear hd hu hus2)
            | (at_lookup; refine wpLookup rfl _ _ rfl dmap dint dptr HD.out.1.mp rfl rfl ?_)
            | (at_builtin; refine wpAppend _ rfl _ _ 22 rfl 0 5 i0 (.int .u8 0) 1 1 u8slice hi hz0 hz1 hz2 rfl (by decide) _ _ _ rfl HF.out M _ bs.length (u8s bs) rfl HD.out.2.2 ?_ ?_ ?_ ?_ ?_))
          · exact u8s_one _
          · unfold maxLen; omega
          · omega
          · exact Nat.zero_le _
          · intro v1 w3 o1 g1 a1
            obtain ⟨A1, c1, rfl⟩ := own_form o1
            have AP := append_put HD.out.1 HX.out.1 HX.out.2.1 HX.out.2.2.1 HX.out.2.2.2 hroom' HK.out o1 g1 a1
            have hst := store_at HD.out.1 HX.out.1 HK.out g1
            obtain ⟨hst1, hst2⟩ := hst
            have HA := Lib.hid AP
            clear AP o1 g1 a1
            go_wp2_with fail
            go_ret
            obtain ⟨F', q1, q2, q3⟩ := HA.out
            exact append_end _ q1 q2 (fun _ h => .inl h) HD.out.2.1.size HD.out.2.1 q3 rfl
      | none =>
        have hl := H.out.find_none hf
        have HFN := Lib.hid hf
        simp only [Option.getD_none, List.nil_append]
        clear hf
        have hwb : ∃ b, d.works.stopped = b := ⟨_, rfl⟩
        obtain ⟨b, hwb⟩ := hwb
        have HW := Lib.hid hwb
        rw [hwb]
        cases b
        all_goals
          go_enter Tryd.func10, Tryd.ntmps10
          go_wp2_with fail
          go_region_held3 (fun w' => w'.cell? ⟨p, 1, none⟩ = some (.int .i64 (d.room : Int)) ∧ Below w.heap.size w w')
            (first | exact ⟨c1, (Below.refl _ _).drew⟩ | exact ⟨(‹Below w.heap.size w _›.cell (p := ⟨p, 1, none⟩) hp).trans c1, ‹_›⟩)
            ((go_at_call 13; refine (used_at H.out (And.right ‹_›)).mono ?_; rintro e w1 ⟨rfl, hb1⟩))
          have HB := Lib.hid (And.right ‹_ ∧ Below w.heap.size w _›)
          clear ‹_ ∧ Below w.heap.size w _›
          have H1 := Lib.hid (H.out.upd (G := fun _ => False) (Upd.of_below HB.out) (fun _ _ h => h))
          go_wp2_with (first
            | (go_at_call 32; refine (disk_works p d F bm clock Fs _ H1.out).mono ?_; rintro e w2 ⟨rfl, hd, hu⟩; have k0 := hd.cell0; have hpl : p < w2.heap.size := blk_lt hd.top; have hus2 := (Upd.of_below (F := F) HB.out).trans (H1.out.fpU hu) (fun _ _ h => h); have HD := Lib.hid (And.intro hd hus2); clear hd hu hus2)
            | (at_lookup; refine wpLookup rfl _ _ rfl dmap dint dptr HD.out.1.mp rfl rfl ?_)
            | (at_mapUpdate; refine wpUpdate rfl _ _ _ rfl dmap dint (HD.out.1.mp.below' (below_new _ _)) rfl rfl rfl ?_; intro w3 hw3; have hfr := HD.out.1.fresh (n := n) HFN.out hw3.out; have HFR := Lib.hid hfr; obtain ⟨hst1, hst2⟩ := fresh_cells hfr; have hv3 := fresh_src HV.out.1 HV.out.2 HD.out.2 hfr; have HV3 := Lib.hid hv3; clear hfr hv3)
            | (at_builtin; refine wpAppend _ rfl _ _ 22 rfl 0 5 i0 (.int .u8 0) 1 1 u8slice hi hz0 hz1 hz2 rfl (by decide) _ 0 [] rfl (World.ownsRow_nil _ _ _ _) M _ bs.length (u8s bs) rfl HV3.out ?_ ?_ ?_ ?_ ?_))
          · exact u8s_one _
          · unfold maxLen; omega
          · omega
          · exact Nat.zero_le _
          · intro v1 w4 o1 g1 a1
            obtain ⟨A1, c1, rfl⟩ := own_form o1
            have AP := fresh_put HD.out.1 HFN.out HFR.out hroom' o1 g1 a1
            obtain ⟨hst3, hst4⟩ := fresh_store HFR.out g1
            have HA := Lib.hid AP
            clear AP o1 g1 a1 hst1 hst2
            go_wp2_with fail
            go_ret
            obtain ⟨D', bm', c', Fs', F', q1, q2, q3, q4⟩ := HA.out
            exact append_end _ q1 q2 (fun _ h => .inl h) HD.out.2.size HD.out.2 q3 q4
end Go.Proofs.YtihncdlbbhmglaaDoor
