/- Walks: disk: Read, Arm, Stopped, Of. -/
import Derived.Test.YtihncdlbbhmglaaDoorWj
namespace Go.Proofs.YtihncdlbbhmglaaDoor
open Go.RowKit
theorem look_fme (Fs : List FE) (n : Int) : mlook (Fs.map fme) n = (Fs.find? fun x => x.name == n).map fun x => .pointer (some ⟨x.bf, 0, none⟩) := by
  induction Fs with
  | nil => rfl
  | cons x l ih =>
    simp only [List.map_cons, mlook, fme, List.find?_cons]
    by_cases h : x.name = n
    · simp [h]
    · have : (x.name == n) = false := by simp [h]
      rw [this, if_neg h]; exact ih
theorem find_files (Fs : List FE) (n : Int) : (Fs.map fun x => (x.name, x.file)).lookup n = (Fs.find? fun x => x.name == n).map (·.file) := by
  induction Fs with
  | nil => rfl
  | cons x l ih =>
    rw [List.map_cons, Hw.HDisk.lookup_c, List.find?_cons, ih]
    by_cases h : x.name = n
    · simp [h]
    · have : (x.name == n) = false := by simp [h]
      rw [this, if_neg (fun e => h e.symm)]
theorem DiskAt.find_none {w : World} {p : Nat} {d : Hw.HDisk} {F : Nat → Prop} {bm clock : Nat} {Fs : List FE} (h : DiskAt w p d F bm clock Fs) {n : Int} (hf : d.find n = none) : mlook (Fs.map fme) n = none := by
  unfold Hw.HDisk.find at hf
  rw [h.files, find_files] at hf
  rw [look_fme]
  cases e : Fs.find? fun x => x.name == n with
  | none => rfl
  | some x => rw [e] at hf; cases hf
theorem DiskAt.find_some {w : World} {p : Nat} {d : Hw.HDisk} {F : Nat → Prop} {bm clock : Nat} {Fs : List FE} (h : DiskAt w p d F bm clock Fs) {n : Int} {f : Hw.HFile} (hf : d.find n = some f) :
    ∃ x ∈ Fs, x.name = n ∧ x.file = f ∧ mlook (Fs.map fme) n = some (.pointer (some ⟨x.bf, 0, none⟩)) := by
  unfold Hw.HDisk.find at hf
  rw [h.files, find_files] at hf
  rw [look_fme]
  cases e : Fs.find? fun x => x.name == n with
  | none => rw [e] at hf; cases hf
  | some x =>
    rw [e] at hf
    simp only [Option.map_some, Option.some.injEq] at hf
    exact ⟨x, List.mem_of_find?_eq_some e, by have := List.find?_some e; simpa using this, hf, rfl⟩
def ReadRet (r : Option Hw.Bytes) (w : World) (e : Ending) (w' : World) : Prop :=
  Below w.heap.size w w' ∧ match r with
    | none => e = .returned (.tuple #[.slice none 0 0, .bool false])
    | some b => ∃ v', e = .returned (.tuple #[v', .bool true]) ∧ w'.ownsRow w.heap.size 5 1 v' b.length (u8s b)
set_option maxRecDepth 100000 in
set_option maxHeartbeats 400000 in
theorem disk_Read (p : Nat) (d : Hw.HDisk) (F : Nat → Prop) (n : Int) (w : World) (h : IsDisk w p d F) :
    Calls Tryd.prog 31 #[.pointer (some ⟨p, 0, none⟩), .int .i64 n] w (ReadRet (d.read n) w) := by
  obtain ⟨i0, hi, hz0, hz1, hz2⟩ := info_parts u8row
  obtain ⟨bm, clock, Fs, h⟩ := h
  have c0 : w.cell? ⟨p, 0, none⟩ = some (.map (some bm)) := by simp [World.cell?, h.top]
  unfold Hw.HDisk.read
  cases hf : d.find n with
  | none =>
    have hl := h.find_none hf
    have H := Lib.hid h; clear h hf
    go_enter Tryd.func31, Tryd.ntmps31
    go_wp2_with (at_lookup; refine wpLookup rfl _ _ rfl dmap dint dptr H.out.mp rfl rfl ?_)
    go_ret2
    exact ⟨Below.refl _ _, rfl⟩
  | some f =>
    obtain ⟨x, hx, _, hxf, hl⟩ := h.find_some hf
    have hfile := h.each x hx
    rw [hxf] at hfile
    obtain ⟨sv, g1, g2, g3⟩ := hfile
    obtain ⟨A, c, rfl, k1, k2⟩ := RdB.len (RdB.of_own (M := fun _ => False) g3 (fun _ _ h => h))
    have cf : w.cell? ⟨x.bf, 0, none⟩ = some (.slice A f.bytes.length c) := by simp [World.cell?, g1]
    have hlen : f.bytes.length ≤ 262144 := by
      have := Hw.HDisk.len_le d n
      rw [Hw.HDisk.len_some hf] at this
      exact Nat.le_trans this (Nat.le_trans h.wf.room h.wf.most)
    have H := Lib.hid h
    have G := Lib.hid g3
    clear h hf g1 g2 g3 hx hxf
    go_enter Tryd.func31, Tryd.ntmps31
    go_wp2_with (first
      | (at_lookup; refine wpLookup rfl _ _ rfl dmap dint dptr H.out.mp rfl rfl ?_)
      | (at_builtin; refine wpAppend _ rfl _ _ 22 rfl w.heap.size 5 i0 (.int .u8 0) 1 1 u8slice hi hz0 hz1 hz2 rfl (by decide) _ 0 _ rfl (World.ownsRow_nil _ _ _ _) (fun _ => False) _ f.bytes.length (u8s f.bytes) rfl (RdB.of_own G.out (fun _ _ h => h)) ?_ ?_ ?_ ?_ ?_))
    · exact u8s_one _
    · unfold maxLen; omega
    · omega
    · exact Nat.le_refl _
    · intro v1 w1 q1 g1 a1
      have HO := Lib.hid q1
      have HB := Lib.hid ((Below.refl w.heap.size w).grown g1 (Nat.le_refl _) (by intro k hk; cases hk))
      clear q1 g1 a1
      go_wp2_with fail
      go_ret2
      exact ⟨HB.out, _, rfl, by have := HO.out; simpa using this⟩
def OfRet (n : Int) (w : World) (e : Ending) (w' : World) : Prop :=
  ∃ p, e = .returned (.pointer (some ⟨p, 0, none⟩)) ∧ IsDisk w' p (Hw.HDisk.new n) (fun b => b = p ∨ b = w.heap.size) ∧ w.heap.size ≤ p ∧ Below w.heap.size w w'
theorem of_end (n : Int) (w : World) (R : Int) (hR : R = ((Hw.HDisk.new n).room : Int)) :
    OfRet n w (.returned (.pointer (some ⟨w.heap.size + 1, 0, none⟩))) ((w.alloc (.map #[] 0)).alloc (.cells #[.map (some w.heap.size), .int .i64 R, .int .i64 (-1), .bool false] 66)) := by
  have hs : (w.alloc (.map #[] 0)).heap.size = w.heap.size + 1 := by simp
  refine ⟨_, rfl, ⟨w.heap.size, 0, [], ?_, ⟨?_, by simp, by simp⟩, rfl, by simp, by simp, by simp, by simp, by simp [Hw.HDisk.new], by simp [Hw.HDisk.new], Hw.HDisk.WF.new n⟩, by omega, ?_⟩
  · have := heap_alloc_new (w.alloc (.map #[] 0)) (.cells #[.map (some w.heap.size), .int .i64 R, .int .i64 (-1), .bool false] 66)
    rw [hs] at this; rw [this, hR]; rfl
  · rw [Below.heap_alloc _ _ _ (by rw [hs]; omega)]; exact heap_alloc_new w _
  · exact (below_new w _).trans ((below_new _ _).mono (by rw [hs]; omega))
set_option maxRecDepth 100000 in
set_option maxHeartbeats 400000 in
theorem disk_Of (n : Int) (w : World) :
    Calls Tryd.prog 9 #[.int .i64 n] w (OfRet n w) := by
  have hmm := @run_makeMap Tryd.prog
  go_enter Tryd.func9, Tryd.ntmps9
  go_wp2
  all_goals
    go_ret
    refine of_end n w _ ?_
    simp [Hw.HDisk.new]; omega
theorem disk_Arm_at {w : World} {p : Nat} {d : Hw.HDisk} {F : Nat → Prop} {bm clock : Nat} {Fs : List FE} (h : DiskAt w p d F bm clock Fs) (n : Int) (hn : n ≤ 9223372036854775807) (m : Int) (hm : m = max 0 n) :
    DiskAt (w.setCell ⟨p, 2, none⟩ (.int .i64 m)) p (d.arm n) F bm clock Fs := by
  have hu : Upd (fun b => b = p) w (w.setCell ⟨p, 2, none⟩ (.int .i64 m)) := (Upd.refl (fun b => b = p) w).setCell (p := ⟨p, 2, none⟩) (.inl rfl) _
  refine ⟨?_, h.mp.upd hu (fun e => h.ne_map e.symm), h.files, fun x hx => ?_, h.bfs, h.rows, h.fp, ?_, ?_, h.wf.arm n⟩
  · rw [blk_set h.top, hm]; rfl
  · have hx' := h.each x hx
    exact hx'.upd hu (fun e => hx'.ne_cells h.top (by decide) e.symm) (fun b hb e => hx'.row_cells hb h.top (by decide) e.symm)
  · simp [Hw.HDisk.arm]; omega
  · simp [Hw.HDisk.arm]; omega
def ArmRet (p : Nat) (d : Hw.HDisk) (F : Nat → Prop) (w : World) (e : Ending) (w' : World) : Prop := e = .returned (.tuple #[]) ∧ IsDisk w' p d F ∧ Upd F w w'
set_option maxRecDepth 100000 in
set_option maxHeartbeats 400000 in
theorem disk_Arm (p : Nat) (d : Hw.HDisk) (F : Nat → Prop) (n : Int) (w : World) (h : IsDisk w p d F) (hn : n ≤ 9223372036854775807) :
    Calls Tryd.prog 25 #[.pointer (some ⟨p, 0, none⟩), .int .i64 n] w (ArmRet p (d.arm n) F w) := by
  obtain ⟨bm, clock, Fs, h⟩ := h
  have c2 : w.cell? ⟨p, 2, none⟩ = some (.int .i64 d.left) := by simp [World.cell?, h.top]
  have f2 : w.frozen? ⟨p, 2, none⟩ = false := by simp [World.frozen?, h.top]
  have hend := fun m hm => disk_Arm_at h n hn m hm
  have HE := Lib.hid hend
  have hF := (h.fp p).2 (.inl rfl)
  have HF := Lib.hid hF
  have HN := Lib.hid hn
  clear h hend hF hn
  go_enter Tryd.func25, Tryd.ntmps25
  go_wp2
  all_goals
    go_end0
    exact ⟨rfl, ⟨bm, clock, Fs, HE.out _ (by omega)⟩, (Upd.refl F w).setCell (p := ⟨p, 2, none⟩) (.inl HF.out) _⟩
set_option maxRecDepth 100000 in
set_option maxHeartbeats 400000 in
theorem disk_Stopped (p : Nat) (d : Hw.HDisk) (F : Nat → Prop) (w : World) (h : IsDisk w p d F) :
    Calls Tryd.prog 27 #[.pointer (some ⟨p, 0, none⟩)] w fun e w' => e = .returned (.bool d.stopped) ∧ w = w' := by
  obtain ⟨bm, clock, Fs, h⟩ := h
  have c3 : w.cell? ⟨p, 3, none⟩ = some (.bool d.stopped) := by simp [World.cell?, h.top]
  clear h
  go_enter Tryd.func27, Tryd.ntmps27
  go_wp2
  go_ret
  exact ⟨rfl, rfl⟩
end Go.Proofs.YtihncdlbbhmglaaDoor
