/- Walks: disk: Of, works, Used. -/
import Derived.Test.YtihncdlbbhmglaaDoorLc
namespace Go.Proofs.YtihncdlbbhmglaaDoor
open Go.RowKit
theorem dmap : Tryd.prog.underlying 64 = some (.map 3 67) := by kernel_rfl
theorem dint : Tryd.prog.underlying 3 = some (.int .i64) := by kernel_rfl
theorem dptr (w : World) : (zeroValue 67).run Tryd.prog w = .ok (.pointer none) w := by kernel_rfl
def WorksRet (p : Nat) (d : Hw.HDisk) (F : Nat → Prop) (bm clock : Nat) (Fs : List FE) (w : World) (e : Ending) (w' : World) : Prop :=
  e = .returned (.bool (!d.works.stopped)) ∧ DiskAt w' p d.works F bm clock Fs ∧ Upd (fun b => b = p) w w'
theorem works_end {w w' : World} {p : Nat} {d : Hw.HDisk} {F : Nat → Prop} {bm clock : Nat} {Fs : List FE} (h : DiskAt w p d F bm clock Fs) (hu : Upd (fun b => b = p) w w')
    (ht : w'.heap[p]? = some (.cells #[.map (some bm), .int .i64 (d.room : Int), .int .i64 d.works.left, .bool d.works.stopped] 66 (0, 0))) : DiskAt w' p d.works F bm clock Fs := by
  refine ⟨ht, h.mp.upd hu (fun e => h.ne_map e.symm), h.files, fun x hx => ?_, h.bfs, h.rows, h.fp, ?_, ?_, h.wf.works⟩
  · have hx' := h.each x hx
    exact hx'.upd hu (fun e => hx'.ne_cells h.top (by decide) e.symm) (fun b hb e => hx'.row_cells hb h.top (by decide) e.symm)
  · have := h.left0; unfold Hw.HDisk.works; simp only; split <;> omega
  · have := h.left1; unfold Hw.HDisk.works; simp only; split <;> omega
set_option maxRecDepth 100000 in
set_option maxHeartbeats 400000 in
theorem disk_works (p : Nat) (d : Hw.HDisk) (F : Nat → Prop) (bm clock : Nat) (Fs : List FE) (w : World) (h : DiskAt w p d F bm clock Fs) :
    Calls Tryd.prog 32 #[.pointer (some ⟨p, 0, none⟩)] w (WorksRet p d F bm clock Fs w) := by
  have c2 : w.cell? ⟨p, 2, none⟩ = some (.int .i64 d.left) := by simp [World.cell?, h.top]
  have c3 : w.cell? ⟨p, 3, none⟩ = some (.bool d.stopped) := by simp [World.cell?, h.top]
  have f2 : w.frozen? ⟨p, 2, none⟩ = false := by simp [World.frozen?, h.top]
  have f3 : w.frozen? ⟨p, 3, none⟩ = false := by simp [World.frozen?, h.top]
  have l0 := h.left0
  have l1 := h.left1
  have H := Lib.hid h; clear h
  go_enter Tryd.func32, Tryd.ntmps32
  go_wp2
  · exfalso; have h1 : (d.left == 0) = true := by assumption
    have h2 : 0 < d.left := by assumption
    simp at h1; omega
  · have h1 : (d.left == 0) = true := by assumption
    have HZ := Lib.hid h1; clear h1
    go_ret
    have h1 : d.left = 0 := by have := HZ.out; simpa using this
    have hw : d.works.stopped = true := by simp [Hw.HDisk.works, h1]
    have hl : d.works.left = d.left := by simp [Hw.HDisk.works, h1]
    have hu : Upd (fun b => b = p) w (w.setCell ⟨p, 3, none⟩ (.bool true)) := (Upd.refl (fun b => b = p) w).setCell (p := ⟨p, 3, none⟩) (.inl rfl) _
    refine ⟨by rw [hw]; rfl, works_end H.out hu ?_, hu⟩
    rw [blk_set H.out.top, hw, hl]; rfl
  · have h1 : (d.left == 0) = false := by assumption
    have h2 : 0 < d.left := by assumption
    have HZ := Lib.hid h1; clear h1
    go_ret
    have hw : d.works.stopped = d.stopped := by simp only [Hw.HDisk.works]; rw [HZ.out]; simp
    have hl : d.works.left = d.left - 1 := by simp [Hw.HDisk.works, h2]
    have hu : Upd (fun b => b = p) w (w.setCell ⟨p, 2, none⟩ (.int .i64 (d.left - 1))) := (Upd.refl (fun b => b = p) w).setCell (p := ⟨p, 2, none⟩) (.inl rfl) _
    refine ⟨by rw [hw]; rfl, works_end H.out hu ?_, hu⟩
    rw [blk_set H.out.top, hw, hl]; rfl
  · have h1 : (d.left == 0) = false := by assumption
    have h2 : d.left ≤ 0 := by assumption
    have HZ := Lib.hid h1; clear h1
    go_ret
    have hw : d.works.stopped = d.stopped := by simp only [Hw.HDisk.works]; rw [HZ.out]; simp
    have hl : d.works.left = d.left := by simp only [Hw.HDisk.works]; rw [if_neg (by omega)]
    refine ⟨by rw [hw]; rfl, works_end H.out (Upd.refl _ _) ?_, Upd.refl _ _⟩
    rw [hw, hl]; exact H.out.top

theorem FileAt.below {w w' : World} {bf : Nat} {row : Option Nat} {f : Hw.HFile} (h : FileAt w bf row f) (hu : Below w.heap.size w w') : FileAt w' bf row f :=
  h.upd (G := fun _ => False) (Upd.of_below hu) (fun h => h) (fun _ _ h => h)
theorem MapIs.below' {w w' : World} {bm clock : Nat} {l : List ME} (h : MapIs w bm l clock) (hu : Below w.heap.size w w') : MapIs w' bm l clock :=
  h.upd (G := fun _ => False) (Upd.of_below hu) (fun h => h)
/-- What a file's block holds. -/
theorem FileAt.cells {w : World} {bf : Nat} {row : Option Nat} {f : Hw.HFile} (h : FileAt w bf row f) : ∃ A c, w.cell? ⟨bf, 0, none⟩ = some (.slice A f.bytes.length c) ∧ w.cell? ⟨bf, 1, none⟩ = some (.int .i64 (f.safe : Int)) ∧ f.bytes.length ≤ c ∧ c ≤ maxLen := by
  obtain ⟨sv, g1, g2, g3⟩ := h
  obtain ⟨A, c, rfl, h1, h2⟩ := RdB.len (RdB.of_own (M := fun _ => False) g3 (fun _ _ h => h))
  exact ⟨A, c, by simp [World.cell?, g1], by simp [World.cell?, g1], h1, h2⟩
theorem FileAt.unfrozen {w : World} {bf : Nat} {row : Option Nat} {f : Hw.HFile} (h : FileAt w bf row f) (i : Nat) : w.frozen? ⟨bf, i, none⟩ = false := by
  obtain ⟨sv, g1, _⟩ := h; simp [World.frozen?, g1]
def flen (x : FE) : Nat := x.file.bytes.length
theorem used_flen {d : Hw.HDisk} {Fs : List FE} (h : d.files = Fs.map fun x => (x.name, x.file)) : (Fs.map flen).sum = d.used := by
  unfold Hw.HDisk.used; rw [h, List.map_map]; rfl
theorem born_fme (Fs : List FE) : (Fs.map fme).map (·.born) = Fs.map (·.born) := by simp [List.map_map, Function.comp_def, fme]
def UsedRel (w : World) (bm clock : Nat) (Fs : List FE) (t3 : Value) (wr : World) : Prop :=
  ∃ seen, IterAt wr w.heap.size bm clock seen ∧ t3 = .int .i64 (wsum flen Fs seen : Nat) ∧ Below w.heap.size w wr
/-- Behind the step the relation of the iterator stands. -/
theorem iter_step {w wr w1 : World} {bm clock : Nat} {seen : Array Nat} (hi : IterAt wr w.heap.size bm clock seen) (hb : Below w.heap.size w wr) (h1 : w1 = wr ∨ w1 = wr.drew) (s' : Array Nat) :
    IterAt (withIter w1 w.heap.size bm clock s') w.heap.size bm clock s' ∧ Below w.heap.size w (withIter w1 w.heap.size bm clock s') := by
  have hb1 : Below w.heap.size w w1 := by rcases h1 with rfl | rfl; exact hb; exact hb.drew
  have hi1 : IterAt w1 w.heap.size bm clock seen := by rcases h1 with rfl | rfl; exact hi; exact hi
  refine ⟨withIter_at hi1 s', hb1.trans ?_⟩
  exact (withIter_upd w1 w.heap.size bm clock s').below (by have := hb1.size; omega) (fun n e => by omega)
set_option maxRecDepth 100000 in
set_option maxHeartbeats 400000 in
theorem disk_Used (p : Nat) (d : Hw.HDisk) (F : Nat → Prop) (bm clock : Nat) (Fs : List FE) (w : World) (h : DiskAt w p d F bm clock Fs) :
    Calls Tryd.prog 13 #[.pointer (some ⟨p, 0, none⟩)] w fun e w' => e = .returned (.int .i64 (d.used : Nat)) ∧ Below w.heap.size w w' := by
  have c0 : w.cell? ⟨p, 0, none⟩ = some (.map (some bm)) := by simp [World.cell?, h.top]
  have hbn : (Fs.map (·.born)).Nodup := by have := h.mp.borns; rwa [born_fme] at this
  have hus : ∀ seen, wsum flen Fs seen ≤ 262144 := fun seen => Nat.le_trans (wsum_le flen Fs seen) (by rw [used_flen h.files]; exact Nat.le_trans h.wf.room h.wf.most)
  have H := Lib.hid h; clear h
  have HB := Lib.hid hbn; clear hbn
  have HU := Lib.hid hus; clear hus
  go_enter Tryd.func13, Tryd.ntmps13
  go_wp2_with (at_range; refine wpRange rfl _ rfl dmap H.out.mp rfl ?_)
  go_frame
  go_loopw [3] (fun t3 wr => UsedRel w bm clock Fs t3 wr) (fun _ wr => wr.rangeLeft bm w.heap.size)
  case atStart => exact ⟨#[], iter_new _ _ _, by rw [wsum_empty]; rfl, below_new _ _⟩
  case round =>
    obtain ⟨seen, hi, rfl, hb⟩ := hrel
    have HM := Lib.hid (H.out.mp.below' hb)
    have HI := Lib.hid (And.intro hi hb); clear hi hb
    go_wp2_with (at_next; refine wpNext rfl _ rfl HM.out HI.out.1 rfl ?_ ?_)
    · intro hall
      have hsum : wsum flen Fs seen = d.used := by
        rw [← used_flen H.out.files]
        exact wsum_all fun x hx => hall.out (fme x) (List.mem_map.2 ⟨x, hx, rfl⟩)
      have HS := Lib.hid hsum; clear hsum hall
      go_wp2_with fail
      go_ret
      exact ⟨by rw [← HS.out]; rfl, HI.out.2⟩
    · intro x w1 hcome
      obtain ⟨h1, hx, hs⟩ := hcome
      obtain ⟨y, hy, rfl⟩ := List.mem_map.1 hx
      obtain ⟨hi2, hb2⟩ := iter_step HI.out.1 HI.out.2 h1 (seen.push (fme y).born)
      have hlt := leftN_push hs hx
      have hm2 := H.out.mp.below' hb2
      rw [← rangeLeft_eq HM.out HI.out.1, ← rangeLeft_eq hm2 hi2] at hlt
      have hen := run_entry_map (P := Tryd.prog) hm2 hx hi2
      obtain ⟨A, c, k0, _, _, _⟩ := ((H.out.each y hy).below hb2).cells
      have hsum := wsum_push (g := flen) HB.out hy hs
      have hle := HU.out (seen.push y.born)
      have hle0 := HU.out seen
      have HF := Lib.hid (And.intro hi2 hb2)
      clear hi2 hb2 hm2 hs h1 hx
      change _ < _ at hlt
      have HLT := Lib.hid hlt; clear hlt
      have hsum' : ((wsum flen Fs seen : Nat) : Int) + (y.file.bytes.length : Int) = ((wsum flen Fs (seen.push y.born) : Nat) : Int) := by rw [hsum]; simp [flen]
      have HS := Lib.hid hsum'; clear hsum'
      rw [hsum] at hle
      unfold flen at hle
      clear hsum
      simp only [fme] at *
      generalize wsum _ Fs seen = s0 at *
      go_wp2_with fail
      go_roundw
      case rel => exact ⟨_, HF.out.1, by rw [← HS.out], HF.out.2⟩
      case measure => exact HLT.out
end Go.Proofs.YtihncdlbbhmglaaDoor
