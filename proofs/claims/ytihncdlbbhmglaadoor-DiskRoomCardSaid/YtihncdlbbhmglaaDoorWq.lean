/- Walks: disk: Restart. -/
import Derived.Test.YtihncdlbbhmglaaDoorWp
import Derived.ChangeAlike
namespace Go.Proofs.YtihncdlbbhmglaaDoor
open Go.RowKit
structure RestRel (w : World) (bm clock : Nat) (Fs : List FE) (keep : Int) (seen : Array Nat) (wr : World) : Prop where
  iter : IterAt wr w.heap.size bm clock seen
  upd : Upd (fun b => ∃ x ∈ Fs, b = x.bf) w wr
  each : ∀ x ∈ Fs, FileAt wr x.bf x.row (if x.born ∈ seen then Hw.HDisk.keepOf keep x.file else x.file)
theorem rest_start {w : World} {p : Nat} {d : Hw.HDisk} {F : Nat → Prop} {bm clock : Nat} {Fs : List FE} (h : DiskAt w p d F bm clock Fs) (keep : Int) : RestRel w bm clock Fs keep #[] (w.alloc (.mapIter (some bm) clock #[] clock)) :=
  ⟨iter_new _ _ _, Upd.of_below (below_new _ _), fun x hx => by simpa using (h.each x hx).below (below_new _ _)⟩
theorem rest_map {w wr : World} {p : Nat} {d : Hw.HDisk} {F : Nat → Prop} {bm clock : Nat} {Fs : List FE} {keep : Int} {seen : Array Nat} (h : DiskAt w p d F bm clock Fs) (hr : RestRel w bm clock Fs keep seen wr) : MapIs wr bm (Fs.map fme) clock :=
  h.mp.upd hr.upd (by rintro ⟨x, hx, e⟩; exact (h.each x hx).ne_map h.mp.blk e)
theorem keepOf_take (keep : Int) (f : Hw.HFile) (N : Nat) (hN : (N : Int) = f.safe + keep % ((f.bytes.length - f.safe : Nat) + 1 : Int)) : Hw.HDisk.keepOf keep f = ⟨f.bytes.take N, N⟩ := by
  have : N = f.safe + (keep % ((f.bytes.length - f.safe : Nat) + 1 : Int)).toNat := by
    have := Int.emod_nonneg keep (show ((f.bytes.length - f.safe : Nat) + 1 : Int) ≠ 0 by omega); omega
  unfold Hw.HDisk.keepOf; rw [this]
theorem tmod_neg {a m : Int} (hm : 0 < m) (h : a.tmod m < 0) : a % m = a.tmod m + m := by
  have h1 := Int.emod_nonneg a (show m ≠ 0 by omega)
  have h2 := Int.emod_lt_of_pos a hm
  have h3 := Int.tmod_lt_of_pos a hm
  have h4 : a.tmod m % m = a % m := Int.emod_emod_of_dvd a (Int.dvd_refl m) ▸ by rw [Int.tmod_def, Int.sub_emod, Int.mul_comm, Int.mul_emod_left]; simp
  have h5 : -m < a.tmod m := by have := Int.lt_tmod_of_pos a hm; exact this
  rw [← h4, ← Int.add_emod_right]
  exact Int.emod_eq_of_lt (by omega) (by omega)
theorem tmod_pos {a m : Int} (hm : 0 < m) (h : 0 ≤ a.tmod m) : a % m = a.tmod m := by
  have h3 := Int.tmod_lt_of_pos a hm
  have h4 : a.tmod m % m = a % m := by rw [Int.tmod_def, Int.sub_emod, Int.mul_comm, Int.mul_emod_left]; simp
  rw [← h4]; exact Int.emod_eq_of_lt h h3
theorem DiskAt.file_le {w : World} {p : Nat} {d : Hw.HDisk} {F : Nat → Prop} {bm clock : Nat} {Fs : List FE} (h : DiskAt w p d F bm clock Fs) {x : FE} (hx : x ∈ Fs) : x.file.safe ≤ x.file.bytes.length ∧ x.file.bytes.length ≤ 262144 := by
  have hf : d.find x.name = some x.file := by
    unfold Hw.HDisk.find
    rw [h.files, find_files]
    cases e : Fs.find? fun y => y.name == x.name with
    | none => have := List.find?_eq_none.1 e x hx; simp at this
    | some y =>
      have h1 := List.mem_of_find?_eq_some e
      have h2 : y.name = x.name := by have := List.find?_some e; simpa using this
      rw [inj_of_nodup _ h.names h1 hx h2]; rfl
  refine ⟨h.wf.safe _ _ hf, ?_⟩
  have := Hw.HDisk.len_le d x.name
  rw [Hw.HDisk.len_some hf] at this
  exact Nat.le_trans this (Nat.le_trans h.wf.room h.wf.most)
theorem rest_top {w wr : World} {p : Nat} {d : Hw.HDisk} {F : Nat → Prop} {bm clock : Nat} {Fs : List FE} {keep : Int} {seen : Array Nat} (h : DiskAt w p d F bm clock Fs) (hr : RestRel w bm clock Fs keep seen wr) :
    wr.cell? ⟨p, 2, none⟩ = some (.int .i64 d.left) ∧ wr.cell? ⟨p, 3, none⟩ = some (.bool d.stopped) ∧ wr.frozen? ⟨p, 2, none⟩ = false ∧ wr.frozen? ⟨p, 3, none⟩ = false := by
  have ht : wr.heap[p]? = _ := (hr.upd.block p (blk_lt h.top) (by rintro ⟨x, hx, e⟩; exact (h.each x hx).ne_cells h.top (by decide) e)).trans h.top
  refine ⟨?_, ?_, ?_, ?_⟩ <;> simp [World.cell?, World.frozen?, ht]
theorem rest_end {w wr : World} {p : Nat} {d : Hw.HDisk} {F : Nat → Prop} {bm clock : Nat} {Fs : List FE} {keep : Int} {seen : Array Nat} (h : DiskAt w p d F bm clock Fs) (hr : RestRel w bm clock Fs keep seen wr) (hall : AllSeen (Fs.map fme) seen) :
    ArmRet p (d.restart keep) F w (.returned (.tuple #[])) ((wr.setCell ⟨p, 3, none⟩ (.bool false)).setCell ⟨p, 2, none⟩ (.int .i64 (-1))) := by
  have ht : wr.heap[p]? = _ := (hr.upd.block p (blk_lt h.top) (by rintro ⟨x, hx, e⟩; exact (h.each x hx).ne_cells h.top (by decide) e)).trans h.top
  have hup : Upd (fun b => b = p) wr ((wr.setCell ⟨p, 3, none⟩ (.bool false)).setCell ⟨p, 2, none⟩ (.int .i64 (-1))) :=
    ((Upd.refl (fun b => b = p) wr).setCell (p := ⟨p, 3, none⟩) (.inl rfl) _).setCell (p := ⟨p, 2, none⟩) (.inl rfl) _
  have hF : Upd F w ((wr.setCell ⟨p, 3, none⟩ (.bool false)).setCell ⟨p, 2, none⟩ (.int .i64 (-1))) :=
    (hr.upd.mono (fun b _ ⟨x, hx, e⟩ => (h.fp b).2 (.inr (.inr ⟨x, hx, .inl e⟩)))).trans hup (fun b _ e => (h.fp b).2 (.inl e))
  refine ⟨rfl, ⟨bm, clock, Fs.map fun x => { x with file := Hw.HDisk.keepOf keep x.file }, ⟨?_, ?_, ?_, ?_, ?_, ?_, ?_, by simp [Hw.HDisk.restart], by simp [Hw.HDisk.restart], h.wf.restart keep⟩⟩, hF⟩
  · rw [blk_set (blk_set ht 3 _)]; rfl
  · have := (rest_map h hr).upd hup (fun e => h.ne_map e.symm)
    rwa [List.map_map]
  · show d.files.map _ = _
    rw [h.files, List.map_map, List.map_map]; rfl
  · intro z hz
    obtain ⟨x, hx, rfl⟩ := List.mem_map.1 hz
    have hx' := hr.each x hx
    have hxs : x.born ∈ seen := hall.out (fme x) (List.mem_map.2 ⟨x, hx, rfl⟩)
    rw [if_pos hxs] at hx'
    exact hx'.upd hup (fun e => hx'.ne_cells ht (by decide) e.symm) (fun b hb e => hx'.row_cells hb ht (by decide) e.symm)
  · rw [List.map_map]; exact h.bfs
  · rw [List.filterMap_map]; exact h.rows
  · intro b
    rw [h.fp b]
    constructor
    · rintro (e | e | ⟨x, hx, e⟩)
      · exact .inl e
      · exact .inr (.inl e)
      · exact .inr (.inr ⟨_, List.mem_map.2 ⟨x, hx, rfl⟩, e⟩)
    · rintro (e | e | ⟨z, hz, e⟩)
      · exact .inl e
      · exact .inr (.inl e)
      · obtain ⟨x, hx, rfl⟩ := List.mem_map.1 hz
        exact .inr (.inr ⟨x, hx, e⟩)
/-- The round's first half: the step. -/
theorem rest_step {w wr w1 : World} {p : Nat} {d : Hw.HDisk} {F : Nat → Prop} {bm clock : Nat} {Fs : List FE} {keep : Int} {seen : Array Nat} {y : FE} (h : DiskAt w p d F bm clock Fs) (hr : RestRel w bm clock Fs keep seen wr) (hy : y ∈ Fs) (h1 : w1 = wr ∨ w1 = wr.drew) (hs : (fme y).born ∉ seen) :
    IterAt (withIter w1 w.heap.size bm clock (seen.push (fme y).born)) w.heap.size bm clock (seen.push (fme y).born) ∧ MapIs (withIter w1 w.heap.size bm clock (seen.push (fme y).born)) bm (Fs.map fme) clock ∧
    FileAt (withIter w1 w.heap.size bm clock (seen.push (fme y).born)) y.bf y.row y.file ∧ (y.born ∉ seen ∧ (w1 = wr ∨ w1 = wr.drew)) ∧ leftN (Fs.map fme) (seen.push (fme y).born) < wr.rangeLeft bm w.heap.size := by
  have hi1 : IterAt w1 w.heap.size bm clock seen := by rcases h1 with rfl | rfl; exact hr.iter; exact hr.iter
  have hu := own_comes h1 w.heap.size bm clock (seen.push (fme y).born)
  have hfy := hr.each y hy
  have hs' : y.born ∉ seen := hs
  rw [if_neg hs'] at hfy
  have hlt : ∀ {b}, F b → b < w.heap.size := fun hb => h.lt hb
  refine ⟨withIter_at hi1 _, (rest_map h hr).upd hu (fun e => ?_), hfy.upd hu (fun e => ?_) (fun b hb e => ?_), ⟨hs, h1⟩, ?_⟩
  · have := hlt ((h.fp bm).2 (.inr (.inl rfl))); omega
  · have := hlt ((h.fp y.bf).2 (.inr (.inr ⟨y, hy, .inl rfl⟩))); omega
  · have := hlt ((h.fp b).2 (.inr (.inr ⟨y, hy, .inr hb⟩))); omega
  · rw [rangeLeft_eq (rest_map h hr) hr.iter]; exact leftN_push hs (List.mem_map.2 ⟨y, hy, rfl⟩)
theorem keepN_neg {keep K : Int} {len safe N : Nat} (hK : keep.tmod ((len : Int) - (safe : Int) + 1) = K) (hneg : K < 0) (hN : (safe : Int) + (K + ((len : Int) - (safe : Int) + 1)) = (N : Int)) (hs : safe ≤ len) :
    (N : Int) = safe + keep % ((len - safe : Nat) + 1 : Int) := by
  have e : ((len - safe : Nat) + 1 : Int) = (len : Int) - (safe : Int) + 1 := by omega
  rw [e, tmod_neg (by omega) (by rw [hK]; exact hneg), hK]; omega
theorem keepN_pos {keep K : Int} {len safe N : Nat} (hK : keep.tmod ((len : Int) - (safe : Int) + 1) = K) (hneg : ¬ K < 0) (hN : (safe : Int) + K = (N : Int)) (hs : safe ≤ len) :
    (N : Int) = safe + keep % ((len - safe : Nat) + 1 : Int) := by
  have e : ((len - safe : Nat) + 1 : Int) = (len : Int) - (safe : Int) + 1 := by omega
  rw [e, tmod_pos (by omega) (by rw [hK]; omega), hK]; omega
def restW (w w1 : World) (bm clock : Nat) (seen : Array Nat) (y : FE) (m N c : Nat) (A : Option Addr) : World :=
  ((((withIter w1 w.heap.size bm clock (seen.push y.born)).drewN m).setCell ⟨y.bf, 0, none⟩ (.slice A N c)).setCell ⟨y.bf, 1, none⟩ (.int .i64 (N : Int)))
theorem rest_next {w wr w1 : World} {p : Nat} {d : Hw.HDisk} {F : Nat → Prop} {bm clock : Nat} {Fs : List FE} {keep : Int} {seen : Array Nat} {y : FE} {f : Hw.HFile} {m N c n0 : Nat} {A : Option Addr} (h : DiskAt w p d F bm clock Fs) (hr : RestRel w bm clock Fs keep seen wr) (hy : y ∈ Fs) (hf : y.file = f)
    (hst : IterAt (withIter w1 w.heap.size bm clock (seen.push y.born)) w.heap.size bm clock (seen.push y.born) ∧ MapIs (withIter w1 w.heap.size bm clock (seen.push y.born)) bm (Fs.map fme) clock ∧
      FileAt (withIter w1 w.heap.size bm clock (seen.push y.born)) y.bf y.row f ∧ (y.born ∉ seen ∧ (w1 = wr ∨ w1 = wr.drew)) ∧ n0 < wr.rangeLeft bm w.heap.size)
    (k0 : (withIter w1 w.heap.size bm clock (seen.push y.born)).cell? ⟨y.bf, 0, none⟩ = some (.slice A f.bytes.length c)) (hN : (N : Int) = f.safe + keep % ((f.bytes.length - f.safe : Nat) + 1 : Int)) (hNl : N ≤ f.bytes.length) :
    RestRel w bm clock Fs keep (seen.push y.born) (restW w w1 bm clock seen y m N c A) := by
  subst hf
  obtain ⟨h1, h2, h3, ⟨h4, h4'⟩, h5⟩ := hst
  have hu0 : Upd (fun b => b = w.heap.size) wr (withIter w1 w.heap.size bm clock (seen.push y.born)) := own_comes h4' w.heap.size bm clock _
  have hud := hu0.drewN m
  have hu1 : Upd (fun b => b = y.bf) ((withIter w1 w.heap.size bm clock (seen.push y.born)).drewN m) (restW w w1 bm clock seen y m N c A) :=
    ((Upd.refl (fun b => b = y.bf) _).setCell (p := ⟨y.bf, 0, none⟩) (.inl rfl) _).setCell (p := ⟨y.bf, 1, none⟩) (.inl rfl) _
  have hlt : ∀ {b}, F b → b < w.heap.size := fun hb => h.lt hb
  have hyb : y.bf < w.heap.size := hlt ((h.fp y.bf).2 (.inr (.inr ⟨y, hy, .inl rfl⟩)))
  have hbd := bel_drewN (Below.refl (withIter w1 w.heap.size bm clock (seen.push y.born)).heap.size (withIter w1 w.heap.size bm clock (seen.push y.born))) m
  have hu2 : Upd (fun b => b = w.heap.size ∨ b = y.bf) wr (restW w w1 bm clock seen y m N c A) := (hud.mono (fun _ _ e => .inl e)).trans hu1 (fun _ _ e => .inr e)
  have hb' : (Fs.map (·.born)).Nodup := by have := h.mp.borns; rwa [born_fme] at this
  refine ⟨?_, ?_, fun x hx => ?_⟩
  · have : (restW w w1 bm clock seen y m N c A).heap[w.heap.size]? = (withIter w1 w.heap.size bm clock (seen.push y.born)).heap[w.heap.size]? := hu1.block _ (blk_lt h1) (by omega)
    exact this.trans h1
  · refine hr.upd.trans hu2 (fun b hb => ?_)
    rintro (e | e)
    · omega
    · exact ⟨y, hy, e⟩
  · by_cases e : x.born = y.born
    · have hxy : x = y := inj_of_nodup _ hb' hx hy e
      subst hxy
      rw [if_pos (by simp), keepOf_take keep x.file N hN]
      exact cut_file (h3.below hbd) k0 hNl
    · have hne : x.bf ≠ y.bf := fun e2 => e (by rw [inj_of_nodup _ h.bfs hx hy e2])
      have h6 := (hr.each x hx).upd hu2 (by
        have := hlt ((h.fp x.bf).2 (.inr (.inr ⟨x, hx, .inl rfl⟩)))
        rintro (e | e)
        · omega
        · exact hne e) (fun b hb => by
        have := hlt ((h.fp b).2 (.inr (.inr ⟨x, hx, .inr hb⟩)))
        rintro (e | e)
        · omega
        · obtain ⟨sv, g1, _⟩ := h.each y hy
          exact (h.each x hx).row_cells hb g1 (by decide) e.symm)
      simpa [e] using h6
theorem rest_less {w wr w1 : World} {p : Nat} {d : Hw.HDisk} {F : Nat → Prop} {bm clock : Nat} {Fs : List FE} {keep : Int} {seen : Array Nat} {y : FE} {f : Hw.HFile} {m N c n0 : Nat} {A : Option Addr} (h : DiskAt w p d F bm clock Fs) (hr : RestRel w bm clock Fs keep seen wr) (hy : y ∈ Fs) (hf : y.file = f)
    (hst : IterAt (withIter w1 w.heap.size bm clock (seen.push y.born)) w.heap.size bm clock (seen.push y.born) ∧ MapIs (withIter w1 w.heap.size bm clock (seen.push y.born)) bm (Fs.map fme) clock ∧
      FileAt (withIter w1 w.heap.size bm clock (seen.push y.born)) y.bf y.row f ∧ (y.born ∉ seen ∧ (w1 = wr ∨ w1 = wr.drew)) ∧ n0 < wr.rangeLeft bm w.heap.size)
    (k0 : (withIter w1 w.heap.size bm clock (seen.push y.born)).cell? ⟨y.bf, 0, none⟩ = some (.slice A f.bytes.length c)) (hN : (N : Int) = f.safe + keep % ((f.bytes.length - f.safe : Nat) + 1 : Int)) (hNl : N ≤ f.bytes.length)
    (hlt : leftN (Fs.map fme) (seen.push y.born) < wr.rangeLeft bm w.heap.size) : (restW w w1 bm clock seen y m N c A).rangeLeft bm w.heap.size < wr.rangeLeft bm w.heap.size := by
  have hn := rest_next (m := m) h hr hy hf hst k0 hN hNl
  rw [rangeLeft_eq (rest_map h hn) hn.iter]; exact hlt
set_option maxRecDepth 100000 in
set_option maxHeartbeats 1000000 in
theorem disk_Restart (p : Nat) (d : Hw.HDisk) (F : Nat → Prop) (keep : Int) (w : World) (h : IsDisk w p d F) :
    Calls Tryd.prog 28 #[.pointer (some ⟨p, 0, none⟩), .int .i64 keep] w (ArmRet p (d.restart keep) F w) := by
  obtain ⟨bm, clock, Fs, h⟩ := h
  have c0 : w.cell? ⟨p, 0, none⟩ = some (.map (some bm)) := h.cell0
  have H := Lib.hid h; clear h
  go_enter Tryd.func28, Tryd.ntmps28
  go_wp2_with (at_range; refine wpRange rfl _ rfl dmap H.out.mp rfl ?_)
  go_frame
  go_loopw [5] (fun _ wr => ∃ seen, RestRel w bm clock Fs keep seen wr) (fun _ wr => wr.rangeLeft bm w.heap.size)
  case atStart => exact ⟨#[], rest_start H.out keep⟩
  case round =>
    obtain ⟨seen, hr⟩ := hrel
    have HM := Lib.hid (rest_map H.out hr)
    have HR := Lib.hid hr; clear hr
    go_wp2_with (at_next; refine wpNext rfl _ rfl HM.out HR.out.iter rfl ?_ ?_)
    · intro hall
      have k0 := rest_top H.out HR.out
      obtain ⟨k2, k3, f2, f3⟩ := k0
      have HA := Lib.hid hall; clear hall
      go_wp2_with fail
      go_end0
      exact rest_end H.out HR.out HA.out
    · intro x w1 hcome
      obtain ⟨h1, hx, hs⟩ := hcome
      obtain ⟨y, hy, rfl⟩ := List.mem_map.1 hx
      have hstep := rest_step H.out HR.out hy h1 hs
      have hen := run_entry_map (P := Tryd.prog) hstep.2.1 hx hstep.1
      obtain ⟨A, c, k0, k1, k2, k3⟩ := hstep.2.2.1.cells
      have f0 := hstep.2.2.1.unfrozen 0
      have f1 := hstep.2.2.1.unfrozen 1
      have hlt := hstep.2.2.2.2
      have HLT := Lib.hid hlt
      have HST := Lib.hid hstep
      have hsl := H.out.file_le hy
      clear hstep hlt hs h1 hx
      simp only [fme] at *
      generalize hf : y.file = f at *
      have hsl1 := hsl.1
      have hsl2 := hsl.2
      unfold maxLen at k3
      have e1 : IntKind.i64.wrap ((f.bytes.length : Int) - (f.safe : Int)) = (f.bytes.length : Int) - (f.safe : Int) := by rw [IntKind.wrap_i64]; omega
      have HF := Lib.hid hf; clear hf
      obtain ⟨K, hK⟩ : ∃ K, keep.tmod ((f.bytes.length : Int) - (f.safe : Int) + 1) = K := ⟨_, rfl⟩
      have b1 := Int.lt_tmod_of_pos keep (show 0 < (f.bytes.length : Int) - (f.safe : Int) + 1 by omega)
      have b2 := Int.tmod_lt_of_pos keep (show 0 < (f.bytes.length : Int) - (f.safe : Int) + 1 by omega)
      rw [hK] at b1 b2
      have HK := Lib.hid hK
      by_cases hneg : K < 0
      · obtain ⟨N, hN⟩ := Int.eq_ofNat_of_zero_le (show 0 ≤ (f.safe : Int) + (K + ((f.bytes.length : Int) - (f.safe : Int) + 1)) by omega)
        have eN : IntKind.i64.wrap ((f.safe : Int) + (K + ((f.bytes.length : Int) - (f.safe : Int) + 1))) = (N : Int) := by rw [IntKind.wrap_i64]; omega
        have hNl : N ≤ f.bytes.length := by omega
        have HN := Lib.hid hN; clear hN
        go_wp2_with fail
        go_quiet (fail)
        go_wp2_with fail
        go_region
        go_wp2_with fail
        go_roundw
        case rel => exact ⟨_, rest_next H.out HR.out hy HF.out HST.out k0 (keepN_neg HK.out hneg HN.out hsl1) hNl⟩
        case measure => exact rest_less H.out HR.out hy HF.out HST.out k0 (keepN_neg HK.out hneg HN.out hsl1) hNl HLT.out
      · obtain ⟨N, hN⟩ := Int.eq_ofNat_of_zero_le (show 0 ≤ (f.safe : Int) + K by omega)
        have eN : IntKind.i64.wrap ((f.safe : Int) + K) = (N : Int) := by rw [IntKind.wrap_i64]; omega
        have hNl : N ≤ f.bytes.length := by omega
        have HN := Lib.hid hN; clear hN
        go_wp2_with fail
        go_quiet (fail)
        go_wp2_with fail
        go_region
        go_wp2_with fail
        go_roundw
        case rel => exact ⟨_, rest_next H.out HR.out hy HF.out HST.out k0 (keepN_pos HK.out (by omega) HN.out hsl1) hNl⟩
        case measure => exact rest_less H.out HR.out hy HF.out HST.out k0 (keepN_pos HK.out (by omega) HN.out hsl1) hNl HLT.out
end Go.Proofs.YtihncdlbbhmglaaDoor
