/- Walks: disk: Sync, Remove. -/
import Derived.Test.YtihncdlbbhmglaaDoorLe
namespace Go.Proofs.YtihncdlbbhmglaaDoor
open Go.RowKit
theorem DiskRet.same {w : World} {p : Nat} {d : Hw.HDisk} {F : Nat → Prop} (h : IsDisk w p d F) (e : Int) {w' : World} (hu : Below w.heap.size w w') : DiskRet p (e, d) F w (.returned (errV e)) w' :=
  ⟨rfl, F, h.below hu, fun _ h => .inl h, Upd.of_below hu⟩
theorem DiskRet.of {w w' : World} {p : Nat} {d' : Hw.HDisk} {F F' : Nat → Prop} {bm clock : Nat} {Fs : List FE} (e : Int) (h : DiskAt w' p d' F' bm clock Fs) (hF : ∀ b, F' b → F b ∨ w.heap.size ≤ b) (hu : Upd F w w') :
    DiskRet p (e, d') F w (.returned (errV e)) w' := ⟨rfl, F', ⟨bm, clock, Fs, h⟩, hF, hu⟩
theorem DiskAt.fpU {w w' : World} {p : Nat} {d : Hw.HDisk} {F : Nat → Prop} {bm clock : Nat} {Fs : List FE} (h : DiskAt w p d F bm clock Fs) (hu : Upd (fun b => b = p) w w') : Upd F w w' :=
  hu.mono (fun n _ e => (h.fp n).2 (.inl e))
def SyncEnd (p : Nat) (d : Hw.HDisk) (F : Nat → Prop) (n : Int) (f : Hw.HFile) (x : FE) (w : World) (w2 : World) : Prop :=
  DiskRet p (0, d.works.put n ⟨f.bytes, f.bytes.length⟩) F w (.returned .nilIface) w2
theorem sync_end {w w1 : World} {p : Nat} {d : Hw.HDisk} {F : Nat → Prop} {bm clock : Nat} {Fs : List FE} {n : Int} {f : Hw.HFile} {x : FE} (h : DiskAt w p d F bm clock Fs) (h1 : DiskAt w1 p d.works F bm clock Fs) (hu : Upd (fun b => b = p) w w1)
    (hx : x ∈ Fs) (hxn : x.name = n) (hxf : x.file = f) (hf : d.find n = some f) : SyncEnd p d F n f x w (w1.setCell ⟨x.bf, 1, none⟩ (.int .i64 (f.bytes.length : Int))) := by
  obtain ⟨sv, g1, g2, g3⟩ := h1.each x hx
  have hus : Upd (fun b => b = x.bf ∨ x.row = some b) w1 (w1.setCell ⟨x.bf, 1, none⟩ (.int .i64 (f.bytes.length : Int))) :=
    (Upd.refl (fun b => b = x.bf ∨ x.row = some b) w1).setCell (p := ⟨x.bf, 1, none⟩) (.inl (.inl rfl)) _
  have hfile : FileAt (w1.setCell ⟨x.bf, 1, none⟩ (.int .i64 (f.bytes.length : Int))) x.bf x.row ⟨f.bytes, f.bytes.length⟩ := by
    refine ⟨sv, by rw [blk_set g1]; rfl, g2, ?_⟩
    rw [hxf] at g3
    exact own_upd g3 ((Upd.refl (fun b => b = x.bf) w1).setCell (p := ⟨x.bf, 1, none⟩) (.inl rfl) _) (fun k hk e => (h1.each x hx).row_cells (g2.symm.trans hk) g1 (by decide) e.symm)
  have hwf : Hw.HDisk.WF (d.works.put n ⟨f.bytes, f.bytes.length⟩) := by
    refine h1.wf.put _ _ (Nat.le_refl _) ?_
    have := Hw.HDisk.len_some (d := d.works) (n := n) hf
    have := h1.wf.room
    show d.works.used + f.bytes.length ≤ _
    omega
  obtain ⟨F', h2, h3⟩ := h1.put hx hxn hus hfile (.inl rfl) hwf
  refine DiskRet.of (0 : Int) h2 (fun b hb => ?_) ((h.fpU hu).trans hus (fun b _ hb => ?_))
  · rcases h3 b hb with h | h'
    · exact .inl h
    · have := hu.size; exact .inr (by omega)
  · exact (h.fp b).2 (.inr (.inr ⟨x, hx, hb⟩))
set_option maxRecDepth 100000 in
set_option maxHeartbeats 400000 in
theorem disk_Sync (p : Nat) (d : Hw.HDisk) (F : Nat → Prop) (n : Int) (w : World) (h : IsDisk w p d F) :
    Calls Tryd.prog 30 #[.pointer (some ⟨p, 0, none⟩), .int .i64 n] w (DiskRet p (d.sync n) F w) := by
  obtain ⟨bm, clock, Fs, h⟩ := h
  have c0 : w.cell? ⟨p, 0, none⟩ = some (.map (some bm)) := by simp [World.cell?, h.top]
  have c3 : w.cell? ⟨p, 3, none⟩ = some (.bool d.stopped) := by simp [World.cell?, h.top]
  have H := Lib.hid h
  unfold Hw.HDisk.sync
  by_cases hst : d.stopped = true
  · rw [if_pos hst]
    rw [hst] at c3
    clear h hst
    go_enter Tryd.func30, Tryd.ntmps30
    go_wp2_with (at_lookup; refine wpLookup rfl _ _ rfl dmap dint dptr H.out.mp rfl rfl ?_)
    all_goals
      go_ret
      exact DiskRet.same ⟨bm, clock, Fs, H.out⟩ 12 (Below.refl _ _)
  · rw [if_neg hst]
    have hst' : d.stopped = false := by simpa using hst
    rw [hst'] at c3
    clear hst
    cases hf : d.find n with
    | none =>
      have hl := h.find_none hf
      clear h hf hst'
      go_enter Tryd.func30, Tryd.ntmps30
      go_wp2_with (at_lookup; refine wpLookup rfl _ _ rfl dmap dint dptr H.out.mp rfl rfl ?_)
      go_ret
      exact DiskRet.same ⟨bm, clock, Fs, H.out⟩ 2 (Below.refl _ _)
    | some f =>
      obtain ⟨x, hx, hxn, hxf, hl⟩ := h.find_some hf
      have HX := Lib.hid (And.intro hx (And.intro hxn (And.intro hxf hf)))
      simp only
      clear h hf hst' hx hxn hxf
      by_cases hws : d.works.stopped = true
      · rw [if_pos hws]
        go_enter Tryd.func30, Tryd.ntmps30
        go_wp2_with (first
          | (at_lookup; refine wpLookup rfl _ _ rfl dmap dint dptr H.out.mp rfl rfl ?_)
          | (go_at_call 32; refine (disk_works p d F bm clock Fs _ H.out).mono ?_; rintro e w1 ⟨rfl, hd, hu⟩; have HD := Lib.hid (And.intro hd hu); clear hd hu))
        go_ret
        exact DiskRet.of 12 HD.out.1 (fun _ h => .inl h) (H.out.fpU HD.out.2)
      · rw [if_neg hws]
        have hws' : d.works.stopped = false := by simpa using hws
        clear hws
        go_enter Tryd.func30, Tryd.ntmps30
        go_wp2_with (first
          | (at_lookup; refine wpLookup rfl _ _ rfl dmap dint dptr H.out.mp rfl rfl ?_)
          | (go_at_call 32; refine (disk_works p d F bm clock Fs _ H.out).mono ?_; rintro e w1 ⟨rfl, hd, hu⟩; obtain ⟨A, c, k0, k1, k2, k3⟩ := (hd.each x HX.out.1).cells; rw [HX.out.2.2.1] at k0; have k4 : w1.frozen? ⟨x.bf, 1, none⟩ = false := (hd.each x HX.out.1).unfrozen 1; have HD := Lib.hid (And.intro hd hu); clear hd hu))
        go_ret
        exact sync_end H.out HD.out.1 HD.out.2 HX.out.1 HX.out.2.1 HX.out.2.2.1 HX.out.2.2.2
theorem remove_end {w w1 : World} {p : Nat} {d : Hw.HDisk} {F : Nat → Prop} {bm clock : Nat} {Fs : List FE} (h : DiskAt w p d F bm clock Fs) (h1 : DiskAt w1 p d.works F bm clock Fs) (hu : Upd (fun b => b = p) w w1) (n : Int) :
    DiskRet p (0, d.works.del n) F w (.returned .nilIface) (withMap w1 bm (mdel (Fs.map fme) n) clock) := by
  refine DiskRet.of (0 : Int) (h1.del n) (fun b hb => .inl ?_) ((h.fpU hu).trans (withMap_upd w1 bm _ clock) (fun b _ e => (h.fp b).2 (.inr (.inl e))))
  rcases hb with e | e | ⟨z, hz, hb⟩
  · exact (h.fp b).2 (.inl e)
  · exact (h.fp b).2 (.inr (.inl e))
  · exact (h.fp b).2 (.inr (.inr ⟨z, (List.mem_filter.1 hz).1, hb⟩))
set_option maxRecDepth 100000 in
set_option maxHeartbeats 400000 in
theorem disk_Remove (p : Nat) (d : Hw.HDisk) (F : Nat → Prop) (n : Int) (w : World) (h : IsDisk w p d F) :
    Calls Tryd.prog 40 #[.pointer (some ⟨p, 0, none⟩), .int .i64 n] w (DiskRet p (d.remove n) F w) := by
  obtain ⟨bm, clock, Fs, h⟩ := h
  have c0 : w.cell? ⟨p, 0, none⟩ = some (.map (some bm)) := by simp [World.cell?, h.top]
  have c3 : w.cell? ⟨p, 3, none⟩ = some (.bool d.stopped) := by simp [World.cell?, h.top]
  have H := Lib.hid h
  unfold Hw.HDisk.remove
  by_cases hst : d.stopped = true
  · rw [if_pos hst]
    rw [hst] at c3
    clear h hst
    go_enter Tryd.func40, Tryd.ntmps40
    go_wp2_with (at_lookup; refine wpLookup rfl _ _ rfl dmap dint dptr H.out.mp rfl rfl ?_)
    all_goals
      go_ret
      exact DiskRet.same ⟨bm, clock, Fs, H.out⟩ 12 (Below.refl _ _)
  · rw [if_neg hst]
    have hst' : d.stopped = false := by simpa using hst
    rw [hst'] at c3
    clear hst
    cases hf : d.find n with
    | none =>
      have hl := h.find_none hf
      clear h hf hst'
      go_enter Tryd.func40, Tryd.ntmps40
      go_wp2_with (at_lookup; refine wpLookup rfl _ _ rfl dmap dint dptr H.out.mp rfl rfl ?_)
      go_ret
      exact DiskRet.same ⟨bm, clock, Fs, H.out⟩ 2 (Below.refl _ _)
    | some f =>
      obtain ⟨x, _, _, _, hl⟩ := h.find_some hf
      simp only
      clear h hf hst'
      by_cases hws : d.works.stopped = true
      · rw [if_pos hws]
        go_enter Tryd.func40, Tryd.ntmps40
        go_wp2_with (first
          | (at_lookup; refine wpLookup rfl _ _ rfl dmap dint dptr H.out.mp rfl rfl ?_)
          | (go_at_call 32; refine (disk_works p d F bm clock Fs _ H.out).mono ?_; rintro e w1 ⟨rfl, hd, hu⟩; have HD := Lib.hid (And.intro hd hu); clear hd hu))
        go_ret
        exact DiskRet.of 12 HD.out.1 (fun _ h => .inl h) (H.out.fpU HD.out.2)
      · rw [if_neg hws]
        have hws' : d.works.stopped = false := by simpa using hws
        clear hws
        go_enter Tryd.func40, Tryd.ntmps40
        go_wp2_with (first
          | (at_lookup; refine wpLookup rfl _ _ rfl dmap dint dptr H.out.mp rfl rfl ?_)
          | (go_at_call 32; refine (disk_works p d F bm clock Fs _ H.out).mono ?_; rintro e w1 ⟨rfl, hd, hu⟩; have k0 : w1.cell? ⟨p, 0, none⟩ = some (.map (some bm)) := hd.cell0; have HD := Lib.hid (And.intro hd hu); clear hd hu)
          | (at_delete; refine wpDelete rfl _ _ 3 rfl dmap dint HD.out.1.mp rfl rfl hl ?_))
        go_ret
        exact remove_end H.out HD.out.1 HD.out.2 n
end Go.Proofs.YtihncdlbbhmglaaDoor
