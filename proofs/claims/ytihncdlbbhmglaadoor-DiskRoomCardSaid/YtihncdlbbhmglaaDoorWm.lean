/- Walks: disk: Rename. -/
import Derived.Test.YtihncdlbbhmglaaDoorWl
namespace Go.Proofs.YtihncdlbbhmglaaDoor
open Go.RowKit
theorem rename_end {w w1 : World} {p : Nat} {d : Hw.HDisk} {F : Nat → Prop} {bm clock : Nat} {Fs : List FE} (h : DiskAt w p d F bm clock Fs) (h1 : DiskAt w1 p d.works F bm clock Fs) (hu : Upd (fun b => b = p) w w1)
    {a b : Int} {f : Hw.HFile} {x : FE} (hx : x ∈ Fs) (hxn : x.name = a) (hxf : x.file = f) (hf : d.find a = some f) :
    DiskRet p (0, (d.works.del a).put b f) F w (.returned .nilIface) (withMap (withMap w1 bm (mdel (Fs.map fme) a) clock) bm (mset (mdel (Fs.map fme) a) b (.pointer (some ⟨x.bf, 0, none⟩)) clock) (bump (mdel (Fs.map fme) a) b clock)) := by
  have h2 := h1.del a
  have hu2 := withMap_upd w1 bm (mdel (Fs.map fme) a) clock
  have hx1 := h1.each x hx
  rw [hxf] at hx1
  have hx2 : FileAt (withMap w1 bm (mdel (Fs.map fme) a) clock) x.bf x.row f := hx1.upd hu2 (fun e => hx1.ne_map h1.mp.blk e.symm) (fun b hb e => hx1.row_map hb h1.mp.blk e.symm)
  have hwf : Hw.HDisk.WF ((d.works.del a).put b f) := by
    refine (h1.wf.del a).put _ _ (h1.wf.safe a f hf) ?_
    have := Hw.HDisk.used_del h1.wf.nodup a
    have := Hw.HDisk.len_some (d := d.works) (n := a) hf
    have := h1.wf.room
    simp only [Hw.HDisk.room_del, Hw.HDisk.room_works, Hw.HDisk.used_works] at *; omega
  have hne : ∀ y ∈ Fs.filter (fun z => z.name != a), y ≠ x := by
    intro y hy e
    have := (List.mem_filter.1 hy).2
    rw [e, hxn] at this; simp at this
  have hin := h2.ins b hx2 (fun y hy e => hne y hy (inj_of_nodup _ h.bfs (List.mem_filter.1 hy).1 hx e))
    (fun y hy c hc hyc => by
      rcases rows_inj h.rows (List.mem_filter.1 hy).1 hx hyc hc with e | e
      · exact hne y hy (inj_of_nodup _ h.bfs (List.mem_filter.1 hy).1 hx e)
      · exact hne y hy e) hwf
  rw [← mdel_fme a h.names] at hin
  obtain ⟨c', Fs', F', h3, h4, _⟩ := hin
  refine DiskRet.of (0 : Int) h3 (fun c hc => .inl ?_) (((h.fpU hu).trans hu2 (fun c _ e => (h.fp c).2 (.inr (.inl e)))).trans (withMap_upd _ bm _ _) (fun c _ e => (h.fp c).2 (.inr (.inl e))))
  rcases h4 c hc with (e | e | ⟨z, hz, e⟩) | e | e
  · exact (h.fp c).2 (.inl e)
  · exact (h.fp c).2 (.inr (.inl e))
  · exact (h.fp c).2 (.inr (.inr ⟨z, (List.mem_filter.1 hz).1, e⟩))
  · exact (h.fp c).2 (.inr (.inr ⟨x, hx, .inl e⟩))
  · exact (h.fp c).2 (.inr (.inr ⟨x, hx, .inr e⟩))
set_option maxRecDepth 100000 in
set_option maxHeartbeats 400000 in
theorem disk_Rename (p : Nat) (d : Hw.HDisk) (F : Nat → Prop) (a b : Int) (w : World) (h : IsDisk w p d F) :
    Calls Tryd.prog 44 #[.pointer (some ⟨p, 0, none⟩), .int .i64 a, .int .i64 b] w (DiskRet p (d.rename a b) F w) := by
  obtain ⟨bm, clock, Fs, h⟩ := h
  have c0 : w.cell? ⟨p, 0, none⟩ = some (.map (some bm)) := by simp [World.cell?, h.top]
  have c3 : w.cell? ⟨p, 3, none⟩ = some (.bool d.stopped) := by simp [World.cell?, h.top]
  have H := Lib.hid h
  unfold Hw.HDisk.rename
  by_cases hst : d.stopped = true
  · rw [if_pos hst]
    rw [hst] at c3
    clear h hst
    go_enter Tryd.func44, Tryd.ntmps44
    go_wp2_with (at_lookup; refine wpLookup rfl _ _ rfl dmap dint dptr H.out.mp rfl rfl ?_)
    all_goals
      go_ret
      exact DiskRet.same ⟨bm, clock, Fs, H.out⟩ 12 (Below.refl _ _)
  · rw [if_neg hst]
    have hst' : d.stopped = false := by simpa using hst
    rw [hst'] at c3
    clear hst
    cases hf : d.find a with
    | none =>
      have hl := h.find_none hf
      clear h hf hst'
      go_enter Tryd.func44, Tryd.ntmps44
      go_wp2_with (at_lookup; refine wpLookup rfl _ _ rfl dmap dint dptr H.out.mp rfl rfl ?_)
      go_ret
      exact DiskRet.same ⟨bm, clock, Fs, H.out⟩ 2 (Below.refl _ _)
    | some f =>
      obtain ⟨x, hx, hxn, hxf, hl⟩ := h.find_some hf
      have HX := Lib.hid (And.intro hx (And.intro hxn (And.intro hxf hf)))
      simp only
      clear h hf hst' hx hxn hxf
      by_cases hws : d.works.stopped = true
      · rw [if_pos hws]
        go_enter Tryd.func44, Tryd.ntmps44
        go_wp2_with (first
          | (at_lookup; refine wpLookup rfl _ _ rfl dmap dint dptr H.out.mp rfl rfl ?_)
          | (go_at_call 32; refine (disk_works p d F bm clock Fs _ H.out).mono ?_; rintro e w1 ⟨rfl, hd, hu⟩; have HD := Lib.hid (And.intro hd hu); clear hd hu))
        go_ret
        exact DiskRet.of 12 HD.out.1 (fun _ h => .inl h) (H.out.fpU HD.out.2)
      · rw [if_neg hws]
        have hws' : d.works.stopped = false := by simpa using hws
        clear hws
        go_enter Tryd.func44, Tryd.ntmps44
        go_wp2_with (first
          | (at_lookup; refine wpLookup rfl _ _ rfl dmap dint dptr H.out.mp rfl rfl ?_)
          | (go_at_call 32; refine (disk_works p d F bm clock Fs _ H.out).mono ?_; rintro e w1 ⟨rfl, hd, hu⟩; have k0 : w1.cell? ⟨p, 0, none⟩ = some (.map (some bm)) := hd.cell0; have k9 : (withMap w1 bm (mdel (Fs.map fme) a) clock).cell? ⟨p, 0, none⟩ = some (.map (some bm)) := (hd.del a).cell0; have hm2 : MapIs (withMap w1 bm (mdel (Fs.map fme) a) clock) bm (mdel (Fs.map fme) a) clock := hd.mdel a; have HD := Lib.hid (And.intro hd (And.intro hu hm2)); clear hd hu hm2)
          | (at_delete; refine wpDelete rfl _ _ 3 rfl dmap dint HD.out.1.mp rfl rfl hl ?_)
          | (at_mapUpdate; refine wpUpdate rfl _ _ _ rfl dmap dint HD.out.2.2 rfl rfl rfl ?_; intro w3 hw3))
        go_ret
        rw [hw3.out]
        exact rename_end H.out HD.out.1 HD.out.2.1 HX.out.1 HX.out.2.1 HX.out.2.2.1 HX.out.2.2.2
end Go.Proofs.YtihncdlbbhmglaaDoor
