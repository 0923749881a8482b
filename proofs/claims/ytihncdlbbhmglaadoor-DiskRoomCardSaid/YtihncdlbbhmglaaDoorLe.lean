/- Words of the walks: files that come and go. -/
import Derived.Test.YtihncdlbbhmglaaDoorLd
namespace Go.Proofs.YtihncdlbbhmglaaDoor
open Go.RowKit

theorem mdel_fme (n : Int) : ∀ {Fs : List FE}, (Fs.map (·.name)).Nodup → mdel (Fs.map fme) n = (Fs.filter fun x => x.name != n).map fme := by
  intro Fs
  induction Fs with
  | nil => intro _; rfl
  | cons x l ih =>
    intro hn
    simp only [List.map_cons, List.nodup_cons] at hn
    simp only [List.map_cons, mdel, List.filter_cons]
    by_cases h : x.name = n
    · have h2 : (l.filter fun y => y.name != n) = l := by
        apply List.filter_eq_self.2
        intro y hy; simp only [bne_iff_ne, ne_eq]; intro e; exact hn.1 (by rw [h, ← e]; exact List.mem_map.2 ⟨y, hy, rfl⟩)
      have h3 : (fme x).key = n := h
      rw [if_pos h3, if_neg (by simp [h]), h2]
    · have h3 : ¬ (fme x).key = n := h
      rw [if_neg h3, if_pos (by simp [h]), ih hn.2]; rfl
theorem mset_fme (n : Int) (f : Hw.HFile) (bf : Nat) (row : Option Nat) (c : Nat) : ∀ {Fs : List FE}, (Fs.map (·.name)).Nodup → n ∈ Fs.map (·.name) →
    mset (Fs.map fme) n (.pointer (some ⟨bf, 0, none⟩)) c = (Fs.map (reF n f bf row)).map fme := by
  intro Fs
  induction Fs with
  | nil => intro _ h; cases h
  | cons x l ih =>
    intro hn hm
    simp only [List.map_cons, List.nodup_cons] at hn
    simp only [List.map_cons, mset]
    by_cases h : x.name = n
    · have h3 : (fme x).key = n := h
      rw [if_pos h3]
      have h2 : l.map (reF n f bf row) = l := by
        conv => rhs; rw [← List.map_id l]
        apply List.map_congr_left
        intro y hy
        have : y.name ≠ n := fun e => hn.1 (by rw [h, ← e]; exact List.mem_map.2 ⟨y, hy, rfl⟩)
        simp [reF, this]
      rw [h2]; simp [reF, h, fme]
    · have h3 : ¬ (fme x).key = n := h
      rw [if_neg h3, ih hn.2 (by simpa [Ne.symm h] using hm)]
      congr 1
      simp [reF, h, fme]
theorem delAt_map (Fs : List FE) (n : Int) : Hw.HDisk.delAt (Fs.map fun x => (x.name, x.file)) n = (Fs.filter fun x => x.name != n).map fun x => (x.name, x.file) := by
  unfold Hw.HDisk.delAt; rw [List.filter_map]; rfl
theorem DiskAt.sub_fp {w : World} {p : Nat} {d : Hw.HDisk} {F : Nat → Prop} {bm clock : Nat} {Fs : List FE} (h : DiskAt w p d F bm clock Fs) {b : Nat} (hb : b = p ∨ b = bm ∨ ∃ z ∈ Fs, b = z.bf ∨ z.row = some b) : F b := (h.fp b).2 hb
/-- A file goes. -/
theorem DiskAt.del {w : World} {p : Nat} {d : Hw.HDisk} {F : Nat → Prop} {bm clock : Nat} {Fs : List FE} (h : DiskAt w p d F bm clock Fs) (n : Int) :
    DiskAt (withMap w bm (mdel (Fs.map fme) n) clock) p (d.del n) (fun b => b = p ∨ b = bm ∨ ∃ z ∈ Fs.filter (fun x => x.name != n), b = z.bf ∨ z.row = some b) bm clock (Fs.filter fun x => x.name != n) := by
  have hu := withMap_upd w bm (mdel (Fs.map fme) n) clock
  have hsub : (Fs.filter fun x => x.name != n).Sublist Fs := List.filter_sublist
  refine ⟨(hu.block p (blk_lt h.top) h.ne_map).trans h.top, ?_, ?_, fun x hx => ?_, h.bfs.sublist (hsub.map _), ?_, fun b => Iff.rfl, h.left0, h.left1, h.wf.del n⟩
  · rw [mdel_fme n h.names]
    refine withMap_is h.mp.blk ?_ (fun x hx => h.mp.below x ((hsub.map fme).mem hx))
    exact h.mp.borns.sublist ((hsub.map fme).map _)
  · show Hw.HDisk.delAt d.files n = _
    rw [h.files, delAt_map]
  · have hx' := h.each x (hsub.mem hx)
    exact hx'.upd hu (fun e => hx'.ne_map h.mp.blk e.symm) (fun b hb e => hx'.row_map hb h.mp.blk e.symm)
  · exact h.rows.sublist (hsub.filterMap _)
theorem DiskAt.mdel {w : World} {p : Nat} {d : Hw.HDisk} {F : Nat → Prop} {bm clock : Nat} {Fs : List FE} (h : DiskAt w p d F bm clock Fs) (n : Int) :
    MapIs (withMap w bm (YtihncdlbbhmglaaDoor.mdel (Fs.map fme) n) clock) bm (YtihncdlbbhmglaaDoor.mdel (Fs.map fme) n) clock := by
  have := (h.del n).mp
  rw [← mdel_fme n h.names] at this; exact this
theorem works_cell {w w1 : World} {p : Nat} {d : Hw.HDisk} {F : Nat → Prop} {bm clock : Nat} {Fs : List FE} (h : DiskAt w p d F bm clock Fs) (hu : Upd (fun b => b = p) w w1) {x : FE} (hx : x ∈ Fs) {i : Nat} {v : Value} (hc : w.cell? ⟨x.bf, i, none⟩ = some v) : w1.cell? ⟨x.bf, i, none⟩ = some v := by
  rw [← hc]
  exact World.cell?_of_block (w := w) (hu.block x.bf (h.lt ((h.fp _).2 (.inr (.inr ⟨x, hx, .inl rfl⟩)))) (fun e => (h.each x hx).ne_cells h.top (by decide) e.symm))
/-- A file comes that lay loose: under a name that is new, or in another's place. -/
theorem DiskAt.ins {w : World} {p : Nat} {d : Hw.HDisk} {F : Nat → Prop} {bm clock : Nat} {Fs : List FE} (h : DiskAt w p d F bm clock Fs) (n : Int) {f : Hw.HFile} {bf : Nat} {row : Option Nat}
    (hf : FileAt w bf row f) (hbf : ∀ x ∈ Fs, x.bf ≠ bf) (hrow : ∀ x ∈ Fs, ∀ b, row = some b → x.row ≠ some b) (hwf : Hw.HDisk.WF (d.put n f)) :
    ∃ c' Fs' F', DiskAt (withMap w bm (mset (Fs.map fme) n (.pointer (some ⟨bf, 0, none⟩)) clock) (bump (Fs.map fme) n clock)) p (d.put n f) F' bm c' Fs' ∧ (∀ b, F' b → F b ∨ b = bf ∨ row = some b) ∧ ∃ x ∈ Fs', x.name = n ∧ x.bf = bf ∧ x.row = row ∧ x.file = f := by
  have hnames := h.names
  unfold bump
  by_cases hn : n ∈ Fs.map (·.name)
  · have hlk : (mlook (Fs.map fme) n).isSome := by
      rw [look_fme]
      obtain ⟨x, hx, hxn⟩ := List.mem_map.1 hn
      cases e : Fs.find? (fun x => x.name == n) with
      | none => have := List.find?_eq_none.1 e x hx; simp [hxn] at this
      | some y => rfl
    rw [if_pos hlk, mset_fme n f bf row clock hnames hn]
    have hu := withMap_upd w bm ((Fs.map (reF n f bf row)).map fme) clock
    obtain ⟨x0, hx0, hxn0⟩ := List.mem_map.1 hn
    have hcase : ∀ z, z ∈ Fs.map (reF n f bf row) → (z = ⟨n, f, bf, row, x0.born⟩) ∨ (z ∈ Fs ∧ z.name ≠ n) := by
      intro z hz
      obtain ⟨y, hy, rfl⟩ := List.mem_map.1 hz
      unfold reF
      by_cases e : y.name = n
      · left; rw [if_pos e, inj_of_nodup _ hnames hy hx0 (e.trans hxn0.symm)]
      · right; rw [if_neg e]; exact ⟨hy, e⟩
    have hborn : ((Fs.map (reF n f bf row)).map fme).map (·.born) = (Fs.map fme).map (·.born) := by
      simp only [List.map_map]
      apply List.map_congr_left
      intro y _; simp only [Function.comp, fme, reF]; split <;> rfl
    have hbfs : ((Fs.map (reF n f bf row)).map (·.bf)).Nodup := by
      have hnm : (Fs.map (reF n f bf row)).map (·.name) = Fs.map (·.name) := by
        rw [List.map_map]; apply List.map_congr_left
        intro y _; simp only [Function.comp, reF]; split
        · rename_i e; exact e.symm
        · rfl
      have h1 : (Fs.map (reF n f bf row)).Nodup := nodup_of_map (·.name) (by rw [hnm]; exact hnames)
      rw [List.nodup_iff_pairwise_ne, List.pairwise_map]
      refine (List.nodup_iff_pairwise_ne.1 h1).imp_of_mem ?_
      intro z y hz hy hzy e
      rcases hcase z hz with rfl | ⟨hz', _⟩ <;> rcases hcase y hy with rfl | ⟨hy', _⟩
      · exact hzy rfl
      · exact hbf y hy' e.symm
      · exact hbf z hz' e
      · exact hzy (inj_of_nodup _ h.bfs hz' hy' e)
    refine ⟨clock, Fs.map (reF n f bf row), fun b => b = p ∨ b = bm ∨ ∃ z ∈ Fs.map (reF n f bf row), b = z.bf ∨ z.row = some b, ⟨(hu.block p (blk_lt h.top) h.ne_map).trans h.top, ?_, ?_, fun z hz => ?_, hbfs, ?_, fun b => Iff.rfl, h.left0, h.left1, hwf⟩, ?_, ?_⟩
    · refine withMap_is h.mp.blk (by rw [hborn]; exact h.mp.borns) (fun x hx => ?_)
      have : x.born ∈ ((Fs.map (reF n f bf row)).map fme).map (·.born) := List.mem_map.2 ⟨x, hx, rfl⟩
      rw [hborn] at this
      obtain ⟨y, hy, e⟩ := List.mem_map.1 this
      rw [← e]; exact h.mp.below y hy
    · show Hw.HDisk.setAt d.files n f = _
      rw [setAt_map h.wf.nodup (by rw [h.files, List.map_map]; exact hn), h.files, List.map_map, List.map_map]
      apply List.map_congr_left
      intro y hy
      simp only [Function.comp, reF]
      by_cases e : y.name = n <;> simp [e]
    · rcases hcase z hz with rfl | ⟨hz', _⟩
      · exact hf.upd hu (fun e => hf.ne_map h.mp.blk e.symm) (fun b hb e => hf.row_map hb h.mp.blk e.symm)
      · have hx' := h.each z hz'
        exact hx'.upd hu (fun e => hx'.ne_map h.mp.blk e.symm) (fun b hb e => hx'.row_map hb h.mp.blk e.symm)
    · refine rows_nodup_of (nodup_of_map (·.bf) hbfs) (fun z hz y hy b hzb hyb => ?_)
      rcases hcase z hz with rfl | ⟨hz', _⟩ <;> rcases hcase y hy with rfl | ⟨hy', _⟩
      · rfl
      · exact absurd hyb (hrow y hy' b hzb)
      · exact absurd hzb (hrow z hz' b hyb)
      · rcases rows_inj h.rows hz' hy' hzb hyb with e | e
        · exact inj_of_nodup _ h.bfs hz' hy' e
        · exact e
    · rintro b (rfl | rfl | ⟨z, hz, hb⟩)
      · exact .inl (h.sub_fp (.inl rfl))
      · exact .inl (h.sub_fp (.inr (.inl rfl)))
      · rcases hcase z hz with rfl | ⟨hz', _⟩
        · exact .inr hb
        · exact .inl (h.sub_fp (.inr (.inr ⟨z, hz', hb⟩)))
    · exact ⟨_, List.mem_map.2 ⟨x0, hx0, rfl⟩, by simp [reF, hxn0], by simp [reF, hxn0], by simp [reF, hxn0], by simp [reF, hxn0]⟩
  · have hlk : mlook (Fs.map fme) n = none := by
      rw [look_fme]
      have : Fs.find? (fun x => x.name == n) = none := List.find?_eq_none.2 (fun x hx => by
        simp only [beq_iff_eq]; exact fun e => hn (List.mem_map.2 ⟨x, hx, e⟩))
      rw [this]; rfl
    rw [hlk, if_neg (by simp), mset_new _ _ _ hlk]
    have hms : Fs.map fme ++ [(⟨n, .pointer (some ⟨bf, 0, none⟩), clock⟩ : ME)] = (Fs ++ [(⟨n, f, bf, row, clock⟩ : FE)]).map fme := by simp [fme]
    rw [hms]
    have hu := withMap_upd w bm ((Fs ++ [(⟨n, f, bf, row, clock⟩ : FE)]).map fme) (clock + 1)
    have hcase : ∀ z, z ∈ Fs ++ [(⟨n, f, bf, row, clock⟩ : FE)] → (z = ⟨n, f, bf, row, clock⟩) ∨ z ∈ Fs := by
      intro z hz; rcases List.mem_append.1 hz with hz | hz
      · exact .inr hz
      · exact .inl (by simpa using hz)
    have hbfs : ((Fs ++ [(⟨n, f, bf, row, clock⟩ : FE)]).map (·.bf)).Nodup := by
      rw [List.map_append, List.nodup_append]
      refine ⟨h.bfs, by simp, ?_⟩
      intro a ha b hb e
      obtain ⟨x, hx, rfl⟩ := List.mem_map.1 ha
      simp at hb; exact hbf x hx (e.trans hb)
    refine ⟨clock + 1, Fs ++ [⟨n, f, bf, row, clock⟩], fun b => b = p ∨ b = bm ∨ ∃ z ∈ Fs ++ [(⟨n, f, bf, row, clock⟩ : FE)], b = z.bf ∨ z.row = some b, ⟨(hu.block p (blk_lt h.top) h.ne_map).trans h.top, ?_, ?_, fun z hz => ?_, hbfs, ?_, fun b => Iff.rfl, h.left0, h.left1, hwf⟩, ?_, ⟨_, List.mem_append.2 (.inr (List.mem_singleton.2 rfl)), rfl, rfl, rfl, rfl⟩⟩
    · refine withMap_is h.mp.blk ?_ (fun x hx => ?_)
      · rw [List.map_append, List.map_append, List.nodup_append]
        refine ⟨h.mp.borns, by simp, ?_⟩
        intro a ha b hb e
        obtain ⟨x, hx, rfl⟩ := List.mem_map.1 ha
        have := h.mp.below x hx
        simp [fme] at hb; omega
      · rw [List.map_append] at hx
        rcases List.mem_append.1 hx with hx | hx
        · have := h.mp.below x hx; omega
        · simp [fme] at hx; rw [hx]; simp
    · show Hw.HDisk.setAt d.files n f = _
      rw [setAt_new (by rw [h.files, List.map_map]; exact hn), h.files]; simp
    · rcases hcase z hz with rfl | hz'
      · exact hf.upd hu (fun e => hf.ne_map h.mp.blk e.symm) (fun b hb e => hf.row_map hb h.mp.blk e.symm)
      · have hx' := h.each z hz'
        exact hx'.upd hu (fun e => hx'.ne_map h.mp.blk e.symm) (fun b hb e => hx'.row_map hb h.mp.blk e.symm)
    · refine rows_nodup_of (nodup_of_map (·.bf) hbfs) (fun z hz y hy b hzb hyb => ?_)
      rcases hcase z hz with rfl | hz' <;> rcases hcase y hy with rfl | hy'
      · rfl
      · exact absurd hyb (hrow y hy' b hzb)
      · exact absurd hzb (hrow z hz' b hyb)
      · rcases rows_inj h.rows hz' hy' hzb hyb with e | e
        · exact inj_of_nodup _ h.bfs hz' hy' e
        · exact e
    · rintro b (rfl | rfl | ⟨z, hz, hb⟩)
      · exact .inl (h.sub_fp (.inl rfl))
      · exact .inl (h.sub_fp (.inr (.inl rfl)))
      · rcases hcase z hz with rfl | hz'
        · exact .inr hb
        · exact .inl (h.sub_fp (.inr (.inr ⟨z, hz', hb⟩)))
end Go.Proofs.YtihncdlbbhmglaaDoor
