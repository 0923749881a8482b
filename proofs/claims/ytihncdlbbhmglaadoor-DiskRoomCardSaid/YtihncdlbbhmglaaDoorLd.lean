/- Words of the walks: what becomes of a disk in memory. -/
import Derived.Test.YtihncdlbbhmglaaDoorWk
namespace Go.Proofs.YtihncdlbbhmglaaDoor
open Go.RowKit

def errV (n : Int) : Value := if n = 0 then .nilIface else .iface 29 (.int .i64 n)
/-- A deed of a disk: what is told; the disk is this one then; nothing but it has turned. -/
def DiskRet (p : Nat) (r : Int × Hw.HDisk) (F : Nat → Prop) (w : World) (e : Ending) (w' : World) : Prop :=
  e = .returned (errV r.1) ∧ ∃ F', IsDisk w' p r.2 F' ∧ (∀ b, F' b → F b ∨ w.heap.size ≤ b) ∧ Upd F w w'
theorem DiskAt.names {w : World} {p : Nat} {d : Hw.HDisk} {F : Nat → Prop} {bm clock : Nat} {Fs : List FE} (h : DiskAt w p d F bm clock Fs) : (Fs.map (·.name)).Nodup := by
  have := h.wf.nodup
  rw [h.files] at this
  simpa [Hw.HDisk.Keys, List.map_map, Function.comp_def] using this
theorem setAt_map {n : Int} {f : Hw.HFile} : ∀ {l : List (Int × Hw.HFile)}, (l.map (·.1)).Nodup → n ∈ l.map (·.1) → Hw.HDisk.setAt l n f = l.map fun q => if q.1 = n then (n, f) else q := by
  intro l
  induction l with
  | nil => intro _ h; cases h
  | cons q l ih =>
    intro hn hm
    simp only [List.map_cons, List.nodup_cons] at hn
    unfold Hw.HDisk.setAt
    by_cases h : q.1 = n
    · rw [if_pos h, List.map_cons, if_pos h]
      congr 1
      rw [← List.map_id l]
      rw [List.map_map]
      apply List.map_congr_left
      intro z hz
      have : z.1 ≠ n := fun e => hn.1 (by rw [h, ← e]; exact List.mem_map.2 ⟨z, hz, rfl⟩)
      simp [this]
    · rw [if_neg h, List.map_cons, if_neg h, ih hn.2 (by simpa [Ne.symm h] using hm)]
theorem setAt_new {n : Int} {f : Hw.HFile} : ∀ {l : List (Int × Hw.HFile)}, n ∉ l.map (·.1) → Hw.HDisk.setAt l n f = l ++ [(n, f)] := by
  intro l
  induction l with
  | nil => intro _; rfl
  | cons q l ih =>
    intro hm
    simp only [List.map_cons, List.mem_cons, not_or] at hm
    unfold Hw.HDisk.setAt
    rw [if_neg (fun e => hm.1 e.symm), ih hm.2]; rfl
def reF (n : Int) (f : Hw.HFile) (bf : Nat) (row : Option Nat) (y : FE) : FE := if y.name = n then ⟨n, f, bf, row, y.born⟩ else y
theorem inj_of_nodup {α β : Type} (g : α → β) : ∀ {l : List α}, (l.map g).Nodup → ∀ {x y : α}, x ∈ l → y ∈ l → g x = g y → x = y := by
  intro l
  induction l with
  | nil => intro _ x y hx; cases hx
  | cons z l ih =>
    intro hn x y hx hy e
    simp only [List.map_cons, List.nodup_cons] at hn
    rcases List.mem_cons.1 hx with h1 | h1 <;> rcases List.mem_cons.1 hy with h2 | h2
    · rw [h1, h2]
    · exact absurd (List.mem_map.2 ⟨y, h2, by rw [← e, h1]⟩) hn.1
    · exact absurd (List.mem_map.2 ⟨x, h1, by rw [e, h2]⟩) hn.1
    · exact ih hn.2 h1 h2 e
theorem rows_inj : ∀ {l : List FE}, (l.filterMap (·.row)).Nodup → ∀ {x y : FE} {b : Nat}, x ∈ l → y ∈ l → x.row = some b → y.row = some b → x.bf = y.bf ∨ x = y := by
  intro l
  induction l with
  | nil => intro _ x y b hx; cases hx
  | cons z l ih =>
    intro hn x y b hx hy hxb hyb
    have hn' : (l.filterMap (·.row)).Nodup := by
      rw [List.filterMap_cons] at hn
      split at hn
      · exact hn
      · exact (List.nodup_cons.1 hn).2
    rcases List.mem_cons.1 hx with h1 | h1 <;> rcases List.mem_cons.1 hy with h2 | h2
    · exact .inr (h1.trans h2.symm)
    · rw [List.filterMap_cons, ← h1, hxb] at hn
      exact absurd (List.mem_filterMap.2 ⟨y, h2, hyb⟩) (List.nodup_cons.1 hn).1
    · rw [List.filterMap_cons, ← h2, hyb] at hn
      exact absurd (List.mem_filterMap.2 ⟨x, h1, hxb⟩) (List.nodup_cons.1 hn).1
    · exact ih hn' h1 h2 hxb hyb
theorem rows_nodup_of {l : List FE} (h1 : l.Nodup) (h2 : ∀ x ∈ l, ∀ y ∈ l, ∀ b, x.row = some b → y.row = some b → x = y) : (l.filterMap (·.row)).Nodup := by
  induction l with
  | nil => simp
  | cons z l ih =>
    have hn := List.nodup_cons.1 h1
    have ih' := ih hn.2 (fun x hx y hy => h2 x (by simp [hx]) y (by simp [hy]))
    rw [List.filterMap_cons]
    split
    · exact ih'
    · rename_i b hb
      refine List.nodup_cons.2 ⟨fun hm => ?_, ih'⟩
      obtain ⟨y, hy, hyb⟩ := List.mem_filterMap.1 hm
      have := h2 z (by simp) y (by simp [hy]) b hb hyb
      exact hn.1 (this ▸ hy)
theorem nodup_of_map {α β : Type} (g : α → β) : ∀ {l : List α}, (l.map g).Nodup → l.Nodup := by
  intro l
  induction l with
  | nil => intro _; simp
  | cons z l ih =>
    intro hn
    simp only [List.map_cons, List.nodup_cons] at hn
    exact List.nodup_cons.2 ⟨fun hm => hn.1 (List.mem_map.2 ⟨z, hm, rfl⟩), ih hn.2⟩
/-- A file of a disk is another one behind a change of its own blocks alone. -/
theorem DiskAt.put {w w' : World} {p : Nat} {d : Hw.HDisk} {F : Nat → Prop} {bm clock : Nat} {Fs : List FE} (h : DiskAt w p d F bm clock Fs) {x : FE} (hx : x ∈ Fs) {n : Int} (hxn : x.name = n) {f' : Hw.HFile} {row' : Option Nat}
    (hu : Upd (fun b => b = x.bf ∨ x.row = some b) w w') (hf : FileAt w' x.bf row' f') (hr : row' = x.row ∨ row' = none ∨ ∃ b, row' = some b ∧ w.heap.size ≤ b)
    (hwf : Hw.HDisk.WF (d.put n f')) : ∃ F', DiskAt w' p (d.put n f') F' bm clock (Fs.map (reF n f' x.bf row')) ∧ (∀ b, F' b → F b ∨ w.heap.size ≤ b) := by
  have hnames := h.names
  have hother : ∀ y ∈ Fs, y.name ≠ n → y.bf ≠ x.bf ∧ (∀ b, x.row = some b → y.row ≠ some b) := by
    intro y hy hyn
    have hb : y.bf ≠ x.bf := fun e => hyn (by rw [inj_of_nodup _ h.bfs hy hx e]; exact hxn)
    refine ⟨hb, fun b hb1 hb2 => ?_⟩
    rcases rows_inj h.rows hy hx hb2 hb1 with e | e
    · exact hb e
    · exact hyn (e ▸ hxn)
  have hreF : ∀ y ∈ Fs, (reF n f' x.bf row' y).bf = y.bf := by
    intro y hy
    unfold reF; split
    · rename_i e; rw [inj_of_nodup _ hnames hy hx (e.trans hxn.symm)]
    · rfl
  have hxe : ∀ y ∈ Fs, y.name = n → y = x := fun y hy e => inj_of_nodup _ hnames hy hx (e.trans hxn.symm)
  have hcase : ∀ z, z ∈ Fs.map (reF n f' x.bf row') → (z = ⟨n, f', x.bf, row', x.born⟩) ∨ (z ∈ Fs ∧ z.name ≠ n) := by
    intro z hz
    obtain ⟨y, hy, rfl⟩ := List.mem_map.1 hz
    unfold reF
    by_cases e : y.name = n
    · left; rw [if_pos e, hxe y hy e]
    · right; rw [if_neg e]; exact ⟨hy, e⟩
  have hbfs : ((Fs.map (reF n f' x.bf row')).map (·.bf)).Nodup := by
    rw [List.map_map]
    have : Fs.map ((fun x => x.bf) ∘ reF n f' x.bf row') = Fs.map (·.bf) := List.map_congr_left hreF
    rw [this]; exact h.bfs
  have hm : (Fs.map (reF n f' x.bf row')).map fme = Fs.map fme := by
    rw [List.map_map]
    apply List.map_congr_left
    intro y hy
    simp only [Function.comp, fme, hreF y hy]
    unfold reF
    by_cases e : y.name = n
    · rw [if_pos e]; simp [e]
    · rw [if_neg e]
  refine ⟨fun b => b = p ∨ b = bm ∨ ∃ z ∈ Fs.map (reF n f' x.bf row'), b = z.bf ∨ z.row = some b, ⟨?_, ?_, ?_, ?_, hbfs, ?_, fun b => Iff.rfl, h.left0, h.left1, hwf⟩, ?_⟩
  · exact (hu.block p (blk_lt h.top) (by
      have hx' := h.each x hx
      rintro (e | e)
      · exact hx'.ne_cells h.top (by decide) e
      · exact hx'.row_cells e h.top (by decide) rfl)).trans h.top
  · rw [hm]
    exact h.mp.upd hu (by
      have hx' := h.each x hx
      rintro (e | e)
      · exact hx'.ne_map h.mp.blk e
      · exact hx'.row_map e h.mp.blk rfl)
  · show Hw.HDisk.setAt d.files n f' = _
    rw [setAt_map h.wf.nodup (by rw [h.files, List.map_map]; exact List.mem_map.2 ⟨x, hx, hxn⟩), h.files, List.map_map, List.map_map]
    apply List.map_congr_left
    intro y hy
    simp only [Function.comp, reF]
    by_cases e : y.name = n
    · simp [e]
    · simp [e]
  · intro z hz
    rcases hcase z hz with rfl | ⟨hz, hzn⟩
    · exact hf
    · obtain ⟨h1, h2⟩ := hother z hz hzn
      obtain ⟨svz, gz, _⟩ := h.each z hz
      obtain ⟨svx, gx, _⟩ := h.each x hx
      refine (h.each z hz).upd hu (by rintro (e | e); exact h1 e; exact (h.each x hx).row_cells e gz (by decide) rfl) (fun b hb => by
        rintro (e | e)
        · subst e
          exact (h.each z hz).row_cells hb gx (by decide) rfl
        · exact h2 b e hb)
  · refine rows_nodup_of (nodup_of_map (·.bf) hbfs) (fun z hz y hy b hzb hyb => ?_)
    rcases hcase z hz with rfl | ⟨hz', hzn⟩ <;> rcases hcase y hy with rfl | ⟨hy', hyn⟩
    · rfl
    · exfalso
      rcases hr with e | e | ⟨c, e, hc⟩
      · exact (hother y hy' hyn).2 b (by rw [← e]; exact hzb) hyb
      · rw [e] at hzb; cases hzb
      · rw [e] at hzb; cases hzb
        have := h.lt ((h.fp b).2 (.inr (.inr ⟨y, hy', .inr hyb⟩))); omega
    · exfalso
      rcases hr with e | e | ⟨c, e, hc⟩
      · exact (hother z hz' hzn).2 b (by rw [← e]; exact hyb) hzb
      · rw [e] at hyb; cases hyb
      · rw [e] at hyb; cases hyb
        have := h.lt ((h.fp b).2 (.inr (.inr ⟨z, hz', .inr hzb⟩))); omega
    · rcases rows_inj h.rows hz' hy' hzb hyb with e | e
      · exact inj_of_nodup _ h.bfs hz' hy' e
      · exact e
  · rintro b (rfl | rfl | ⟨z, hz, hb⟩)
    · exact .inl ((h.fp _).2 (.inl rfl))
    · exact .inl ((h.fp _).2 (.inr (.inl rfl)))
    · rcases hcase z hz with rfl | ⟨hz', _⟩
      · rcases hb with hb | hb
        · exact .inl ((h.fp _).2 (.inr (.inr ⟨x, hx, .inl hb⟩)))
        · rcases hr with e | e | ⟨c, e, hc⟩
          · exact .inl ((h.fp _).2 (.inr (.inr ⟨x, hx, .inr (by rw [← e]; exact hb)⟩)))
          · simp only at hb; rw [e] at hb; cases hb
          · simp only at hb; rw [e] at hb; cases hb; exact .inr hc
      · exact .inl ((h.fp _).2 (.inr (.inr ⟨z, hz', hb⟩)))
end Go.Proofs.YtihncdlbbhmglaaDoor
