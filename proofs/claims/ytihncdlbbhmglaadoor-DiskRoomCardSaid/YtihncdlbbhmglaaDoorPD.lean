/- Plain laws of the journal: what is opened behind a stop, and what each deed makes. -/
import Derived.Test.YtihncdlbbhmglaaDoorPC
namespace Hw
open HDisk

/-- A disk that goes on, and is not armed. -/
def Calm (d : HDisk) : Prop := d.stopped = false ∧ d.left = -1
theorem Calm.works {d : HDisk} (h : Calm d) : d.works = d := works_calm h.1 h.2
theorem Calm.put {d : HDisk} (h : Calm d) (n : Int) (f : HFile) : Calm (d.put n f) := h
theorem Calm.del {d : HDisk} (h : Calm d) (n : Int) : Calm (d.del n) := h
theorem Calm.restart (d : HDisk) (keep : Int) : Calm (d.restart keep) := ⟨rfl, rfl⟩
theorem Calm.new (r : Int) : Calm (HDisk.new r) := ⟨rfl, rfl⟩
theorem remove_calm {d : HDisk} (h : Calm d) {n : Int} (hf : (d.find n).isSome) : d.remove n = (0, d.del n) := by
  unfold HDisk.remove
  rw [h.1, h.works]
  cases e : d.find n with
  | none => rw [e] at hf; cases hf
  | some f => simp [h.1]
theorem removeAll_calm (keep : Int) : ∀ (l : List Int) (d : HDisk), Calm d → WF d → l.Nodup → (∀ n ∈ l, (d.find n).isSome) →
    ∃ d', HJ.removeAll keep l d = (0, d') ∧ Calm d' ∧ WF d' ∧ d'.room = d.room ∧ (∀ n, d'.find n = if n ∈ l ∧ n ≠ 0 ∧ n ≠ keep then none else d.find n) := by
  intro l
  induction l with
  | nil => intro d hc hw _ _; exact ⟨d, rfl, hc, hw, rfl, by simp⟩
  | cons m l ih =>
    intro d hc hw hn hf
    rw [List.nodup_cons] at hn
    unfold HJ.removeAll
    by_cases hm : m ≠ 0 ∧ m ≠ keep
    · rw [if_pos hm]
      simp only [remove_calm hc (hf m (by simp))]
      obtain ⟨d', h1, h2, h3, h4, h5⟩ := ih (d.del m) (hc.del m) (hw.del m) hn.2 (fun n hnl => by
        rw [find_del_ne d (by rintro rfl; exact hn.1 hnl)]; exact hf n (by simp [hnl]))
      refine ⟨d', by simpa using h1, h2, h3, h4, fun n => ?_⟩
      rw [h5]
      by_cases e : n = m
      · subst e; simp [hm, find_del_same]
      · rw [find_del_ne d e]; simp [e]
    · rw [if_neg hm]
      obtain ⟨d', h1, h2, h3, h4, h5⟩ := ih d hc hw hn.2 (fun n hnl => hf n (by simp [hnl]))
      refine ⟨d', h1, h2, h3, h4, fun n => ?_⟩
      rw [h5]
      by_cases e : n = m
      · subst e; simp [hm, hn.1]
      · simp [e]

/-- The snapshot is of this turn, and this base. -/
def Snap (d : HDisk) (t : Int) (b : Bytes) : Prop :=
  (t = 0 ∧ b = [] ∧ d.find 0 = none) ∨ (1 ≤ t ∧ (varPut t ++ b).length ≤ 16384 ∧ ∃ f, d.find 0 = some f ∧ f.bytes = frameOf (varPut t ++ b))
def Small (t : Int) : Prop := 0 ≤ t ∧ t ≤ 4611686018427387904
theorem w64_small {t : Int} (h0 : -9223372036854775808 ≤ t) (h1 : t ≤ 9223372036854775807) : w64 t = t := by unfold w64; omega
theorem open_snap {d : HDisk} {t : Int} {b : Bytes} (hs : Snap d t b) (ht : Small t) : HJ.openD d = HJ.openRest d t b := by
  unfold HJ.openD HDisk.read
  rcases hs with ⟨rfl, rfl, h⟩ | ⟨h1, hl, f, hf, hb⟩
  · rw [h]; rfl
  · rw [hf, Option.map_some, hb]
    have h1' := frameOne_of hl []
    rw [List.append_nil] at h1'
    simp only [h1', frameOf_length]
    have := ht.2
    rw [varGet_put (by omega) (by omega)]
    simp only [ne_eq, not_true_eq_false, if_false]
    rw [if_neg (by omega)]
/-- The bytes of the file of the records. -/
def recBytes (d : HDisk) (t : Int) : Bytes := (d.read (2 + t)).getD []
theorem open_any {d : HDisk} {t : Int} {b : Bytes} (hc : Calm d) (hw : WF d) (hs : Snap d t b) (ht : Small t) :
    ∃ d', HJ.openD d = (0, ⟨t, b, (frameScan (recBytes d t)).1, false⟩, d') ∧ Calm d' ∧ WF d' ∧ d'.room = d.room ∧ d'.find 0 = d.find 0 ∧
      (∀ n, n ≠ 0 → n ≠ 2 + t → d'.find n = none) ∧
      (d'.find (2 + t) = (d.find (2 + t)).map fun f => if (frameScan f.bytes).2 < f.bytes.length then ⟨f.bytes.take (frameScan f.bytes).2, (frameScan f.bytes).2⟩ else f) := by
  rw [open_snap hs ht]
  unfold HJ.openRest
  have := ht.1; have := ht.2
  rw [w64_small (by omega) (by omega)]
  obtain ⟨d', h1, h2, h3, h4, h5⟩ := removeAll_calm (2 + t) d.names d hc hw (nodup_names hw.nodup) (fun n hn => (mem_names d n).1 hn)
  have h50 : d'.find 0 = d.find 0 := by rw [h5, if_neg (by simp)]
  have h5t : d'.find (2 + t) = d.find (2 + t) := by rw [h5, if_neg (by simp)]
  have h5n : ∀ n, n ≠ 0 → n ≠ 2 + t → d'.find n = none := by
    intro n hn hn'
    rw [h5]
    split
    · rfl
    · rename_i h
      cases e : d.find n with
      | none => rfl
      | some f => exact absurd ⟨(mem_names d n).2 (by rw [e]; rfl), hn, hn'⟩ h
  simp only [h1, ne_eq, not_true_eq_false, if_false]
  cases e : d.find (2 + t) with
  | none =>
    have er : d'.read (2 + t) = none := by unfold HDisk.read; rw [h5t, e]; rfl
    have eb : recBytes d t = [] := by unfold recBytes HDisk.read; rw [e]; rfl
    rw [er, eb]
    exact ⟨d', rfl, h2, h3, h4, h50, h5n, by rw [h5t, e]; rfl⟩
  | some f =>
    have er : d'.read (2 + t) = some f.bytes := by unfold HDisk.read; rw [h5t, e]; rfl
    have eb : recBytes d t = f.bytes := by unfold recBytes HDisk.read; rw [e]; rfl
    simp only [er, Option.getD_some, eb, Option.map_some]
    by_cases hlt : (frameScan f.bytes).2 < f.bytes.length
    · rw [if_pos hlt, if_pos hlt]
      have ec : d'.cut (2 + t) ((frameScan f.bytes).2 : Int) = (0, d'.put (2 + t) ⟨f.bytes.take (frameScan f.bytes).2, (frameScan f.bytes).2⟩) := by
        unfold HDisk.cut
        rw [h2.1, h5t, e, h2.works]
        simp only [Bool.false_eq_true, if_false]
        rw [if_neg (by omega), if_neg (by rw [h2.1]; simp)]
        simp
      rw [ec]
      refine ⟨_, rfl, h2.put _ _, ?_, h4, ?_, ?_, find_put_same _ _ _⟩
      · have hx := h3.cut (2 + t) ((frameScan f.bytes).2 : Int)
        rw [ec] at hx; exact hx
      · rw [find_put_ne _ _ (by omega)]; exact h50
      · intro n hn hn'; rw [find_put_ne _ _ hn']; exact h5n n hn hn'
    · rw [if_neg hlt, if_neg hlt]
      exact ⟨d', rfl, h2, h3, h4, h50, h5n, by rw [h5t, e]⟩

/-- The disk has a journal: of this turn, base and records, all of it safe, and nothing else. -/
structure JD (d : HDisk) (t : Int) (b : Bytes) (rs : List Bytes) : Prop where
  wf : WF d
  small : Small t
  snap : Snap d t b
  snapSafe : ∀ f, d.find 0 = some f → f.safe = f.bytes.length
  recs : (rs = [] ∧ d.find (2 + t) = none) ∨ d.find (2 + t) = some ⟨frames rs, (frames rs).length⟩
  lens : ∀ r ∈ rs, r.length ≤ 16384
  others : ∀ n, n ≠ 0 → n ≠ 2 + t → d.find n = none

theorem files_nil {d : HDisk} (h : ∀ n, d.find n = none) : d.files = [] := by
  cases e : d.files with
  | nil => rfl
  | cons p l =>
    have := h p.1
    unfold HDisk.find at this
    rw [e, lookup_c, if_pos rfl] at this; cases this
/-- How many bytes a disk has that has two files at most. -/
theorem used_two {d : HDisk} (hw : WF d) {a b : Int} (hab : a ≠ b) (h : ∀ n, n ≠ a → n ≠ b → d.find n = none) : d.used = d.len a + d.len b := by
  have h1 := used_del hw.nodup a
  have h2 := used_del (hw.del a).nodup b
  have h3 : ((d.del a).del b).used = 0 := by
    have : ((d.del a).del b).files = [] := files_nil fun n => by
      by_cases hb : n = b
      · subst hb; exact find_del_same _ _
      · rw [find_del_ne _ hb]
        by_cases ha : n = a
        · subst ha; exact find_del_same _ _
        · rw [find_del_ne _ ha]; exact h n ha hb
    simp [HDisk.used, this]
  have h4 : (d.del a).len b = d.len b := by rw [len_eq, len_eq, find_del_ne _ (fun e => hab e.symm)]
  omega
def snapLen (t : Int) (b : Bytes) : Nat := if t = 0 then 0 else (frameOf (varPut t ++ b)).length
theorem JD.used {d : HDisk} {t : Int} {b : Bytes} {rs : List Bytes} (h : JD d t b rs) : d.used = snapLen t b + (frames rs).length := by
  have hs := h.small.1
  rw [used_two h.wf (a := 0) (b := 2 + t) (by omega) h.others]
  congr 1
  · rcases h.snap with ⟨rfl, rfl, e⟩ | ⟨h1, _, f, hf, hb⟩
    · rw [len_none e]; rfl
    · rw [len_some hf, hb]; unfold snapLen; rw [if_neg (by omega)]
  · rcases h.recs with ⟨rfl, e⟩ | e
    · rw [len_none e]; rfl
    · rw [len_some e]
theorem JD.recBytes {d : HDisk} {t : Int} {b : Bytes} {rs : List Bytes} (h : JD d t b rs) : recBytes d t = frames rs := by
  unfold Hw.recBytes HDisk.read
  rcases h.recs with ⟨rfl, e⟩ | e <;> rw [e] <;> rfl
theorem JD.new (room : Int) : JD (HDisk.new room) 0 [] [] :=
  ⟨WF.new room, ⟨by decide, by decide⟩, .inl ⟨rfl, rfl, rfl⟩, fun f hf => by simp [HDisk.new, HDisk.find] at hf, .inl ⟨rfl, rfl⟩, by simp, fun n _ _ => rfl⟩
/-- A journal that is opened anew is the same. -/
theorem JD.open {d : HDisk} {t : Int} {b : Bytes} {rs : List Bytes} (h : JD d t b rs) (hc : Calm d) :
    ∃ d', HJ.openD d = (0, ⟨t, b, rs, false⟩, d') ∧ Calm d' ∧ JD d' t b rs ∧ d'.room = d.room := by
  obtain ⟨d', h1, h2, h3, h4, h5, h6, h7⟩ := open_any hc h.wf h.snap h.small
  rw [h.recBytes, scan_frames' h.lens] at h1
  refine ⟨d', h1, h2, ⟨h3, h.small, ?_, ?_, ?_, h.lens, h6⟩, h4⟩
  · unfold Snap; rw [h5]; exact h.snap
  · rw [h5]; exact h.snapSafe
  · rw [h7]
    rcases h.recs with ⟨rfl, e⟩ | hr
    · left; rw [e]; exact ⟨rfl, rfl⟩
    · right; rw [hr]; simp [scan_frames' h.lens]

/-- What a disk has behind some deeds, a stop among them: this snapshot, safe; these records, safe, and others, of which a beginning may be there. -/
structure JG (d : HDisk) (t : Int) (b : Bytes) (rs qs : List Bytes) : Prop where
  wf : WF d
  small : Small t
  snap : Snap d t b
  snapSafe : ∀ f, d.find 0 = some f → f.safe = f.bytes.length
  recs : (rs = [] ∧ d.find (2 + t) = none) ∨ ∃ f, d.find (2 + t) = some f ∧ f.bytes = frames rs ++ frames qs ∧ (frames rs).length ≤ f.safe
  lens : ∀ r ∈ rs, r.length ≤ 16384
  lens' : ∀ r ∈ qs, r.length ≤ 16384
theorem JD.g {d : HDisk} {t : Int} {b : Bytes} {rs : List Bytes} (h : JD d t b rs) : JG d t b rs [] :=
  ⟨h.wf, h.small, h.snap, h.snapSafe, h.recs.imp id fun e => ⟨_, e, by simp, Nat.le_refl _⟩, h.lens, by simp⟩
theorem JG.open {d : HDisk} {t : Int} {b : Bytes} {rs qs : List Bytes} (h : JG d t b rs qs) (keep : Int) :
    ∃ d' k, k ≤ qs.length ∧ HJ.openD (d.restart keep) = (0, ⟨t, b, rs ++ qs.take k, false⟩, d') ∧ Calm d' ∧ JD d' t b (rs ++ qs.take k) ∧ d'.room = d.room := by
  have hsafe : ∀ f, d.find 0 = some f → keepOf keep f = f := by
    intro f hf
    have hk := h.snapSafe f hf
    unfold keepOf; rw [hk]; simp
    cases f; simp_all
  have hs0 : (d.restart keep).find 0 = d.find 0 := by
    rw [find_restart]
    cases e : d.find 0 with
    | none => rfl
    | some f => rw [Option.map_some, hsafe f e]
  have hsn : Snap (d.restart keep) t b := by unfold Snap; rw [hs0]; exact h.snap
  obtain ⟨d', h1, h2, h3, h4, h5, h6, h7⟩ := open_any (Calm.restart d keep) (h.wf.restart keep) hsn h.small
  have key : ∃ k, k ≤ qs.length ∧ (frameScan (recBytes (d.restart keep) t)).1 = rs ++ qs.take k := by
    unfold recBytes HDisk.read
    rw [find_restart]
    rcases h.recs with ⟨rfl, hr⟩ | ⟨f, hf, hb, hs⟩
    · rw [hr]; exact ⟨0, by simp, by rw [List.take_zero]; exact congrArg Prod.fst (scan_frames' (rs := []) (by simp))⟩
    · rw [hf]
      have hk := keepOf_safe (keep := keep) (h.wf.safe _ _ hf)
      obtain ⟨k, hk1, hk2⟩ := scan_take ((keepOf keep f).safe - (frames rs).length) h.lens h.lens'
      refine ⟨k, hk1, ?_⟩
      rw [← hk2]
      simp only [Option.map_some, Option.getD_some]
      have : (keepOf keep f).bytes = f.bytes.take (keepOf keep f).safe := rfl
      rw [this, hb, List.take_append, List.take_of_length_le (by omega)]
  obtain ⟨k, hk, hscan⟩ := key
  refine ⟨d', k, hk, by rw [h1, hscan], h2, ⟨h3, h.small, ?_, ?_, ?_, ?_, h6⟩, h4⟩
  · unfold Snap; rw [h5]; exact hsn
  · rw [h5, hs0]; exact h.snapSafe
  · rw [h7, find_restart]
    have hsc := scan_sound (recBytes (d.restart keep) t)
    rw [hscan] at hsc
    rcases h.recs with ⟨rfl, hr⟩ | ⟨f, hf, hb, hs⟩
    · left
      unfold recBytes HDisk.read at hscan
      rw [find_restart, hr] at hscan
      rw [hr]; refine ⟨?_, rfl⟩
      rw [← hscan]; exact congrArg Prod.fst (scan_frames' (rs := []) (by simp))
    · right
      have er : recBytes (d.restart keep) t = (keepOf keep f).bytes := by unfold recBytes HDisk.read; rw [find_restart, hf]; rfl
      rw [er] at hsc
      rw [hf]; simp only [Option.map_some, Option.some.injEq]
      split
      · rw [hsc.2.1]
        congr 1
        rw [← hsc.2.1, List.length_take]; omega
      · rename_i hge
        have he : (frameScan (keepOf keep f).bytes).2 = (keepOf keep f).bytes.length := by omega
        rw [he, List.take_length] at hsc
        have hk := (keepOf_safe (keep := keep) (h.wf.safe _ _ hf)).1
        rw [← hsc.2.1]
        cases hh : keepOf keep f; rw [hh] at hk; simp only at hk ⊢; rw [hk]
  · intro r hr
    rcases List.mem_append.1 hr with hr | hr
    · exact h.lens r hr
    · exact h.lens' r (List.mem_of_mem_take hr)

/-! ### the deeds -/
theorem works_cases (d : HDisk) : d.works.stopped = (d.stopped || d.left == 0) := rfl
theorem append_ok {d : HDisk} (hst : d.stopped = false) {n : Int} {b : Bytes} (h : d.used + b.length ≤ d.room) :
    d.append n b = (if d.works.stopped = true then 12 else 0, d.works.put n ⟨((d.find n).getD ⟨[], 0⟩).bytes ++ b, ((d.find n).getD ⟨[], 0⟩).safe⟩) := by
  unfold HDisk.append; rw [if_neg (by rw [hst]; simp), if_neg (by omega)]
theorem append_full {d : HDisk} (hst : d.stopped = false) {n : Int} {b : Bytes} (h : d.room < d.used + b.length) : d.append n b = (8, d) := by
  unfold HDisk.append; rw [if_neg (by rw [hst]; simp), if_pos h]
theorem put_full {d : HDisk} (hst : d.stopped = false) (j : HJ) {n : Int} {b : Bytes} (h : d.room < d.used + b.length) : j.put d n b = (8, j, d) := by
  unfold HJ.put; rw [append_full hst h]; rfl
/-- Append: with room. -/
theorem JD.append {d : HDisk} {t : Int} {b : Bytes} {rs qs : List Bytes} (h : JD d t b rs) (hst : d.stopped = false) (hq : ∀ r ∈ qs, r.length ≤ 16384)
    (hroom : d.used + (frames qs).length ≤ d.room) :
    (∃ d', HJ.append ⟨t, b, rs, false⟩ d qs = (0, ⟨t, b, rs ++ qs, false⟩, d') ∧ JD d' t b (rs ++ qs) ∧ d'.stopped = false ∧ d'.room = d.room ∧ (d.left = -1 → d'.left = -1)) ∨
    (∃ d', HJ.append ⟨t, b, rs, false⟩ d qs = (12, ⟨t, b, rs, true⟩, d') ∧ JG d' t b rs qs ∧ d'.stopped = true ∧ d'.room = d.room ∧ 0 ≤ d.left) := by
  have hs := h.small.1; have hs2 := h.small.2
  have hany : (qs.any fun r => decide (16384 < r.length)) = false := by
    rw [List.any_eq_false]; intro r hr; have := hq r hr; simp; omega
  have hfr : (qs.flatMap frameOf) = frames qs := rfl
  have hw : w64 (2 + t) = 2 + t := w64_small (by omega) (by omega)
  have hfind : (d.find (2 + t)).getD ⟨[], 0⟩ = ⟨frames rs, (frames rs).length⟩ := by
    rcases h.recs with ⟨rfl, e⟩ | e <;> rw [e] <;> rfl
  have ha := append_ok hst (n := 2 + t) hroom
  rw [hfind] at ha
  unfold HJ.append
  simp only [Bool.false_eq_true, if_false, hany, hw, hfr]
  have hdw : ∀ s, s ≤ (frames rs ++ frames qs).length → WF (d.works.put (2 + t) ⟨frames rs ++ frames qs, s⟩) := fun s hs' => by
    refine h.wf.works.put _ _ hs' ?_
    have hl : d.works.len (2 + t) = (frames rs).length := by
      rcases h.recs with ⟨rfl, e⟩ | e
      · exact len_none (d := d.works) e
      · exact len_some (d := d.works) e
    rw [hl]; simp only [used_works, room_works, List.length_append]; omega
  have hg : ∀ s, (frames rs).length ≤ s → s ≤ (frames rs ++ frames qs).length → JG (d.works.put (2 + t) ⟨frames rs ++ frames qs, s⟩) t b rs qs := fun s h1 h2 => by
    have e0 : (d.works.put (2 + t) ⟨frames rs ++ frames qs, s⟩).find 0 = d.find 0 := find_put_ne _ _ (by omega)
    refine ⟨hdw s h2, h.small, ?_, ?_, .inr ⟨_, find_put_same _ _ _, rfl, h1⟩, h.lens, hq⟩
    · unfold Snap; rw [e0]; exact h.snap
    · rw [e0]; exact h.snapSafe
  by_cases hz : d.left = 0
  · right
    have hws : d.works.stopped = true := by rw [works_cases, hz]; simp
    rw [hws, if_pos rfl] at ha
    have hp : HJ.put ⟨t, b, rs, false⟩ d (2 + t) (frames qs) = (12, ⟨t, b, rs, true⟩, d.works.put (2 + t) ⟨frames rs ++ frames qs, (frames rs).length⟩) := by
      unfold HJ.put; rw [ha]; rfl
    rw [hp]
    exact ⟨_, rfl, hg _ (Nat.le_refl _) (by simp), hws, rfl, by omega⟩
  · have hws : d.works.stopped = false := by rw [works_cases, hst]; simp [hz]
    rw [hws, if_neg (by simp)] at ha
    have hsy : (d.works.put (2 + t) ⟨frames rs ++ frames qs, (frames rs).length⟩).sync (2 + t) = if (d.works.put (2 + t) ⟨frames rs ++ frames qs, (frames rs).length⟩).works.stopped = true
        then (12, (d.works.put (2 + t) ⟨frames rs ++ frames qs, (frames rs).length⟩).works) else (0, (d.works.put (2 + t) ⟨frames rs ++ frames qs, (frames rs).length⟩).works.put (2 + t) ⟨frames rs ++ frames qs, (frames rs ++ frames qs).length⟩) := by
      unfold HDisk.sync
      rw [stopped_put, hws, find_put_same, if_neg (by simp)]
    by_cases hz2 : (d.works.put (2 + t) ⟨frames rs ++ frames qs, (frames rs).length⟩).works.stopped = true
    · right
      rw [if_pos hz2] at hsy
      have hp : HJ.put ⟨t, b, rs, false⟩ d (2 + t) (frames qs) = (12, ⟨t, b, rs, true⟩, (d.works.put (2 + t) ⟨frames rs ++ frames qs, (frames rs).length⟩).works) := by
        unfold HJ.put; rw [ha]; simp only [ne_eq, not_true_eq_false, if_false]; rw [hsy]; rfl
      rw [hp]
      refine ⟨_, rfl, ?_, hz2, rfl, ?_⟩
      · have := hg _ (Nat.le_refl _) (by simp)
        exact ⟨this.wf.works, this.small, this.snap, this.snapSafe, this.recs, this.lens, this.lens'⟩
      · rw [works_cases] at hz2
        simp only [stopped_put, hws, Bool.false_or, left_put, beq_iff_eq] at hz2
        unfold HDisk.works at hz2; simp only at hz2
        split at hz2 <;> omega
    · left
      rw [if_neg hz2] at hsy
      have hp : HJ.put ⟨t, b, rs, false⟩ d (2 + t) (frames qs) = (0, ⟨t, b, rs, false⟩, (d.works.put (2 + t) ⟨frames rs ++ frames qs, (frames rs).length⟩).works.put (2 + t) ⟨frames rs ++ frames qs, (frames rs ++ frames qs).length⟩) := by
        unfold HJ.put; rw [ha]; simp only [ne_eq, not_true_eq_false, if_false]; rw [hsy]; rfl
      rw [hp]
      have hz2 : (d.works.put (2 + t) ⟨frames rs ++ frames qs, (frames rs).length⟩).works.stopped = false := by simpa using hz2
      refine ⟨_, rfl, ?_, hz2, rfl, ?_⟩
      · have hn : ∀ n, n ≠ 2 + t → ((d.works.put (2 + t) ⟨frames rs ++ frames qs, (frames rs).length⟩).works.put (2 + t) ⟨frames rs ++ frames qs, (frames rs ++ frames qs).length⟩).find n = d.find n := by
          intro n hn
          rw [find_put_ne _ _ hn, find_works, find_put_ne _ _ hn, find_works]
        have e0 := hn 0 (by omega)
        refine ⟨?_, h.small, ?_, ?_, .inr ?_, ?_, fun n h0 h1 => by rw [hn n h1]; exact h.others n h0 h1⟩
        · refine (hdw _ (by simp)).works.put _ _ (Nat.le_refl _) ?_
          have hr := (hdw (frames rs).length (by simp)).room
          have hl : (d.works.put (2 + t) ⟨frames rs ++ frames qs, (frames rs).length⟩).works.len (2 + t) = (frames rs ++ frames qs).length := len_some (find_put_same _ _ _)
          rw [hl]; simp only [used_works, room_works]; omega
        · unfold Snap; rw [e0]; exact h.snap
        · rw [e0]; exact h.snapSafe
        · rw [find_put_same, frames_append]
        · intro r hr
          rcases List.mem_append.1 hr with hr | hr
          · exact h.lens r hr
          · exact hq r hr
      · intro hl
        have hc : Calm d := ⟨hst, hl⟩
        rw [hc.works]
        have : Calm (d.put (2 + t) ⟨frames rs ++ frames qs, (frames rs).length⟩) := hc
        rw [this.works]; exact hl
/-- Append: without room. -/
theorem HJ.append_full {d : HDisk} {j : HJ} {qs : List Bytes} (hb : j.broken = false) (hst : d.stopped = false) (hq : ∀ r ∈ qs, r.length ≤ 16384) (hroom : d.room < d.used + (frames qs).length) :
    j.append d qs = (8, j, d) := by
  have hany : (qs.any fun r => decide (16384 < r.length)) = false := by
    rw [List.any_eq_false]; intro r hr; have := hq r hr; simp; omega
  unfold HJ.append
  have hfr : (qs.flatMap frameOf) = frames qs := rfl
  simp only [hb, Bool.false_eq_true, if_false, hany, hfr, put_full hst j hroom]
  rfl
end Hw
