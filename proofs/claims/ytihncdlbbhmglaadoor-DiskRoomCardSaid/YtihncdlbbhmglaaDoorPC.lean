/- Plain laws of the disk: what is found behind each deed, how many bytes there are, which names. -/
import Derived.Test.YtihncdlbbhmglaaDoorPB
namespace Hw
namespace HDisk

/-! ### lists of files -/
abbrev Keys (l : List (Int × HFile)) : List Int := l.map (·.1)
abbrev Used (l : List (Int × HFile)) : Nat := (l.map fun p => p.2.bytes.length).sum
theorem lookup_c (p : Int × HFile) (l : List (Int × HFile)) (n : Int) : (p :: l).lookup n = if n = p.1 then some p.2 else l.lookup n := by
  obtain ⟨k, v⟩ := p
  rw [List.lookup_cons]
  by_cases h : n = k
  · subst h; simp
  · have : (n == k) = false := by simp [h]
    rw [this, if_neg h]
theorem lookup_setAt_same (l : List (Int × HFile)) (n : Int) (f : HFile) : (setAt l n f).lookup n = some f := by
  induction l with
  | nil => simp [setAt]
  | cons p l ih =>
    unfold setAt; split
    · simp
    · rename_i h; rw [lookup_c, if_neg (fun e => h e.symm)]; exact ih
theorem lookup_setAt_ne (l : List (Int × HFile)) {n m : Int} (f : HFile) (h : m ≠ n) : (setAt l n f).lookup m = l.lookup m := by
  induction l with
  | nil => simp only [setAt]; rw [lookup_c, if_neg h]
  | cons p l ih =>
    unfold setAt; split
    · rename_i e; subst e; rw [lookup_c, lookup_c, if_neg h, if_neg h]
    · rw [lookup_c, lookup_c, ih]
theorem lookup_delAt_same (l : List (Int × HFile)) (n : Int) : (delAt l n).lookup n = none := by
  unfold delAt
  induction l with
  | nil => simp
  | cons p l ih =>
    rw [List.filter_cons]; split
    · rename_i h; rw [lookup_c, if_neg (by intro e; simp [e] at h)]; exact ih
    · exact ih
theorem lookup_delAt_ne (l : List (Int × HFile)) {n m : Int} (h : m ≠ n) : (delAt l n).lookup m = l.lookup m := by
  unfold delAt
  induction l with
  | nil => simp
  | cons p l ih =>
    rw [List.filter_cons]; split
    · rw [lookup_c, lookup_c, ih]
    · rename_i e
      have e : p.1 = n := by simpa using e
      rw [lookup_c, ih, if_neg (by rw [e]; exact h)]
theorem mem_keys_setAt (l : List (Int × HFile)) (n m : Int) (f : HFile) : m ∈ Keys (setAt l n f) ↔ m = n ∨ m ∈ Keys l := by
  induction l with
  | nil => simp [setAt]
  | cons p l ih =>
    unfold setAt; split
    · rename_i e; subst e; simp
    · simp only [Keys, List.map_cons, List.mem_cons] at ih ⊢; rw [ih]
      constructor
      · rintro (h | h | h) <;> simp [h]
      · rintro (h | h | h) <;> simp [h]
theorem nodup_setAt {l : List (Int × HFile)} (h : (Keys l).Nodup) (n : Int) (f : HFile) : (Keys (setAt l n f)).Nodup := by
  induction l with
  | nil => simp [setAt]
  | cons p l ih =>
    simp only [Keys, List.map_cons, List.nodup_cons] at h
    unfold setAt; split
    · rename_i e; subst e; simpa using h
    · rename_i e
      simp only [Keys, List.map_cons, List.nodup_cons]
      refine ⟨fun hm => ?_, ih h.2⟩
      rcases (mem_keys_setAt l n p.1 f).1 hm with he | hm
      · exact e he
      · exact h.1 hm
theorem nodup_delAt {l : List (Int × HFile)} (h : (Keys l).Nodup) (n : Int) : (Keys (delAt l n)).Nodup :=
  h.sublist ((List.filter_sublist).map _)
theorem mem_keys_delAt (l : List (Int × HFile)) (n m : Int) : m ∈ Keys (delAt l n) ↔ m ≠ n ∧ m ∈ Keys l := by
  simp only [Keys, delAt, List.mem_map, List.mem_filter]
  constructor
  · rintro ⟨p, ⟨hp, hn⟩, rfl⟩; exact ⟨by simpa using hn, p, hp, rfl⟩
  · rintro ⟨hn, p, hp, rfl⟩; exact ⟨p, ⟨hp, by simpa using hn⟩, rfl⟩
theorem mem_keys_iff (l : List (Int × HFile)) (n : Int) : n ∈ Keys l ↔ (l.lookup n).isSome := by
  induction l with
  | nil => simp
  | cons p l ih =>
    simp only [Keys, List.map_cons, List.mem_cons] at ih ⊢
    rw [lookup_c, ih]
    by_cases h : n = p.1
    · simp [h]
    · simp [h]
theorem lookup_none {l : List (Int × HFile)} {n : Int} (h : n ∉ Keys l) : l.lookup n = none := by
  rw [mem_keys_iff] at h
  cases e : l.lookup n with
  | none => rfl
  | some f => rw [e] at h; exact absurd rfl h
def Len (l : List (Int × HFile)) (n : Int) : Nat := ((l.lookup n).map (·.bytes.length)).getD 0
theorem len_c (p : Int × HFile) (l : List (Int × HFile)) (n : Int) : Len (p :: l) n = if n = p.1 then p.2.bytes.length else Len l n := by
  unfold Len; rw [lookup_c]; split <;> simp
theorem used_c (p : Int × HFile) (l : List (Int × HFile)) : Used (p :: l) = p.2.bytes.length + Used l := by simp [Used]
theorem used_setAt (l : List (Int × HFile)) (n : Int) (f : HFile) : Used (setAt l n f) + Len l n = Used l + f.bytes.length := by
  induction l with
  | nil => simp [setAt, Used, Len]
  | cons p l ih =>
    unfold setAt; split
    · rename_i e; subst e; rw [used_c, used_c, len_c, if_pos rfl]; simp only; omega
    · rename_i e
      rw [used_c, used_c, len_c, if_neg (fun h => e h.symm)]; omega
theorem used_delAt {l : List (Int × HFile)} (h : (Keys l).Nodup) (n : Int) : Used (delAt l n) + Len l n = Used l := by
  induction l with
  | nil => simp [delAt, Used, Len]
  | cons p l ih =>
    simp only [Keys, List.map_cons, List.nodup_cons] at h
    have ih := ih h.2
    unfold delAt at ih ⊢
    by_cases e : p.1 = n
    · subst e
      have e2 : (l.filter fun q => q.1 != p.1) = l := by
        apply List.filter_eq_self.2
        intro q hq; simp only [bne_iff_ne, ne_eq]; intro e; apply h.1; rw [← e]; exact List.mem_map.2 ⟨q, hq, rfl⟩
      rw [List.filter_cons, if_neg (by simp), e2, len_c, if_pos rfl, used_c]; omega
    · rw [List.filter_cons, if_pos (by simp [e]), len_c, if_neg (fun h => e h.symm), used_c, used_c]; omega
theorem len_le_used (l : List (Int × HFile)) (n : Int) : Len l n ≤ Used l := by
  induction l with
  | nil => simp [Len]
  | cons p l ih => rw [len_c, used_c]; split <;> omega

/-! ### names -/
theorem mem_insertSorted (x y : Int) (l : List Int) : y ∈ insertSorted x l ↔ y = x ∨ y ∈ l := by
  induction l with
  | nil => simp [insertSorted]
  | cons z l ih =>
    unfold insertSorted; split
    · simp
    · simp only [List.mem_cons, ih]; constructor
      · rintro (h | h | h) <;> simp [h]
      · rintro (h | h | h) <;> simp [h]
theorem mem_sortInts (y : Int) (l : List Int) : y ∈ sortInts l ↔ y ∈ l := by
  induction l with
  | nil => simp [sortInts]
  | cons z l ih => simp only [sortInts, List.foldr_cons] at ih ⊢; rw [mem_insertSorted, ih]; simp
theorem perm_insertSorted (x : Int) (l : List Int) : (insertSorted x l).Perm (x :: l) := by
  induction l with
  | nil => exact .refl _
  | cons y l ih =>
    unfold insertSorted; split
    · exact .refl _
    · exact (ih.cons y).trans (.swap x y l)
theorem perm_sortInts (l : List Int) : (sortInts l).Perm l := by
  induction l with
  | nil => exact .refl _
  | cons y l ih => exact (perm_insertSorted y _).trans (ih.cons y)
theorem pairwise_insertSorted {x : Int} {l : List Int} (h : l.Pairwise (· ≤ ·)) : (insertSorted x l).Pairwise (· ≤ ·) := by
  induction l with
  | nil => simp [insertSorted]
  | cons y l ih =>
    unfold insertSorted; split
    · rename_i hx
      refine List.pairwise_cons.2 ⟨fun z hz => ?_, h⟩
      rcases List.mem_cons.1 hz with rfl | hz
      · exact hx
      · exact Int.le_trans hx ((List.pairwise_cons.1 h).1 z hz)
    · rename_i hx
      refine List.pairwise_cons.2 ⟨fun z hz => ?_, ih (List.pairwise_cons.1 h).2⟩
      rcases (mem_insertSorted x z l).1 hz with rfl | hz
      · omega
      · exact (List.pairwise_cons.1 h).1 z hz
theorem pairwise_sortInts (l : List Int) : (sortInts l).Pairwise (· ≤ ·) := by
  induction l with
  | nil => simp [sortInts]
  | cons y l ih => exact pairwise_insertSorted ih
theorem nodup_names {d : HDisk} (h : (Keys d.files).Nodup) : d.names.Nodup := (perm_sortInts _).nodup_iff.2 h
theorem mem_names (d : HDisk) (n : Int) : n ∈ d.names ↔ (d.find n).isSome := by
  unfold names find; rw [mem_sortInts]; exact mem_keys_iff _ _

/-! ### the deeds -/
/-- The names are told apart; what is safe is there; all has room. -/
structure WF (d : HDisk) : Prop where
  nodup : (Keys d.files).Nodup
  safe : ∀ n f, d.find n = some f → f.safe ≤ f.bytes.length
  room : d.used ≤ d.room
  most : d.room ≤ 262144
theorem find_put_same (d : HDisk) (n : Int) (f : HFile) : (d.put n f).find n = some f := lookup_setAt_same _ _ _
theorem find_put_ne (d : HDisk) {n m : Int} (f : HFile) (h : m ≠ n) : (d.put n f).find m = d.find m := lookup_setAt_ne _ _ h
theorem find_del_same (d : HDisk) (n : Int) : (d.del n).find n = none := lookup_delAt_same _ _
theorem find_del_ne (d : HDisk) {n m : Int} (h : m ≠ n) : (d.del n).find m = d.find m := lookup_delAt_ne _ h
@[simp] theorem find_works (d : HDisk) (n : Int) : d.works.find n = d.find n := rfl
@[simp] theorem used_works (d : HDisk) : d.works.used = d.used := rfl
@[simp] theorem files_works (d : HDisk) : d.works.files = d.files := rfl
@[simp] theorem room_works (d : HDisk) : d.works.room = d.room := rfl
@[simp] theorem room_put (d : HDisk) (n : Int) (f : HFile) : (d.put n f).room = d.room := rfl
@[simp] theorem left_put (d : HDisk) (n : Int) (f : HFile) : (d.put n f).left = d.left := rfl
@[simp] theorem stopped_put (d : HDisk) (n : Int) (f : HFile) : (d.put n f).stopped = d.stopped := rfl
@[simp] theorem room_del (d : HDisk) (n : Int) : (d.del n).room = d.room := rfl
@[simp] theorem left_del (d : HDisk) (n : Int) : (d.del n).left = d.left := rfl
@[simp] theorem stopped_del (d : HDisk) (n : Int) : (d.del n).stopped = d.stopped := rfl
def len (d : HDisk) (n : Int) : Nat := Len d.files n
theorem len_eq (d : HDisk) (n : Int) : d.len n = ((d.find n).map (·.bytes.length)).getD 0 := rfl
theorem len_some {d : HDisk} {n : Int} {f : HFile} (h : d.find n = some f) : d.len n = f.bytes.length := by simp [len_eq, h]
theorem len_none {d : HDisk} {n : Int} (h : d.find n = none) : d.len n = 0 := by simp [len_eq, h]
theorem used_put (d : HDisk) (n : Int) (f : HFile) : (d.put n f).used + d.len n = d.used + f.bytes.length := used_setAt _ _ _
theorem used_del {d : HDisk} (h : (Keys d.files).Nodup) (n : Int) : (d.del n).used + d.len n = d.used := used_delAt h n
theorem len_le (d : HDisk) (n : Int) : d.len n ≤ d.used := len_le_used _ _
/-- A disk that is not armed works on, as it was. -/
theorem works_calm {d : HDisk} (hs : d.stopped = false) (hl : d.left = -1) : d.works = d := by
  cases d; simp only [works] at *; subst hs; subst hl; simp

theorem WF.works {d : HDisk} (h : WF d) : WF d.works := ⟨h.nodup, h.safe, h.room, h.most⟩
theorem WF.put {d : HDisk} (h : WF d) (n : Int) (f : HFile) (hs : f.safe ≤ f.bytes.length) (hr : d.used + f.bytes.length ≤ d.room + d.len n) : WF (d.put n f) :=
  ⟨nodup_setAt h.nodup n f, fun m g hm => by
    by_cases e : m = n
    · subst e; rw [find_put_same] at hm; cases hm; exact hs
    · rw [find_put_ne d f e] at hm; exact h.safe m g hm,
    by have := used_put d n f; simp only [room_put]; omega, h.most⟩
theorem WF.del {d : HDisk} (h : WF d) (n : Int) : WF (d.del n) :=
  ⟨nodup_delAt h.nodup n, fun m g hm => by
    by_cases e : m = n
    · subst e; rw [find_del_same] at hm; cases hm
    · rw [find_del_ne d e] at hm; exact h.safe m g hm,
    by have := used_del h.nodup n; have := h.room; simp only [room_del]; omega, h.most⟩
theorem WF.new (room : Int) : WF (new room) := ⟨by simp [HDisk.new], by simp [HDisk.new, find], by simp [HDisk.new, used], by simp [HDisk.new]; omega⟩
theorem WF.arm {d : HDisk} (h : WF d) (n : Int) : WF (d.arm n) := ⟨h.nodup, h.safe, h.room, h.most⟩
theorem WF.append {d : HDisk} (h : WF d) (n : Int) (b : Bytes) : WF (d.append n b).2 := by
  unfold HDisk.append
  split
  · exact h
  split
  · exact h
  rename_i h1 h2
  refine h.works.put _ _ ?_ ?_
  · cases hf : d.find n with
    | none => simp
    | some f => simp; have := h.safe n f hf; omega
  · cases hf : d.find n with
    | none => simp; omega
    | some f => have := len_some hf; simp [len_eq] at this ⊢; omega
theorem WF.sync {d : HDisk} (h : WF d) (n : Int) : WF (d.sync n).2 := by
  unfold HDisk.sync
  split
  · exact h
  split
  · exact h
  rename_i f hf
  split
  · exact h.works
  · refine h.works.put _ _ (Nat.le_refl _) ?_
    have := len_some hf
    have := h.room
    have e : d.works.len n = d.len n := rfl
    simp only [room_works, used_works] at *; omega
theorem WF.rename {d : HDisk} (h : WF d) (a b : Int) : WF (d.rename a b).2 := by
  unfold HDisk.rename
  split
  · exact h
  split
  · exact h
  rename_i f hf
  split
  · exact h.works
  · refine (h.works.del a).put _ _ (h.safe a f hf) ?_
    have := used_del h.works.nodup a
    have := len_some hf
    have := h.room
    have e : d.works.len a = d.len a := rfl
    simp only [room_del, room_works, used_works] at *; omega
theorem WF.remove {d : HDisk} (h : WF d) (n : Int) : WF (d.remove n).2 := by
  unfold HDisk.remove
  split
  · exact h
  split
  · exact h
  split
  · exact h.works
  · exact h.works.del n
theorem WF.cut {d : HDisk} (h : WF d) (n m : Int) : WF (d.cut n m).2 := by
  unfold HDisk.cut
  split
  · exact h
  split
  · exact h
  rename_i f hf
  split
  · exact h
  split
  · exact h.works
  · rename_i h1 _
    refine h.works.put _ _ (by simp; omega) ?_
    have := len_some hf
    have := h.room
    have e : d.works.len n = d.len n := rfl
    simp only [room_works, used_works, List.length_take] at *; omega
theorem keepOf_safe {keep : Int} {f : HFile} (h : f.safe ≤ f.bytes.length) : (keepOf keep f).safe = (keepOf keep f).bytes.length ∧ f.safe ≤ (keepOf keep f).safe ∧ (keepOf keep f).safe ≤ f.bytes.length := by
  have h1 : 0 ≤ keep % ((f.bytes.length - f.safe : Nat) + 1 : Int) := Int.emod_nonneg _ (by omega)
  have h2 : keep % ((f.bytes.length - f.safe : Nat) + 1 : Int) < ((f.bytes.length - f.safe : Nat) + 1 : Int) := Int.emod_lt_of_pos _ (by omega)
  unfold keepOf; simp only [List.length_take]; omega
theorem lookup_map_snd (g : HFile → HFile) (l : List (Int × HFile)) (n : Int) : (l.map fun p => (p.1, g p.2)).lookup n = (l.lookup n).map g := by
  induction l with
  | nil => simp
  | cons p l ih => rw [List.map_cons, lookup_c, lookup_c, ih]; simp only; split <;> simp
theorem find_restart (d : HDisk) (keep n : Int) : (d.restart keep).find n = (d.find n).map (keepOf keep) := lookup_map_snd _ _ _
theorem WF.restart {d : HDisk} (h : WF d) (keep : Int) : WF (d.restart keep) := by
  refine ⟨?_, ?_, ?_, h.most⟩
  · have : Keys (d.restart keep).files = Keys d.files := by simp [HDisk.restart, Keys]
    rw [this]; exact h.nodup
  · intro n f hf
    rw [find_restart] at hf
    cases hn : d.find n with
    | none => rw [hn] at hf; cases hf
    | some g => rw [hn] at hf; cases hf; exact Nat.le_of_eq (keepOf_safe (h.safe n g hn)).1
  · refine Nat.le_trans ?_ h.room
    simp only [used, HDisk.restart, List.map_map]
    generalize d.files = l
    induction l with
    | nil => simp
    | cons p l ih => simp only [List.map_cons, List.sum_cons, Function.comp]; simp only [keepOf, List.length_take] at ih ⊢; omega
end HDisk
end Hw
