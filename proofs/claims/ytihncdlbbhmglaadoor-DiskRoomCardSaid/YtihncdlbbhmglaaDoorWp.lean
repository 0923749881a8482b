/- Walks: sort.Ints, disk: Names. -/
import Derived.Test.YtihncdlbbhmglaaDoorWo
import Derived.Test.YtihncdlbbhmglaaDoorShelf
import Derived.Sort.OwnSortedInts
namespace Go.Proofs.YtihncdlbbhmglaaDoor
open Go.RowKit Go.Sort
theorem introw : (Tryd.prog.info? 3).map (fun i => (i.zero, i.size, i.bytes)) = some (some (.int .i64 0), 1, 8) := by kernel_rfl
theorem intslice : Tryd.prog.underlying 31 = some (.slice 3) := by kernel_rfl
theorem merge_eq (zs : List Int) : (zs.mergeSort fun x y => decide (x ≤ y)) = Hw.HDisk.sortInts zs := by
  have h1 : (zs.mergeSort fun x y => decide (x ≤ y)).Pairwise (fun x y => decide (x ≤ y) = true) :=
    List.pairwise_mergeSort (fun a b c h1 h2 => by simp at *; omega) (fun a b => by simp; omega) zs
  have h1' : (zs.mergeSort fun x y => decide (x ≤ y)).Pairwise (· ≤ ·) := h1.imp (fun h => by simpa using h)
  have h2 := Hw.HDisk.pairwise_sortInts zs
  exact List.Perm.eq_of_pairwise (fun a b _ _ h1 h2 => Int.le_antisymm h1 h2) h1' h2 ((List.mergeSort_perm zs _).trans (Hw.HDisk.perm_sortInts zs).symm)
/-- The sort over a slice of one's own. -/
theorem sort_own (base : Nat) (v : Value) (zs : List Int) (w : World) (hown : w.ownsRow base 3 1 v zs.length (i64s zs)) (hl : zs.length < 4611686018427387904) :
    Calls Tryd.prog 34 #[v] w fun e w' => e = .returned (.tuple #[]) ∧ w'.ownsRow base 3 1 v zs.length (i64s (Hw.HDisk.sortInts zs)) ∧ w.grownBy w' v.ownBlock := by
  rcases hown.2 with ⟨rfl, hn⟩ | ⟨g, cap, cur, rfl, hb, hg, h1, h2, h3, h4⟩
  · have hz : zs = [] := List.eq_nil_of_length_eq_zero hn
    subst hz
    exact (Tryd.sort_Ints_none none 0 w).mono fun e w' ⟨h1, h2⟩ => ⟨h1, by rw [h2]; exact hown, by rw [h2]; exact ⟨rfl, rfl, rfl, Nat.le_refl _, fun _ _ _ => rfl⟩⟩
  · have hH : Holds (Value.int .i64) w g 0 zs.toArray := by
      refine holds_of_blockI hg ?_
      rw [Nat.mul_one] at h4; exact h4
    refine (Tryd.sort_Ints g 0 cap zs w hH (blk_lt hg) hl).mono fun e w' ⟨q1, n, os, q2⟩ => ⟨q1, ?_, ?_⟩
    · rw [q2, merge_eq]
      exact ownsRow_sortedI (ss := zs) (by exact (Hw.HDisk.perm_sortInts zs).length_eq) hb hg h1 h2 h3
    · rw [q2]; exact grownBy_sortedI _

def NamesRet (ns : List Int) (w : World) (e : Ending) (w' : World) : Prop :=
  ∃ v', e = .returned v' ∧ w'.ownsRow w.heap.size 3 1 v' ns.length (i64s ns) ∧ Below w.heap.size w w'
structure NamesRel (w : World) (bm clock : Nat) (Fs : List FE) (seen : Array Nat) (ks : List Int) (t3 : Value) (wr : World) : Prop where
  iter : IterAt wr w.heap.size bm clock seen
  own : wr.ownsRow (w.heap.size + 1) 3 1 t3 ks.length (i64s ks)
  bel : Below w.heap.size w wr
  siz : w.heap.size + 1 ≤ wr.heap.size
  nod : ks.Nodup
  mem : ∀ k, k ∈ ks ↔ ∃ x ∈ Fs, x.born ∈ seen ∧ x.name = k
  len : ks.length ≤ Fs.length
theorem nodup_le : ∀ {ks ns : List Int}, ks.Nodup → (∀ k ∈ ks, k ∈ ns) → ks.length ≤ ns.length := by
  intro ks
  induction ks with
  | nil => intro ns _ _; simp
  | cons k ks ih =>
    intro ns hn hs
    have hn := List.nodup_cons.1 hn
    have hk : k ∈ ns := hs k (by simp)
    have := ih (ns := ns.erase k) hn.2 (fun z hz => (List.mem_erase_of_ne (fun e => hn.1 (by rw [← e]; exact hz))).2 (hs z (by simp [hz])))
    rw [List.length_erase_of_mem hk] at this
    have := List.length_pos_of_mem hk
    simp; omega
theorem nodup_len {ks : List Int} {Fs : List FE} (h : ks.Nodup) (hm : ∀ k ∈ ks, ∃ x ∈ Fs, x.name = k) : ks.length ≤ Fs.length := by
  have : ks.length ≤ (Fs.map (·.name)).length := by
    have hs : ∀ k ∈ ks, k ∈ Fs.map (·.name) := fun k hk => by obtain ⟨x, hx, e⟩ := hm k hk; exact List.mem_map.2 ⟨x, hx, e⟩
    exact nodup_le h hs
  simpa using this
theorem IterAt.grown {w w1 : World} {r bm clock : Nat} {seen : Array Nat} {row : Option Nat} (h : IterAt w r bm clock seen) (hg : w.grownBy w1 row) (hr : row ≠ some r) : IterAt w1 r bm clock seen :=
  (hg.block r (blk_lt h) (fun e => hr e.symm)).trans h
theorem NamesRel.next {w wr w1 w2 : World} {p : Nat} {d : Hw.HDisk} {F : Nat → Prop} {bm clock : Nat} {Fs : List FE} {seen : Array Nat} {ks : List Int} {t3 v1 : Value} {y : FE} (hd : DiskAt w p d F bm clock Fs) (h : NamesRel w bm clock Fs seen ks t3 wr) (h1 : w1 = wr ∨ w1 = wr.drew) (hy : y ∈ Fs) (hs : y.born ∉ seen)
    (o1 : w2.ownsRow (w.heap.size + 1) 3 1 v1 (ks.length + 1) (i64s ks ++ [.int .i64 y.name])) (g1 : ((withIter w1 w.heap.size bm clock (seen.push y.born)).alloc (.cells #[.int .i64 y.name] 3)).grownBy w2 t3.ownBlock) :
    NamesRel w bm clock Fs (seen.push y.born) (ks ++ [y.name]) v1 w2 := by
  obtain ⟨hi2, hb2⟩ := iter_step h.iter h.bel h1 (seen.push y.born)
  have hsz : w1.heap.size = wr.heap.size := by rcases h1 with rfl | rfl <;> rfl
  have hlow : ∀ k, t3.ownBlock = some k → w.heap.size + 1 ≤ k := fun k hk => (h.own.lt k hk).1
  have hne : t3.ownBlock ≠ some w.heap.size := fun e => by have := hlow _ e; omega
  have hnod : (ks ++ [y.name]).Nodup := by
    rw [List.nodup_append]
    refine ⟨h.nod, by simp, ?_⟩
    intro a ha b hb e
    simp only [List.mem_singleton] at hb
    obtain ⟨x, hx, hxs, hxn⟩ := (h.mem a).1 ha
    have : x = y := inj_of_nodup _ hd.names hx hy (hxn.trans (e.trans hb))
    exact hs (this ▸ hxs)
  have hmem : ∀ k, k ∈ ks ++ [y.name] ↔ ∃ x ∈ Fs, x.born ∈ seen.push y.born ∧ x.name = k := by
    intro k
    rw [List.mem_append, h.mem]
    have hb' : (Fs.map (·.born)).Nodup := by have := hd.mp.borns; rwa [born_fme] at this
    constructor
    · rintro (⟨x, hx, h1, h2⟩ | h1)
      · exact ⟨x, hx, by simp [h1], h2⟩
      · simp only [List.mem_singleton] at h1; exact ⟨y, hy, by simp, h1.symm⟩
    · rintro ⟨x, hx, h1, h2⟩
      rcases Array.mem_push.1 h1 with h1 | h1
      · exact .inl ⟨x, hx, h1, h2⟩
      · right; rw [inj_of_nodup _ hb' hx hy h1] at h2; simp [h2]
  refine ⟨?_, by simpa [i64s] using o1, ?_, ?_, hnod, hmem, nodup_len hnod (fun k hk => by obtain ⟨x, hx, _, e⟩ := (hmem k).1 hk; exact ⟨x, hx, e⟩)⟩
  · exact IterAt.grown (by rw [IterAt, Below.heap_alloc _ _ _ (blk_lt hi2)]; exact hi2) g1 hne
  · refine (hb2.trans ((below_new _ _).mono (hb2.size))).trans ((Below.refl _ _).grown g1 (by have := hb2.size; simp; omega) (fun k hk => by have := hlow k hk; omega))
  · have := g1.size
    have h3 : (withIter w1 w.heap.size bm clock (seen.push y.born)).heap.size = w1.heap.size := by simp [withIter, Go.ChangeMaps.setBlock]
    have := h.siz
    simp [h3] at *; omega
theorem NamesRel.done {w wr : World} {p : Nat} {d : Hw.HDisk} {F : Nat → Prop} {bm clock : Nat} {Fs : List FE} {seen : Array Nat} {ks : List Int} {t3 : Value} (hd : DiskAt w p d F bm clock Fs) (h : NamesRel w bm clock Fs seen ks t3 wr) (hall : AllSeen (Fs.map fme) seen) :
    Hw.HDisk.sortInts ks = d.names := by
  have hp : ks.Perm (Fs.map (·.name)) := by
    rw [List.perm_ext_iff_of_nodup h.nod hd.names]
    intro k
    rw [h.mem, List.mem_map]
    constructor
    · rintro ⟨x, hx, _, e⟩; exact ⟨x, hx, e⟩
    · rintro ⟨x, hx, e⟩; exact ⟨x, hx, hall.out (fme x) (List.mem_map.2 ⟨x, hx, rfl⟩), e⟩
  have hn : d.names = Hw.HDisk.sortInts (Fs.map (·.name)) := by unfold Hw.HDisk.names; rw [hd.files, List.map_map]; rfl
  rw [hn]
  exact List.Perm.eq_of_pairwise (fun a b _ _ h1 h2 => Int.le_antisymm h1 h2) (Hw.HDisk.pairwise_sortInts _) (Hw.HDisk.pairwise_sortInts _) (((Hw.HDisk.perm_sortInts ks).trans hp).trans (Hw.HDisk.perm_sortInts _).symm)
theorem comes_size {w w1 : World} (h : w1 = w ∨ w1 = w.drew) : w1.heap.size = w.heap.size := by rcases h with rfl | rfl <;> rfl
theorem own_comes {w w1 : World} (h : w1 = w ∨ w1 = w.drew) (r bm clock : Nat) (s' : Array Nat) : Upd (fun n => n = r) w (withIter w1 r bm clock s') := by
  have h0 : Upd (fun n => n = r) w w1 := by rcases h with rfl | rfl; exact Upd.refl _ _; exact (Upd.refl _ _).drew
  exact h0.trans (withIter_upd w1 r bm clock s') (fun _ _ h => h)
theorem names_less {w wr w3 : World} {bm clock : Nat} {Fs : List FE} {seen s' : Array Nat} {ks' : List Int} {v1 : Value} {l : List ME} {n1 : Nat} (h : wr.rangeLeft bm w.heap.size = leftN l seen ∧ n1 = leftN l s') (hlt : leftN l s' < leftN l seen)
    (hm : MapIs w bm l clock) (hn : NamesRel w bm clock Fs s' ks' v1 w3) : w3.rangeLeft bm w.heap.size < wr.rangeLeft bm w.heap.size := by
  rw [h.1, rangeLeft_eq (hm.below' hn.bel) hn.iter]; exact hlt
theorem own_base {w : World} {base base' size n : Nat} {e : TypeId} {v : Value} {xs : List Value} (h : w.ownsRow base e size v n xs) (hb : base' ≤ base) : w.ownsRow base' e size v n xs := by
  refine ⟨h.1, ?_⟩
  rcases h.2 with h | ⟨g, cap, cur, h1, h2, h3⟩
  · exact .inl h
  · exact .inr ⟨g, cap, cur, h1, by omega, h3⟩
set_option maxRecDepth 100000 in
set_option maxHeartbeats 800000 in
theorem disk_Names (p : Nat) (d : Hw.HDisk) (F : Nat → Prop) (w : World) (h : IsDisk w p d F) (hlen : d.files.length ≤ 1000000000) :
    Calls Tryd.prog 12 #[.pointer (some ⟨p, 0, none⟩)] w (NamesRet d.names w) := by
  obtain ⟨i0, hi, hz0, hz1, hz2⟩ := info_parts introw
  obtain ⟨bm, clock, Fs, h⟩ := h
  have c0 : w.cell? ⟨p, 0, none⟩ = some (.map (some bm)) := h.cell0
  have hFl : Fs.length ≤ 1000000000 := by rw [h.files] at hlen; simpa using hlen
  have H := Lib.hid h; clear h hlen
  go_enter Tryd.func12, Tryd.ntmps12
  go_wp2_with (at_range; refine wpRange rfl _ rfl dmap H.out.mp rfl ?_)
  go_frame
  go_loopw [3] (fun t3 wr => ∃ seen ks, NamesRel w bm clock Fs seen ks t3 wr) (fun _ wr => wr.rangeLeft bm w.heap.size)
  case atStart => exact ⟨#[], [], iter_new _ _ _, World.ownsRow_nil _ _ _ _, below_new _ _, by simp, by simp, by simp, by simp⟩
  case round =>
    obtain ⟨seen, ks, hr⟩ := hrel
    have HM := Lib.hid (H.out.mp.below' hr.bel)
    have hkl : ks.length ≤ 1000000000 := Nat.le_trans hr.len hFl
    have hws := hr.siz
    have HR := Lib.hid hr; clear hr
    go_wp2_with (at_next; refine wpNext rfl _ rfl HM.out HR.out.iter rfl ?_ ?_)
    · intro hall
      have hsum := HR.out.done H.out hall
      have HS := Lib.hid hsum; clear hsum hall
      go_wp2_with (go_at_call 34; refine (sort_own _ _ ks _ HR.out.own (by omega)).mono ?_; rintro e w2 ⟨rfl, o2, g2⟩; have HO := Lib.hid (And.intro o2 g2); clear o2 g2)
      go_ret
      have ho := HO.out.1
      rw [HS.out] at ho
      have hlen : ks.length = d.names.length := by rw [← HS.out]; exact (Hw.HDisk.perm_sortInts ks).length_eq.symm
      rw [hlen] at ho
      exact ⟨_, rfl, own_base ho (by omega), HR.out.bel.trans ((Below.refl _ _).grown HO.out.2 (by omega) (fun k hk => by have := (HR.out.own.lt k hk).1; omega))⟩
    · intro x w1 hcome
      obtain ⟨h1, hx, hs⟩ := hcome
      obtain ⟨y, hy, rfl⟩ := List.mem_map.1 hx
      obtain ⟨hi2, hb2⟩ := iter_step HR.out.iter HR.out.bel h1 (seen.push (fme y).born)
      have hlt := leftN_push hs hx
      have hm2 := H.out.mp.below' hb2
      have HLT := Lib.hid hlt; clear hlt
      have hen := run_entry_map (P := Tryd.prog) hm2 hx hi2
      have hsz1 := comes_size h1
      have hown2 := own_upd HR.out.own (own_comes h1 (w.heap.size) bm clock (seen.push (fme y).born)) (fun k hk e => by have := (HR.out.own.lt k hk).1; omega)
      have hit2 := rangeLeft_eq hm2 hi2
      have hit1 := rangeLeft_eq HM.out HR.out.iter
      have HIT := Lib.hid (And.intro hit1 hit2)
      have H1 := Lib.hid (And.intro h1 hs)
      have HOWN := Lib.hid hown2
      have HIB := Lib.hid (And.intro hi2 (And.intro hb2 hm2))
      clear hi2 hb2 hm2 hs h1 hx hit1 hit2 hown2
      simp only [fme] at *
      go_wp2_with (at_builtin; refine wpAppend _ rfl _ _ 31 rfl (w.heap.size + 1) 3 i0 (.int .i64 0) 1 8 intslice hi hz0 hz1 hz2 rfl (by decide) _ _ _ rfl (HOWN.out.alloc _) (fun _ => False) _ 1 _ rfl (RdC.made _ 1 1 _ _ rfl (by decide) (fun h => h)) ?_ ?_ ?_ ?_ ?_)

      · simp [Value.oneCell']
      · unfold maxLen; omega
      · omega
      · have := HIB.out.2.1.size; simp [withIter, Go.ChangeMaps.setBlock] at this ⊢; omega
      · intro v1 w2 o1 g1 a1
        have hn := HR.out.next H.out H1.out.1 hy H1.out.2 (by simpa using o1) g1
        have hlt2 := names_less HIT.out HLT.out H.out.mp hn
        have HN := Lib.hid (And.intro hn hlt2)
        clear o1 g1 a1 hn hlt2
        go_wp2_with fail
        go_roundw
        case rel => exact ⟨_, _, HN.out.1⟩
        case measure => exact HN.out.2
end Go.Proofs.YtihncdlbbhmglaaDoor
