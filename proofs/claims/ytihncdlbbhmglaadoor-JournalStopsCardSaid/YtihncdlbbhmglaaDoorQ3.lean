/- Texts that build together: Wp Wq Ra Lf Wr Ws Wt Wu Wv Ww Wx Wy Wz Lg Lh Rf Li Lj. -/
import Derived.Sort.OwnSortedInts
import Derived.ChangeAlike
import Derived.Laws.BytesArg
import Derived.Lib.SlBytesConst
import Derived.Lib.BufferRead
import Derived.Test.YtihncdlbbhmglaaDoorQ2
import Derived.Test.YtihncdlbbhmglaaDoorShelf
import Derived.Test.YtihncdlbbhmglaaDoorQ1
import Derived.Test.YtihncdlbbhmglaaDoorQ0
set_option linter.unusedVariables false
set_option linter.unusedSimpArgs false
/- Walks: sort.Ints, disk: Names. -/
namespace Go.Proofs.YtihncdlbbhmglaaDoor
open Go.RowKit Go.Sort
theorem introw : (Tryd.prog.info? 3).map (fun i => (i.zero, i.size, i.bytes)) = some (some (.int .i64 0), 1, 8) := by kernel_rfl
theorem intslice : Tryd.prog.underlying 31 = some (.slice 3) := by kernel_rfl
theorem merge_eq (zs : List Int) : (zs.mergeSort fun x y => decide (x ≤ y)) = Hw.HDisk.sortInts zs := by
  have h1 : (zs.mergeSort fun x y => decide (x ≤ y)).Pairwise (fun x y => decide (x ≤ y) = true) :=
    List.pairwise_mergeSort (fun a b c h1 h2 => by simp at *; omega) (fun a b => by simp; omega) zs
  have h1' : (zs.mergeSort fun x y => decide (x ≤ y)).Pairwise (· ≤ ·) := h1.imp (fun h => by simpa using h)
  have h2 := Hw.HDisk.pairwise_sortInts zs
  exact List.Perm.eq_of_pairwise (fun a b _ _ h1 h2 => Int.le_antisymm h1 h2) h1' h2 ((List.mergeSort_perm zs _).trans (Hw.HDisk.perm_sortInts zs).symm)
/-- The sort over a slice of one's own. -/
theorem sort_own (base : Nat) (v : Value) (zs : List Int) (w : World) (hown : w.ownsRow base 3 1 v zs.length (i64s zs)) (hl : zs.length < 4611686018427387904) :
    Calls Tryd.prog 34 #[v] w fun e w' => e = .returned (.tuple #[]) ∧ w'.ownsRow base 3 1 v zs.length (i64s (Hw.HDisk.sortInts zs)) ∧ w.grownBy w' v.ownBlock := by
  rcases hown.2 with ⟨rfl, hn⟩ | ⟨g, cap, cur, rfl, hb, hg, h1, h2, h3, h4⟩
  · have hz : zs = [] := List.eq_nil_of_length_eq_zero hn
    subst hz
    exact (Tryd.sort_Ints_none none 0 w).mono fun e w' ⟨h1, h2⟩ => ⟨h1, by rw [h2]; exact hown, by rw [h2]; exact ⟨rfl, rfl, rfl, Nat.le_refl _, fun _ _ _ => rfl⟩⟩
  · have hH : Holds (Value.int .i64) w g 0 zs.toArray := by
      refine holds_of_blockI hg ?_
      rw [Nat.mul_one] at h4; exact h4
    refine (Tryd.sort_Ints g 0 cap zs w hH (blk_lt hg) hl).mono fun e w' ⟨q1, n, os, q2⟩ => ⟨q1, ?_, ?_⟩
    · rw [q2, merge_eq]
      exact ownsRow_sortedI (ss := zs) (by exact (Hw.HDisk.perm_sortInts zs).length_eq) hb hg h1 h2 h3
    · rw [q2]; exact grownBy_sortedI _

def NamesRet (ns : List Int) (w : World) (e : Ending) (w' : World) : Prop :=
  ∃ v', e = .returned v' ∧ w'.ownsRow w.heap.size 3 1 v' ns.length (i64s ns) ∧ Below w.heap.size w w'
structure NamesRel (w : World) (bm clock : Nat) (Fs : List FE) (seen : Array Nat) (ks : List Int) (t3 : Value) (wr : World) : Prop where
  iter : IterAt wr w.heap.size bm clock seen
  own : wr.ownsRow (w.heap.size + 1) 3 1 t3 ks.length (i64s ks)
  bel : Below w.heap.size w wr
  siz : w.heap.size + 1 ≤ wr.heap.size
  nod : ks.Nodup
  mem : ∀ k, k ∈ ks ↔ ∃ x ∈ Fs, x.born ∈ seen ∧ x.name = k
  len : ks.length ≤ Fs.length
theorem nodup_le : ∀ {ks ns : List Int}, ks.Nodup → (∀ k ∈ ks, k ∈ ns) → ks.length ≤ ns.length := by
  intro ks
  induction ks with
  | nil => intro ns _ _; simp
  | cons k ks ih =>
    intro ns hn hs
    have hn := List.nodup_cons.1 hn
    have hk : k ∈ ns := hs k (by simp)
    have := ih (ns := ns.erase k) hn.2 (fun z hz => (List.mem_erase_of_ne (fun e => hn.1 (by rw [← e]; exact hz))).2 (hs z (by simp [hz])))
    rw [List.length_erase_of_mem hk] at this
    have := List.length_pos_of_mem hk
    simp; omega
theorem nodup_len {ks : List Int} {Fs : List FE} (h : ks.Nodup) (hm : ∀ k ∈ ks, ∃ x ∈ Fs, x.name = k) : ks.length ≤ Fs.length := by
  have : ks.length ≤ (Fs.map (·.name)).length := by
    have hs : ∀ k ∈ ks, k ∈ Fs.map (·.name) := fun k hk => by obtain ⟨x, hx, e⟩ := hm k hk; exact List.mem_map.2 ⟨x, hx, e⟩
    exact nodup_le h hs
  simpa using this
theorem IterAt.grown {w w1 : World} {r bm clock : Nat} {seen : Array Nat} {row : Option Nat} (h : IterAt w r bm clock seen) (hg : w.grownBy w1 row) (hr : row ≠ some r) : IterAt w1 r bm clock seen :=
  (hg.block r (blk_lt h) (fun e => hr e.symm)).trans h
theorem NamesRel.next {w wr w1 w2 : World} {p : Nat} {d : Hw.HDisk} {F : Nat → Prop} {bm clock : Nat} {Fs : List FE} {seen : Array Nat} {ks : List Int} {t3 v1 : Value} {y : FE} (hd : DiskAt w p d F bm clock Fs) (h : NamesRel w bm clock Fs seen ks t3 wr) (h1 : w1 = wr ∨ w1 = wr.drew) (hy : y ∈ Fs) (hs : y.born ∉ seen)
    (o1 : w2.ownsRow (w.heap.size + 1) 3 1 v1 (ks.length + 1) (i64s ks ++ [.int .i64 y.name])) (g1 : ((withIter w1 w.heap.size bm clock (seen.push y.born)).alloc (.cells #[.int .i64 y.name] 3)).grownBy w2 t3.ownBlock) :
    NamesRel w bm clock Fs (seen.push y.born) (ks ++ [y.name]) v1 w2 := by
  obtain ⟨hi2, hb2⟩ := iter_step h.iter h.bel h1 (seen.push y.born)
  have hsz : w1.heap.size = wr.heap.size := by rcases h1 with rfl | rfl <;> rfl
  have hlow : ∀ k, t3.ownBlock = some k → w.heap.size + 1 ≤ k := fun k hk => (h.own.lt k hk).1
  have hne : t3.ownBlock ≠ some w.heap.size := fun e => by have := hlow _ e; omega
  have hnod : (ks ++ [y.name]).Nodup := by
    rw [List.nodup_append]
    refine ⟨h.nod, by simp, ?_⟩
    intro a ha b hb e
    simp only [List.mem_singleton] at hb
    obtain ⟨x, hx, hxs, hxn⟩ := (h.mem a).1 ha
    have : x = y := inj_of_nodup _ hd.names hx hy (hxn.trans (e.trans hb))
    exact hs (this ▸ hxs)
  have hmem : ∀ k, k ∈ ks ++ [y.name] ↔ ∃ x ∈ Fs, x.born ∈ seen.push y.born ∧ x.name = k := by
    intro k
    rw [List.mem_append, h.mem]
    have hb' : (Fs.map (·.born)).Nodup := by have := hd.mp.borns; rwa [born_fme] at this
    constructor
    · rintro (⟨x, hx, h1, h2⟩ | h1)
      · exact ⟨x, hx, by simp [h1], h2⟩
      · simp only [List.mem_singleton] at h1; exact ⟨y, hy, by simp, h1.symm⟩
    · rintro ⟨x, hx, h1, h2⟩
      rcases Array.mem_push.1 h1 with h1 | h1
      · exact .inl ⟨x, hx, h1, h2⟩
      · right; rw [inj_of_nodup _ hb' hx hy h1] at h2; simp [h2]
  refine ⟨?_, by simpa [i64s] using o1, ?_, ?_, hnod, hmem, nodup_len hnod (fun k hk => by obtain ⟨x, hx, _, e⟩ := (hmem k).1 hk; exact ⟨x, hx, e⟩)⟩
  · exact IterAt.grown (by rw [IterAt, Below.heap_alloc _ _ _ (blk_lt hi2)]; exact hi2) g1 hne
  · refine (hb2.trans ((below_new _ _).mono (hb2.size))).trans ((Below.refl _ _).grown g1 (by have := hb2.size; simp; omega) (fun k hk => by have := hlow k hk; omega))
  · have := g1.size
    have h3 : (withIter w1 w.heap.size bm clock (seen.push y.born)).heap.size = w1.heap.size := by simp [withIter, Go.ChangeMaps.setBlock]
    have := h.siz
    simp [h3] at *; omega
theorem NamesRel.done {w wr : World} {p : Nat} {d : Hw.HDisk} {F : Nat → Prop} {bm clock : Nat} {Fs : List FE} {seen : Array Nat} {ks : List Int} {t3 : Value} (hd : DiskAt w p d F bm clock Fs) (h : NamesRel w bm clock Fs seen ks t3 wr) (hall : AllSeen (Fs.map fme) seen) :
    Hw.HDisk.sortInts ks = d.names := by
  have hp : ks.Perm (Fs.map (·.name)) := by
    rw [List.perm_ext_iff_of_nodup h.nod hd.names]
    intro k
    rw [h.mem, List.mem_map]
    constructor
    · rintro ⟨x, hx, _, e⟩; exact ⟨x, hx, e⟩
    · rintro ⟨x, hx, e⟩; exact ⟨x, hx, hall.out (fme x) (List.mem_map.2 ⟨x, hx, rfl⟩), e⟩
  have hn : d.names = Hw.HDisk.sortInts (Fs.map (·.name)) := by unfold Hw.HDisk.names; rw [hd.files, List.map_map]; rfl
  rw [hn]
  exact List.Perm.eq_of_pairwise (fun a b _ _ h1 h2 => Int.le_antisymm h1 h2) (Hw.HDisk.pairwise_sortInts _) (Hw.HDisk.pairwise_sortInts _) (((Hw.HDisk.perm_sortInts ks).trans hp).trans (Hw.HDisk.perm_sortInts _).symm)
theorem comes_size {w w1 : World} (h : w1 = w ∨ w1 = w.drew) : w1.heap.size = w.heap.size := by rcases h with rfl | rfl <;> rfl
theorem own_comes {w w1 : World} (h : w1 = w ∨ w1 = w.drew) (r bm clock : Nat) (s' : Array Nat) : Upd (fun n => n = r) w (withIter w1 r bm clock s') := by
  have h0 : Upd (fun n => n = r) w w1 := by rcases h with rfl | rfl; exact Upd.refl _ _; exact (Upd.refl _ _).drew
  exact h0.trans (withIter_upd w1 r bm clock s') (fun _ _ h => h)
theorem names_less {w wr w3 : World} {bm clock : Nat} {Fs : List FE} {seen s' : Array Nat} {ks' : List Int} {v1 : Value} {l : List ME} {n1 : Nat} (h : wr.rangeLeft bm w.heap.size = leftN l seen ∧ n1 = leftN l s') (hlt : leftN l s' < leftN l seen)
    (hm : MapIs w bm l clock) (hn : NamesRel w bm clock Fs s' ks' v1 w3) : w3.rangeLeft bm w.heap.size < wr.rangeLeft bm w.heap.size := by
  rw [h.1, rangeLeft_eq (hm.below' hn.bel) hn.iter]; exact hlt
theorem own_base {w : World} {base base' size n : Nat} {e : TypeId} {v : Value} {xs : List Value} (h : w.ownsRow base e size v n xs) (hb : base' ≤ base) : w.ownsRow base' e size v n xs := by
  refine ⟨h.1, ?_⟩
  rcases h.2 with h | ⟨g, cap, cur, h1, h2, h3⟩
  · exact .inl h
  · exact .inr ⟨g, cap, cur, h1, by omega, h3⟩
set_option maxRecDepth 100000 in
set_option maxHeartbeats 800000 in
theorem disk_Names (p : Nat) (d : Hw.HDisk) (F : Nat → Prop) (w : World) (h : IsDisk w p d F) (hlen : d.files.length ≤ 1000000000) :
    Calls Tryd.prog 12 #[.pointer (some ⟨p, 0, none⟩)] w (NamesRet d.names w) := by
  obtain ⟨i0, hi, hz0, hz1, hz2⟩ := info_parts introw
  obtain ⟨bm, clock, Fs, h⟩ := h
  have c0 : w.cell? ⟨p, 0, none⟩ = some (.map (some bm)) := h.cell0
  have hFl : Fs.length ≤ 1000000000 := by rw [h.files] at hlen; simpa using hlen
  have H := Lib.hid h; clear h hlen
  go_enter Tryd.func12, Tryd.ntmps12
  go_wp2_with (at_range; refine wpRange rfl _ rfl dmap H.out.mp rfl ?_)
  go_frame
  go_loopw [3] (fun t3 wr => ∃ seen ks, NamesRel w bm clock Fs seen ks t3 wr) (fun _ wr => wr.rangeLeft bm w.heap.size)
  case atStart => exact ⟨#[], [], iter_new _ _ _, World.ownsRow_nil _ _ _ _, below_new _ _, by simp, by simp, by simp, by simp⟩
  case round =>
    obtain ⟨seen, ks, hr⟩ := hrel
    have HM := Lib.hid (H.out.mp.below' hr.bel)
    have hkl : ks.length ≤ 1000000000 := Nat.le_trans hr.len hFl
    have hws := hr.siz
    have HR := Lib.hid hr; clear hr
    go_wp2_with (at_next; refine wpNext rfl _ rfl HM.out HR.out.iter rfl ?_ ?_)
    · intro hall
      have hsum := HR.out.done H.out hall
      have HS := Lib.hid hsum; clear hsum hall
      go_wp2_with (go_at_call 34; refine (sort_own _ _ ks _ HR.out.own (by omega)).mono ?_; rintro e w2 ⟨rfl, o2, g2⟩; have HO := Lib.hid (And.intro o2 g2); clear o2 g2)
      go_ret
      have ho := HO.out.1
      rw [HS.out] at ho
      have hlen : ks.length = d.names.length := by rw [← HS.out]; exact (Hw.HDisk.perm_sortInts ks).length_eq.symm
      rw [hlen] at ho
      exact ⟨_, rfl, own_base ho (by omega), HR.out.bel.trans ((Below.refl _ _).grown HO.out.2 (by omega) (fun k hk => by have := (HR.out.own.lt k hk).1; omega))⟩
    · intro x w1 hcome
      obtain ⟨h1, hx, hs⟩ := hcome
      obtain ⟨y, hy, rfl⟩ := List.mem_map.1 hx
      obtain ⟨hi2, hb2⟩ := iter_step HR.out.iter HR.out.bel h1 (seen.push (fme y).born)
      have hlt := leftN_push hs hx
      have hm2 := H.out.mp.below' hb2
      have HLT := Lib.hid hlt; clear hlt
      have hen := run_entry_map (P := Tryd.prog) hm2 hx hi2
      have hsz1 := comes_size h1
      have hown2 := own_upd HR.out.own (own_comes h1 (w.heap.size) bm clock (seen.push (fme y).born)) (fun k hk e => by have := (HR.out.own.lt k hk).1; omega)
      have hit2 := rangeLeft_eq hm2 hi2
      have hit1 := rangeLeft_eq HM.out HR.out.iter
      have HIT := Lib.hid (And.intro hit1 hit2)
      have H1 := Lib.hid (And.intro h1 hs)
      have HOWN := Lib.hid hown2
      have HIB := Lib.hid (And.intro hi2 (And.intro hb2 hm2))
      clear hi2 hb2 hm2 hs h1 hx hit1 hit2 hown2
      simp only [fme] at *
      go_wp2_with (at_builtin; refine wpAppend _ rfl _ _ 31 rfl (w.heap.size + 1) 3 i0 (.int .i64 0) 1 8 intslice hi hz0 hz1 hz2 rfl (by decide) _ _ _ rfl (HOWN.out.alloc _) (fun _ => False) _ 1 _ rfl (RdC.made _ 1 1 _ _ rfl (by decide) (fun h => h)) ?_ ?_ ?_ ?_ ?_)

      · simp [Value.oneCell']
      · unfold maxLen; omega
      · omega
      · have := HIB.out.2.1.size; simp [withIter, Go.ChangeMaps.setBlock] at this ⊢; omega
      · intro v1 w2 o1 g1 a1
        have hn := HR.out.next H.out H1.out.1 hy H1.out.2 (by simpa using o1) g1
        have hlt2 := names_less HIT.out HLT.out H.out.mp hn
        have HN := Lib.hid (And.intro hn hlt2)
        clear o1 g1 a1 hn hlt2
        go_wp2_with fail
        go_roundw
        case rel => exact ⟨_, _, HN.out.1⟩
        case measure => exact HN.out.2
end Go.Proofs.YtihncdlbbhmglaaDoor

/- Walks: disk: Restart. -/
namespace Go.Proofs.YtihncdlbbhmglaaDoor
open Go.RowKit
structure RestRel (w : World) (bm clock : Nat) (Fs : List FE) (keep : Int) (seen : Array Nat) (wr : World) : Prop where
  iter : IterAt wr w.heap.size bm clock seen
  upd : Upd (fun b => ∃ x ∈ Fs, b = x.bf) w wr
  each : ∀ x ∈ Fs, FileAt wr x.bf x.row (if x.born ∈ seen then Hw.HDisk.keepOf keep x.file else x.file)
theorem rest_start {w : World} {p : Nat} {d : Hw.HDisk} {F : Nat → Prop} {bm clock : Nat} {Fs : List FE} (h : DiskAt w p d F bm clock Fs) (keep : Int) : RestRel w bm clock Fs keep #[] (w.alloc (.mapIter (some bm) clock #[] clock)) :=
  ⟨iter_new _ _ _, Upd.of_below (below_new _ _), fun x hx => by simpa using (h.each x hx).below (below_new _ _)⟩
theorem rest_map {w wr : World} {p : Nat} {d : Hw.HDisk} {F : Nat → Prop} {bm clock : Nat} {Fs : List FE} {keep : Int} {seen : Array Nat} (h : DiskAt w p d F bm clock Fs) (hr : RestRel w bm clock Fs keep seen wr) : MapIs wr bm (Fs.map fme) clock :=
  h.mp.upd hr.upd (by rintro ⟨x, hx, e⟩; exact (h.each x hx).ne_map h.mp.blk e)
theorem keepOf_take (keep : Int) (f : Hw.HFile) (N : Nat) (hN : (N : Int) = f.safe + keep % ((f.bytes.length - f.safe : Nat) + 1 : Int)) : Hw.HDisk.keepOf keep f = ⟨f.bytes.take N, N⟩ := by
  have : N = f.safe + (keep % ((f.bytes.length - f.safe : Nat) + 1 : Int)).toNat := by
    have := Int.emod_nonneg keep (show ((f.bytes.length - f.safe : Nat) + 1 : Int) ≠ 0 by omega); omega
  unfold Hw.HDisk.keepOf; rw [this]
theorem tmod_neg {a m : Int} (hm : 0 < m) (h : a.tmod m < 0) : a % m = a.tmod m + m := by
  have h1 := Int.emod_nonneg a (show m ≠ 0 by omega)
  have h2 := Int.emod_lt_of_pos a hm
  have h3 := Int.tmod_lt_of_pos a hm
  have h4 : a.tmod m % m = a % m := Int.emod_emod_of_dvd a (Int.dvd_refl m) ▸ by rw [Int.tmod_def, Int.sub_emod, Int.mul_comm, Int.mul_emod_left]; simp
  have h5 : -m < a.tmod m := by have := Int.lt_tmod_of_pos a hm; exact this
  rw [← h4, ← Int.add_emod_right]
  exact Int.emod_eq_of_lt (by omega) (by omega)
theorem tmod_pos {a m : Int} (hm : 0 < m) (h : 0 ≤ a.tmod m) : a % m = a.tmod m := by
  have h3 := Int.tmod_lt_of_pos a hm
  have h4 : a.tmod m % m = a % m := by rw [Int.tmod_def, Int.sub_emod, Int.mul_comm, Int.mul_emod_left]; simp
  rw [← h4]; exact Int.emod_eq_of_lt h h3
theorem DiskAt.file_le {w : World} {p : Nat} {d : Hw.HDisk} {F : Nat → Prop} {bm clock : Nat} {Fs : List FE} (h : DiskAt w p d F bm clock Fs) {x : FE} (hx : x ∈ Fs) : x.file.safe ≤ x.file.bytes.length ∧ x.file.bytes.length ≤ 262144 := by
  have hf : d.find x.name = some x.file := by
    unfold Hw.HDisk.find
    rw [h.files, find_files]
    cases e : Fs.find? fun y => y.name == x.name with
    | none => have := List.find?_eq_none.1 e x hx; simp at this
    | some y =>
      have h1 := List.mem_of_find?_eq_some e
      have h2 : y.name = x.name := by have := List.find?_some e; simpa using this
      rw [inj_of_nodup _ h.names h1 hx h2]; rfl
  refine ⟨h.wf.safe _ _ hf, ?_⟩
  have := Hw.HDisk.len_le d x.name
  rw [Hw.HDisk.len_some hf] at this
  exact Nat.le_trans this (Nat.le_trans h.wf.room h.wf.most)
theorem rest_top {w wr : World} {p : Nat} {d : Hw.HDisk} {F : Nat → Prop} {bm clock : Nat} {Fs : List FE} {keep : Int} {seen : Array Nat} (h : DiskAt w p d F bm clock Fs) (hr : RestRel w bm clock Fs keep seen wr) :
    wr.cell? ⟨p, 2, none⟩ = some (.int .i64 d.left) ∧ wr.cell? ⟨p, 3, none⟩ = some (.bool d.stopped) ∧ wr.frozen? ⟨p, 2, none⟩ = false ∧ wr.frozen? ⟨p, 3, none⟩ = false := by
  have ht : wr.heap[p]? = _ := (hr.upd.block p (blk_lt h.top) (by rintro ⟨x, hx, e⟩; exact (h.each x hx).ne_cells h.top (by decide) e)).trans h.top
  refine ⟨?_, ?_, ?_, ?_⟩ <;> simp [World.cell?, World.frozen?, ht]
theorem rest_end {w wr : World} {p : Nat} {d : Hw.HDisk} {F : Nat → Prop} {bm clock : Nat} {Fs : List FE} {keep : Int} {seen : Array Nat} (h : DiskAt w p d F bm clock Fs) (hr : RestRel w bm clock Fs keep seen wr) (hall : AllSeen (Fs.map fme) seen) :
    ArmRet p (d.restart keep) F w (.returned (.tuple #[])) ((wr.setCell ⟨p, 3, none⟩ (.bool false)).setCell ⟨p, 2, none⟩ (.int .i64 (-1))) := by
  have ht : wr.heap[p]? = _ := (hr.upd.block p (blk_lt h.top) (by rintro ⟨x, hx, e⟩; exact (h.each x hx).ne_cells h.top (by decide) e)).trans h.top
  have hup : Upd (fun b => b = p) wr ((wr.setCell ⟨p, 3, none⟩ (.bool false)).setCell ⟨p, 2, none⟩ (.int .i64 (-1))) :=
    ((Upd.refl (fun b => b = p) wr).setCell (p := ⟨p, 3, none⟩) (.inl rfl) _).setCell (p := ⟨p, 2, none⟩) (.inl rfl) _
  have hF : Upd F w ((wr.setCell ⟨p, 3, none⟩ (.bool false)).setCell ⟨p, 2, none⟩ (.int .i64 (-1))) :=
    (hr.upd.mono (fun b _ ⟨x, hx, e⟩ => (h.fp b).2 (.inr (.inr ⟨x, hx, .inl e⟩)))).trans hup (fun b _ e => (h.fp b).2 (.inl e))
  refine ⟨rfl, ⟨bm, clock, Fs.map fun x => { x with file := Hw.HDisk.keepOf keep x.file }, ⟨?_, ?_, ?_, ?_, ?_, ?_, ?_, by simp [Hw.HDisk.restart], by simp [Hw.HDisk.restart], h.wf.restart keep⟩⟩, hF⟩
  · rw [blk_set (blk_set ht 3 _)]; rfl
  · have := (rest_map h hr).upd hup (fun e => h.ne_map e.symm)
    rwa [List.map_map]
  · show d.files.map _ = _
    rw [h.files, List.map_map, List.map_map]; rfl
  · intro z hz
    obtain ⟨x, hx, rfl⟩ := List.mem_map.1 hz
    have hx' := hr.each x hx
    have hxs : x.born ∈ seen := hall.out (fme x) (List.mem_map.2 ⟨x, hx, rfl⟩)
    rw [if_pos hxs] at hx'
    exact hx'.upd hup (fun e => hx'.ne_cells ht (by decide) e.symm) (fun b hb e => hx'.row_cells hb ht (by decide) e.symm)
  · rw [List.map_map]; exact h.bfs
  · rw [List.filterMap_map]; exact h.rows
  · intro b
    rw [h.fp b]
    constructor
    · rintro (e | e | ⟨x, hx, e⟩)
      · exact .inl e
      · exact .inr (.inl e)
      · exact .inr (.inr ⟨_, List.mem_map.2 ⟨x, hx, rfl⟩, e⟩)
    · rintro (e | e | ⟨z, hz, e⟩)
      · exact .inl e
      · exact .inr (.inl e)
      · obtain ⟨x, hx, rfl⟩ := List.mem_map.1 hz
        exact .inr (.inr ⟨x, hx, e⟩)
/-- The round's first half: the step. -/
theorem rest_step {w wr w1 : World} {p : Nat} {d : Hw.HDisk} {F : Nat → Prop} {bm clock : Nat} {Fs : List FE} {keep : Int} {seen : Array Nat} {y : FE} (h : DiskAt w p d F bm clock Fs) (hr : RestRel w bm clock Fs keep seen wr) (hy : y ∈ Fs) (h1 : w1 = wr ∨ w1 = wr.drew) (hs : (fme y).born ∉ seen) :
    IterAt (withIter w1 w.heap.size bm clock (seen.push (fme y).born)) w.heap.size bm clock (seen.push (fme y).born) ∧ MapIs (withIter w1 w.heap.size bm clock (seen.push (fme y).born)) bm (Fs.map fme) clock ∧
    FileAt (withIter w1 w.heap.size bm clock (seen.push (fme y).born)) y.bf y.row y.file ∧ (y.born ∉ seen ∧ (w1 = wr ∨ w1 = wr.drew)) ∧ leftN (Fs.map fme) (seen.push (fme y).born) < wr.rangeLeft bm w.heap.size := by
  have hi1 : IterAt w1 w.heap.size bm clock seen := by rcases h1 with rfl | rfl; exact hr.iter; exact hr.iter
  have hu := own_comes h1 w.heap.size bm clock (seen.push (fme y).born)
  have hfy := hr.each y hy
  have hs' : y.born ∉ seen := hs
  rw [if_neg hs'] at hfy
  have hlt : ∀ {b}, F b → b < w.heap.size := fun hb => h.lt hb
  refine ⟨withIter_at hi1 _, (rest_map h hr).upd hu (fun e => ?_), hfy.upd hu (fun e => ?_) (fun b hb e => ?_), ⟨hs, h1⟩, ?_⟩
  · have := hlt ((h.fp bm).2 (.inr (.inl rfl))); omega
  · have := hlt ((h.fp y.bf).2 (.inr (.inr ⟨y, hy, .inl rfl⟩))); omega
  · have := hlt ((h.fp b).2 (.inr (.inr ⟨y, hy, .inr hb⟩))); omega
  · rw [rangeLeft_eq (rest_map h hr) hr.iter]; exact leftN_push hs (List.mem_map.2 ⟨y, hy, rfl⟩)
theorem keepN_neg {keep K : Int} {len safe N : Nat} (hK : keep.tmod ((len : Int) - (safe : Int) + 1) = K) (hneg : K < 0) (hN : (safe : Int) + (K + ((len : Int) - (safe : Int) + 1)) = (N : Int)) (hs : safe ≤ len) :
    (N : Int) = safe + keep % ((len - safe : Nat) + 1 : Int) := by
  have e : ((len - safe : Nat) + 1 : Int) = (len : Int) - (safe : Int) + 1 := by omega
  rw [e, tmod_neg (by omega) (by rw [hK]; exact hneg), hK]; omega
theorem keepN_pos {keep K : Int} {len safe N : Nat} (hK : keep.tmod ((len : Int) - (safe : Int) + 1) = K) (hneg : ¬ K < 0) (hN : (safe : Int) + K = (N : Int)) (hs : safe ≤ len) :
    (N : Int) = safe + keep % ((len - safe : Nat) + 1 : Int) := by
  have e : ((len - safe : Nat) + 1 : Int) = (len : Int) - (safe : Int) + 1 := by omega
  rw [e, tmod_pos (by omega) (by rw [hK]; omega), hK]; omega
def restW (w w1 : World) (bm clock : Nat) (seen : Array Nat) (y : FE) (m N c : Nat) (A : Option Addr) : World :=
  ((((withIter w1 w.heap.size bm clock (seen.push y.born)).drewN m).setCell ⟨y.bf, 0, none⟩ (.slice A N c)).setCell ⟨y.bf, 1, none⟩ (.int .i64 (N : Int)))
theorem rest_next {w wr w1 : World} {p : Nat} {d : Hw.HDisk} {F : Nat → Prop} {bm clock : Nat} {Fs : List FE} {keep : Int} {seen : Array Nat} {y : FE} {f : Hw.HFile} {m N c n0 : Nat} {A : Option Addr} (h : DiskAt w p d F bm clock Fs) (hr : RestRel w bm clock Fs keep seen wr) (hy : y ∈ Fs) (hf : y.file = f)
    (hst : IterAt (withIter w1 w.heap.size bm clock (seen.push y.born)) w.heap.size bm clock (seen.push y.born) ∧ MapIs (withIter w1 w.heap.size bm clock (seen.push y.born)) bm (Fs.map fme) clock ∧
      FileAt (withIter w1 w.heap.size bm clock (seen.push y.born)) y.bf y.row f ∧ (y.born ∉ seen ∧ (w1 = wr ∨ w1 = wr.drew)) ∧ n0 < wr.rangeLeft bm w.heap.size)
    (k0 : (withIter w1 w.heap.size bm clock (seen.push y.born)).cell? ⟨y.bf, 0, none⟩ = some (.slice A f.bytes.length c)) (hN : (N : Int) = f.safe + keep % ((f.bytes.length - f.safe : Nat) + 1 : Int)) (hNl : N ≤ f.bytes.length) :
    RestRel w bm clock Fs keep (seen.push y.born) (restW w w1 bm clock seen y m N c A) := by
  subst hf
  obtain ⟨h1, h2, h3, ⟨h4, h4'⟩, h5⟩ := hst
  have hu0 : Upd (fun b => b = w.heap.size) wr (withIter w1 w.heap.size bm clock (seen.push y.born)) := own_comes h4' w.heap.size bm clock _
  have hud := hu0.drewN m
  have hu1 : Upd (fun b => b = y.bf) ((withIter w1 w.heap.size bm clock (seen.push y.born)).drewN m) (restW w w1 bm clock seen y m N c A) :=
    ((Upd.refl (fun b => b = y.bf) _).setCell (p := ⟨y.bf, 0, none⟩) (.inl rfl) _).setCell (p := ⟨y.bf, 1, none⟩) (.inl rfl) _
  have hlt : ∀ {b}, F b → b < w.heap.size := fun hb => h.lt hb
  have hyb : y.bf < w.heap.size := hlt ((h.fp y.bf).2 (.inr (.inr ⟨y, hy, .inl rfl⟩)))
  have hbd := bel_drewN (Below.refl (withIter w1 w.heap.size bm clock (seen.push y.born)).heap.size (withIter w1 w.heap.size bm clock (seen.push y.born))) m
  have hu2 : Upd (fun b => b = w.heap.size ∨ b = y.bf) wr (restW w w1 bm clock seen y m N c A) := (hud.mono (fun _ _ e => .inl e)).trans hu1 (fun _ _ e => .inr e)
  have hb' : (Fs.map (·.born)).Nodup := by have := h.mp.borns; rwa [born_fme] at this
  refine ⟨?_, ?_, fun x hx => ?_⟩
  · have : (restW w w1 bm clock seen y m N c A).heap[w.heap.size]? = (withIter w1 w.heap.size bm clock (seen.push y.born)).heap[w.heap.size]? := hu1.block _ (blk_lt h1) (by omega)
    exact this.trans h1
  · refine hr.upd.trans hu2 (fun b hb => ?_)
    rintro (e | e)
    · omega
    · exact ⟨y, hy, e⟩
  · by_cases e : x.born = y.born
    · have hxy : x = y := inj_of_nodup _ hb' hx hy e
      subst hxy
      rw [if_pos (by simp), keepOf_take keep x.file N hN]
      exact cut_file (h3.below hbd) k0 hNl
    · have hne : x.bf ≠ y.bf := fun e2 => e (by rw [inj_of_nodup _ h.bfs hx hy e2])
      have h6 := (hr.each x hx).upd hu2 (by
        have := hlt ((h.fp x.bf).2 (.inr (.inr ⟨x, hx, .inl rfl⟩)))
        rintro (e | e)
        · omega
        · exact hne e) (fun b hb => by
        have := hlt ((h.fp b).2 (.inr (.inr ⟨x, hx, .inr hb⟩)))
        rintro (e | e)
        · omega
        · obtain ⟨sv, g1, _⟩ := h.each y hy
          exact (h.each x hx).row_cells hb g1 (by decide) e.symm)
      simpa [e] using h6
theorem rest_less {w wr w1 : World} {p : Nat} {d : Hw.HDisk} {F : Nat → Prop} {bm clock : Nat} {Fs : List FE} {keep : Int} {seen : Array Nat} {y : FE} {f : Hw.HFile} {m N c n0 : Nat} {A : Option Addr} (h : DiskAt w p d F bm clock Fs) (hr : RestRel w bm clock Fs keep seen wr) (hy : y ∈ Fs) (hf : y.file = f)
    (hst : IterAt (withIter w1 w.heap.size bm clock (seen.push y.born)) w.heap.size bm clock (seen.push y.born) ∧ MapIs (withIter w1 w.heap.size bm clock (seen.push y.born)) bm (Fs.map fme) clock ∧
      FileAt (withIter w1 w.heap.size bm clock (seen.push y.born)) y.bf y.row f ∧ (y.born ∉ seen ∧ (w1 = wr ∨ w1 = wr.drew)) ∧ n0 < wr.rangeLeft bm w.heap.size)
    (k0 : (withIter w1 w.heap.size bm clock (seen.push y.born)).cell? ⟨y.bf, 0, none⟩ = some (.slice A f.bytes.length c)) (hN : (N : Int) = f.safe + keep % ((f.bytes.length - f.safe : Nat) + 1 : Int)) (hNl : N ≤ f.bytes.length)
    (hlt : leftN (Fs.map fme) (seen.push y.born) < wr.rangeLeft bm w.heap.size) : (restW w w1 bm clock seen y m N c A).rangeLeft bm w.heap.size < wr.rangeLeft bm w.heap.size := by
  have hn := rest_next (m := m) h hr hy hf hst k0 hN hNl
  rw [rangeLeft_eq (rest_map h hn) hn.iter]; exact hlt
set_option maxRecDepth 100000 in
set_option maxHeartbeats 1000000 in
theorem disk_Restart (p : Nat) (d : Hw.HDisk) (F : Nat → Prop) (keep : Int) (w : World) (h : IsDisk w p d F) :
    Calls Tryd.prog 28 #[.pointer (some ⟨p, 0, none⟩), .int .i64 keep] w (ArmRet p (d.restart keep) F w) := by
  obtain ⟨bm, clock, Fs, h⟩ := h
  have c0 : w.cell? ⟨p, 0, none⟩ = some (.map (some bm)) := h.cell0
  have H := Lib.hid h; clear h
  go_enter Tryd.func28, Tryd.ntmps28
  go_wp2_with (at_range; refine wpRange rfl _ rfl dmap H.out.mp rfl ?_)
  go_frame
  go_loopw [5] (fun _ wr => ∃ seen, RestRel w bm clock Fs keep seen wr) (fun _ wr => wr.rangeLeft bm w.heap.size)
  case atStart => exact ⟨#[], rest_start H.out keep⟩
  case round =>
    obtain ⟨seen, hr⟩ := hrel
    have HM := Lib.hid (rest_map H.out hr)
    have HR := Lib.hid hr; clear hr
    go_wp2_with (at_next; refine wpNext rfl _ rfl HM.out HR.out.iter rfl ?_ ?_)
    · intro hall
      have k0 := rest_top H.out HR.out
      obtain ⟨k2, k3, f2, f3⟩ := k0
      have HA := Lib.hid hall; clear hall
      go_wp2_with fail
      go_end0
      exact rest_end H.out HR.out HA.out
    · intro x w1 hcome
      obtain ⟨h1, hx, hs⟩ := hcome
      obtain ⟨y, hy, rfl⟩ := List.mem_map.1 hx
      have hstep := rest_step H.out HR.out hy h1 hs
      have hen := run_entry_map (P := Tryd.prog) hstep.2.1 hx hstep.1
      obtain ⟨A, c, k0, k1, k2, k3⟩ := hstep.2.2.1.cells
      have f0 := hstep.2.2.1.unfrozen 0
      have f1 := hstep.2.2.1.unfrozen 1
      have hlt := hstep.2.2.2.2
      have HLT := Lib.hid hlt
      have HST := Lib.hid hstep
      have hsl := H.out.file_le hy
      clear hstep hlt hs h1 hx
      simp only [fme] at *
      generalize hf : y.file = f at *
      have hsl1 := hsl.1
      have hsl2 := hsl.2
      unfold maxLen at k3
      have e1 : IntKind.i64.wrap ((f.bytes.length : Int) - (f.safe : Int)) = (f.bytes.length : Int) - (f.safe : Int) := by rw [IntKind.wrap_i64]; omega
      have HF := Lib.hid hf; clear hf
      obtain ⟨K, hK⟩ : ∃ K, keep.tmod ((f.bytes.length : Int) - (f.safe : Int) + 1) = K := ⟨_, rfl⟩
      have b1 := Int.lt_tmod_of_pos keep (show 0 < (f.bytes.length : Int) - (f.safe : Int) + 1 by omega)
      have b2 := Int.tmod_lt_of_pos keep (show 0 < (f.bytes.length : Int) - (f.safe : Int) + 1 by omega)
      rw [hK] at b1 b2
      have HK := Lib.hid hK
      by_cases hneg : K < 0
      · obtain ⟨N, hN⟩ := Int.eq_ofNat_of_zero_le (show 0 ≤ (f.safe : Int) + (K + ((f.bytes.length : Int) - (f.safe : Int) + 1)) by omega)
        have eN : IntKind.i64.wrap ((f.safe : Int) + (K + ((f.bytes.length : Int) - (f.safe : Int) + 1))) = (N : Int) := by rw [IntKind.wrap_i64]; omega
        have hNl : N ≤ f.bytes.length := by omega
        have HN := Lib.hid hN; clear hN
        go_wp2_with fail
        go_quiet (fail)
        go_wp2_with fail
        go_region
        go_wp2_with fail
        go_roundw
        case rel => exact ⟨_, rest_next H.out HR.out hy HF.out HST.out k0 (keepN_neg HK.out hneg HN.out hsl1) hNl⟩
        case measure => exact rest_less H.out HR.out hy HF.out HST.out k0 (keepN_neg HK.out hneg HN.out hsl1) hNl HLT.out
      · obtain ⟨N, hN⟩ := Int.eq_ofNat_of_zero_le (show 0 ≤ (f.safe : Int) + K by omega)
        have eN : IntKind.i64.wrap ((f.safe : Int) + K) = (N : Int) := by rw [IntKind.wrap_i64]; omega
        have hNl : N ≤ f.bytes.length := by omega
        have HN := Lib.hid hN; clear hN
        go_wp2_with fail
        go_quiet (fail)
        go_wp2_with fail
        go_region
        go_wp2_with fail
        go_roundw
        case rel => exact ⟨_, rest_next H.out HR.out hy HF.out HST.out k0 (keepN_pos HK.out (by omega) HN.out hsl1) hNl⟩
        case measure => exact rest_less H.out HR.out hy HF.out HST.out k0 (keepN_pos HK.out (by omega) HN.out hsl1) hNl HLT.out
end Go.Proofs.YtihncdlbbhmglaaDoor

/- Words of the laws' walks: strings of bytes, literals, a disk of the call's own. -/
namespace Go.Proofs.YtihncdlbbhmglaaDoor
open Go.RowKit

def strB (bs : Hw.Bytes) : ByteArray := ⟨bs.toArray⟩
theorem strB_inj {a b : Hw.Bytes} : strB a = strB b ↔ a = b := by
  constructor
  · intro h
    have := congrArg (fun s : ByteArray => s.data.toList) h
    simpa [strB] using this
  · rintro rfl; rfl
theorem strOfNums_u8 (bs : Hw.Bytes) : strOfNums (bs.map fun c => (c.toNat : Int)) = strB bs := by
  unfold strOfNums strB
  congr 1
  rw [List.map_map]
  congr 1
  conv => rhs; rw [← List.map_id bs]
  apply List.map_congr_left
  intro c _
  simp
theorem RdB.str {M : Nat → Prop} {w : World} {v : Value} {bs : Hw.Bytes} (h : RdB M w v bs) : (convert 22 9 v).run Tryd.prog w = .ok (.string (strB bs)) w := by
  by_cases hn : 0 < bs.length
  · obtain ⟨b, o, c, rfl, _, _, _, _, hc⟩ := h.at hn
    rw [run_convert_bytes_arg w 22 5 Tryd.underlying22 Tryd.underlying5 b o bs.length c (bs.map fun c => (c.toNat : Int)) (by simp) (fun i hi => by
      rw [hc i _ (List.getElem?_eq_getElem hi)]
      simp [List.getD, List.getElem?_eq_getElem hi]) 9 Tryd.underlying9, strOfNums_u8]
  · have : bs = [] := List.eq_nil_of_length_eq_zero (by omega)
    subst this
    obtain ⟨A, c, rfl, h0, h1, h2, h3, h4⟩ := h
    cases A with
    | none => exact run_convert_bytes_nil w _ _ Tryd.underlying22 Tryd.underlying5 _ _ _ Tryd.underlying9
    | some ad =>
      have hl : (loadCells ad 0).run Tryd.prog w = .ok (([] : List Int).map (Value.int .u8)).toArray w :=
        run_loadCells_list (P := Tryd.prog) w ad [] (fun j v hj => by simp at hj)
      show (convert 22 9 (.slice (some ad) 0 c)).run Tryd.prog w = _
      rw [run_convert_bytes_string w 22 9 5 _ 0 c Tryd.underlying22 Tryd.underlying5 Tryd.underlying9, run_bytesToString w ad 0 c [] hl]
      rfl
/-- A literal's row. -/
theorem RdB.lit (M : Nat → Prop) (w : World) (bs : Hw.Bytes) (e : TypeId) (fr : Nat × Nat) (hM : ¬ M w.heap.size) (hm : bs.length ≤ maxLen) :
    RdB M (w.alloc (.cells (u8s bs).toArray e fr)) (.slice (some ⟨w.heap.size, 0, none⟩) bs.length bs.length) bs := by
  refine ⟨_, _, rfl, by simp [u8s_length], Nat.le_refl _, hm, fun h => (by cases h), fun ad h _ => ?_⟩
  cases h
  refine ⟨rfl, hM, by simp, fun i x hx => ?_⟩
  have hb : (w.alloc (.cells (u8s bs).toArray e fr)).heap[w.heap.size]? = some (.cells (u8s bs).toArray e fr) := by
    show (w.heap.push _)[w.heap.size]? = _
    simp
  unfold World.cell?
  simp only [hb]
  simpa using hx
theorem litc (w : World) (C : Array Value) (n c : Nat) : (convert 22 22 (.slice (some ⟨w.heap.size, 0, none⟩) n c)).run Tryd.prog (w.alloc (.cells C 5)) = .ok (.slice (some ⟨w.heap.size, 0, none⟩) n c) (w.alloc (.cells C 5 (C.size, C.size + 1))) :=
  Lib.run_convert_bytes_const w 22 5 C n c Tryd.underlying22 Tryd.underlying5

theorem IsDisk.wf {w : World} {p : Nat} {d : Hw.HDisk} {F : Nat → Prop} (h : IsDisk w p d F) : Hw.HDisk.WF d := by obtain ⟨_, _, _, h⟩ := h; exact h.wf
/-- A disk of the call's own: all its blocks are from B on; below B the world is as w0 was. -/
structure DD (B : Nat) (w0 w : World) (p : Nat) (d : Hw.HDisk) (F : Nat → Prop) : Prop where
  disk : IsDisk w p d F
  own : ∀ b, F b → B ≤ b
  bel : Below B w0 w
  base : B ≤ w0.heap.size
theorem DD.size {B : Nat} {w0 w : World} {p : Nat} {d : Hw.HDisk} {F : Nat → Prop} (h : DD B w0 w p d F) : B ≤ w.heap.size := Nat.le_trans h.base h.bel.size
theorem DD.upd {B : Nat} {w0 w w' : World} {p : Nat} {d : Hw.HDisk} {F G : Nat → Prop} (h : DD B w0 w p d F) (hu : Upd G w w') (hG : ∀ b, G b → B ≤ b ∧ ¬ F b) : DD B w0 w' p d F :=
  ⟨h.disk.upd hu (fun b hb hg => (hG b hg).2 hb), h.own, h.bel.trans (hu.below h.size (fun b hb => (hG b hb).1)), h.base⟩
theorem DD.new {B : Nat} {w0 w w' : World} {p : Nat} {d : Hw.HDisk} {F : Nat → Prop} (h : DD B w0 w p d F) (hu : Upd (fun _ => False) w w') : DD B w0 w' p d F := h.upd hu (fun _ h => h.elim)
theorem DD.below {B : Nat} {w0 w w' : World} {p : Nat} {d : Hw.HDisk} {F : Nat → Prop} (h : DD B w0 w p d F) (hu : Below w.heap.size w w') : DD B w0 w' p d F := h.new (Upd.of_below hu)
theorem DD.of {w0 w w' : World} {n : Int} {e : Ending} (hb : Below w0.heap.size w0 w) (h : OfRet n w e w') :
    ∃ p F, e = .returned (.pointer (some ⟨p, 0, none⟩)) ∧ DD w0.heap.size w0 w' p (Hw.HDisk.new n) F ∧ Below w0.heap.size w0 w' := by
  obtain ⟨p, rfl, h1, h2, h3⟩ := h
  have hb' : Below w0.heap.size w0 w' := hb.trans (h3.mono hb.size)
  exact ⟨p, _, rfl, ⟨h1, fun b hb' => by rcases hb' with rfl | rfl; exact Nat.le_trans hb.size h2; exact hb.size, hb', Nat.le_refl _⟩, hb'⟩
/-- Behind a deed of the disk. -/
def DRet (B : Nat) (w0 : World) (p : Nat) (F : Nat → Prop) (w : World) (v : Value) (d' : Hw.HDisk) (e : Ending) (w' : World) : Prop :=
  e = .returned v ∧ ∃ F', DD B w0 w' p d' F' ∧ (∀ b, F' b → F b ∨ w.heap.size ≤ b) ∧ Upd F w w'
theorem DD.ret {B : Nat} {w0 w w' : World} {p : Nat} {d d' : Hw.HDisk} {F : Nat → Prop} {k : Int} {v : Value} {e : Ending} (h : DD B w0 w p d F) (hr : DiskRet p (k, d') F w e w') (hv : errV k = v) : DRet B w0 p F w v d' e w' := by
  obtain ⟨rfl, F', h1, h2, h3⟩ := hr
  exact ⟨by rw [hv], F', ⟨h1, fun b hb => (h2 b hb).elim (h.own b) (fun h' => Nat.le_trans h.size h'), h.bel.trans (h3.below h.size h.own), h.base⟩, h2, h3⟩
theorem dd_Append {B : Nat} {w0 w : World} {p : Nat} {d d' : Hw.HDisk} {F : Nat → Prop} (h : DD B w0 w p d F) {n : Int} {v : Value} {bs : Hw.Bytes} (hv : RdB F w v bs) (hbl : bs.length ≤ 1000000000000000) {k : Int} (hr : d.append n bs = (k, d')) {r : Value} (hk : errV k = r) :
    Calls Tryd.prog 10 #[.pointer (some ⟨p, 0, none⟩), .int .i64 n, v] w (DRet B w0 p F w r d') :=
  (disk_Append p d F F n v bs w h.disk hv (fun _ h => h) hbl).mono fun e w' hh => h.ret (by rwa [hr] at hh) hk
theorem dd_Sync {B : Nat} {w0 w : World} {p : Nat} {d d' : Hw.HDisk} {F : Nat → Prop} (h : DD B w0 w p d F) {n : Int} {k : Int} (hr : d.sync n = (k, d')) {r : Value} (hk : errV k = r) :
    Calls Tryd.prog 30 #[.pointer (some ⟨p, 0, none⟩), .int .i64 n] w (DRet B w0 p F w r d') :=
  (disk_Sync p d F n w h.disk).mono fun e w' hh => h.ret (by rwa [hr] at hh) hk
theorem dd_Restart {B : Nat} {w0 w : World} {p : Nat} {d d' : Hw.HDisk} {F : Nat → Prop} (h : DD B w0 w p d F) {n : Int} (hr : d.restart n = d') :
    Calls Tryd.prog 28 #[.pointer (some ⟨p, 0, none⟩), .int .i64 n] w (fun e w' => e = .returned (.tuple #[]) ∧ DD B w0 w' p d' F ∧ Upd F w w') :=
  (disk_Restart p d F n w h.disk).mono fun e w' hh => by
    obtain ⟨rfl, h1, h2⟩ := hh
    rw [hr] at h1
    exact ⟨rfl, ⟨h1, h.own, h.bel.trans (h2.below h.size h.own), h.base⟩, h2⟩
theorem dd_Used {B : Nat} {w0 w : World} {p : Nat} {d : Hw.HDisk} {F : Nat → Prop} (h : DD B w0 w p d F) :
    Calls Tryd.prog 13 #[.pointer (some ⟨p, 0, none⟩)] w (fun e w' => e = .returned (.int .i64 (d.used : Nat)) ∧ DD B w0 w' p d F ∧ Upd (fun _ => False) w w') := by
  obtain ⟨bm, clock, Fs, hd⟩ := h.disk
  refine (disk_Used p d F bm clock Fs w hd).mono fun e w' hh => ?_
  exact ⟨hh.1, h.below hh.2, Upd.of_below hh.2⟩
end Go.Proofs.YtihncdlbbhmglaaDoor

/- Words of the walks: a journal in memory. -/
namespace Go.Proofs.YtihncdlbbhmglaaDoor
open Go.RowKit

/-! ### append at an operation, at a step -/
theorem runAppend {P : Program} (w : World) (t ty : TypeId) (base : Nat) (e : TypeId) (i : TypeInfo) (z : Value) (size bytes : Nat) (ht : P.underlying t = some (.slice e)) (hi : P.info? e = some i) (hz : i.zero = some z)
    (hsize : i.size = size) (hby : i.bytes = bytes) (hzs : z.cells.size = size) (hsz : 0 < size)
    (v : Value) (n : Nat) (xs : List Value) (hown : w.ownsRow base e size v n xs)
    (M : Nat → Prop) (vx : Value) (m : Nat) (news : List Value) (hr : RdC M w size vx m news) (h1 : ∀ u ∈ news, u.oneCell' = true)
    (h63 : n + m ≤ maxLen) (hbytes : (n + m) * bytes ≤ 140737488355328) (hbase : base ≤ w.heap.size) :
    ∃ v' w', (Builtin.append_ #[t, t] ty #[v, vx]).run P w = .ok v' w' ∧ w'.ownsRow base e size v' (n + m) (xs ++ news) ∧ w.grownBy w' v.ownBlock ∧ (v'.ownBlock = v.ownBlock ∨ v'.ownBlock = some w.heap.size) := by
  obtain ⟨A, c, rfl, g0, g1, g2, g3, g4⟩ := hr
  cases A with
  | none =>
    have hc := g3 rfl
    have hm : m = 0 := by omega
    subst hm; subst hc
    have hn : news = [] := List.eq_nil_of_length_eq_zero (by simpa using g0)
    subst hn
    have hv : ∃ A c, v = .slice A n c ∧ n ≤ c := by
      rcases hown.2 with ⟨rfl, rfl⟩ | ⟨g, cap, cur, rfl, _, _, h, _⟩
      · exact ⟨_, _, rfl, Nat.le_refl _⟩
      · exact ⟨_, _, rfl, h⟩
    obtain ⟨A, c, rfl, hnc⟩ := hv
    exact ⟨_, w, run_append_none (P := P) w t ty e i ht hi A n c hnc, by simpa using hown, ⟨rfl, rfl, rfl, Nat.le_refl _, fun _ _ _ => rfl⟩, .inl rfl⟩
  | some ad =>
    obtain ⟨v', w', q0, q1, q2, _, q4⟩ := run_append_own_at (P := P) w base t ty e i z size bytes ht hi hz hsize hby hzs hsz v n xs hown ad m c news g0 (fun j u hu => by
      have hm : 0 < m := by
        rcases Nat.eq_zero_or_pos m with h0 | h1
        · subst h0
          have hn : news = [] := List.eq_nil_of_length_eq_zero (by simpa using g0)
          subst hn; simp at hu
        · exact h1
      obtain ⟨k1, k2, k3, k4⟩ := g4 ad rfl (by omega)
      have had : ad = ⟨ad.block, ad.off, none⟩ := by cases ad; simp_all
      rw [had, Addr.add_lit]; exact k4 j u hu) h1 h63 hbytes hbase
    exact ⟨v', w', q0, q1, q2, q4⟩
theorem stepAppend {P : Program} (w : World) {ops : Array Oper} {o : Oper} {a : Act} {K : Act → World → Prop} {Q : Exit → Act → World → Prop} {E : Prop} (hgd : o.guard = none) (s x : Operand) (t : TypeId)
    (ho : o.op = .call { callee := .builtin .append, args := #[s, x], argTypes := #[t, t] })
    (base : Nat) (e : TypeId) (i : TypeInfo) (z : Value) (size bytes : Nat) (ht : P.underlying t = some (.slice e)) (hi : P.info? e = some i) (hz : i.zero = some z)
    (hsize : i.size = size) (hby : i.bytes = bytes) (hzs : z.cells.size = size) (hsz : 0 < size)
    (v : Value) (n : Nat) (xs : List Value) (hs : a.eval s = v) (hown : w.ownsRow base e size v n xs)
    (M : Nat → Prop) (vx : Value) (m : Nat) (news : List Value) (hx : a.eval x = vx) (hr : RdC M w size vx m news) (h1 : ∀ u ∈ news, u.oneCell' = true)
    (h63 : n + m ≤ maxLen) (hbytes : (n + m) * bytes ≤ 140737488355328) (hbase : base ≤ w.heap.size)
    (h : ∀ A c w', w'.ownsRow base e size (.slice A (n + m) c) (n + m) (xs ++ news) → w.grownBy w' v.ownBlock → ((Value.slice A (n + m) c).ownBlock = v.ownBlock ∨ (Value.slice A (n + m) c).ownBlock = some w.heap.size) → K (a.put o.dst (.slice A (n + m) c)) w') :
    if Region.wanted o (yielded ops a.tmps) = true then Oper.wp P o a w K Q else E := by
  have hw : Region.wanted o (yielded ops a.tmps) = true := by simp [Region.wanted, hgd]
  rw [if_pos hw]
  obtain ⟨v', w', q0, q1, q2, q3⟩ := runAppend (P := P) w t o.type base e i z size bytes ht hi hz hsize hby hzs hsz v n xs hown M vx m news hr h1 h63 hbytes hbase
  obtain ⟨A, c, rfl⟩ := own_form q1
  unfold Oper.wp execOp
  simp only [ho, resolve, invoke, builtin, Sem.run_bind, Sem.run_pure, Result.andThen_ok, List.map_toArray, List.map_cons, List.map_nil, hs, hx, q0]
  exact h A c w' q1 q2 q3
/-- Blocks that are none of a journal's inner rows. -/
def JM (G : Nat → Prop) (q : Nat) (rv : Value) (b : Nat) : Prop := ¬ G b ∨ b = q ∨ rv.ownBlock = some b
structure JAt (w : World) (q p : Nat) (j : Hw.HJ) (G : Nat → Prop) (bv rv : Value) (vs : List Value) : Prop where
  top : w.heap[q]? = some (.cells #[.pointer (some ⟨p, 0, none⟩), .int .i64 j.turn, bv, rv, .bool j.broken] 78 (0, 0))
  base : RdB (JM G q rv) w bv j.base
  own : w.ownsRow 0 22 1 rv j.records.length vs
  recs : RdRows (JM G q rv) w vs j.records
  gq : G q
  grow : ∀ b, rv.ownBlock = some b → G b
  lt : ∀ b, G b → b < w.heap.size
  t0 : -9223372036854775808 ≤ j.turn
  t1 : j.turn ≤ 9223372036854775807
  lb : j.base.length ≤ 1000000
  lr : ∀ r ∈ j.records, r.length ≤ 1000000
def IsJ (w : World) (q p : Nat) (j : Hw.HJ) (G : Nat → Prop) : Prop := ∃ bv rv vs, JAt w q p j G bv rv vs
theorem JAt.upd {H : Nat → Prop} {w w' : World} {q p : Nat} {j : Hw.HJ} {G : Nat → Prop} {bv rv : Value} {vs : List Value} (h : JAt w q p j G bv rv vs) (hu : Upd H w w') (hH : ∀ b, G b → ¬ H b) : JAt w' q p j G bv rv vs := by
  have hF : ∀ n, H n → JM G q rv n ∨ w.heap.size ≤ n := fun n hn => .inl (.inl (fun g => hH n g hn))
  exact ⟨(hu.block q (blk_lt h.top) (hH q h.gq)).trans h.top, h.base.upd hu hF (fun _ h => .inl h), own_upd h.own hu (fun k hk => hH k (h.grow k hk)), h.recs.upd hu hF (fun _ h => .inl h), h.gq, h.grow,
    fun b hb => Nat.lt_of_lt_of_le (h.lt b hb) hu.size, h.t0, h.t1, h.lb, h.lr⟩
theorem IsJ.upd {H : Nat → Prop} {w w' : World} {q p : Nat} {j : Hw.HJ} {G : Nat → Prop} (h : IsJ w q p j G) (hu : Upd H w w') (hH : ∀ b, G b → ¬ H b) : IsJ w' q p j G := by
  obtain ⟨bv, rv, vs, h⟩ := h; exact ⟨bv, rv, vs, h.upd hu hH⟩
theorem IsJ.lt {w : World} {q p : Nat} {j : Hw.HJ} {G : Nat → Prop} (h : IsJ w q p j G) {b : Nat} (hb : G b) : b < w.heap.size := by obtain ⟨bv, rv, vs, h⟩ := h; exact h.lt b hb
theorem JAt.row_ne {w : World} {q p : Nat} {j : Hw.HJ} {G : Nat → Prop} {bv rv : Value} {vs : List Value} (h : JAt w q p j G bv rv vs) : rv.ownBlock ≠ some q := by
  intro e
  rcases h.own.2 with ⟨e2, _⟩ | ⟨g, cap, cur, e2, _, hg, _⟩
  · rw [e2] at e; cases e
  · rw [e2] at e; cases e; rw [h.top] at hg; cases hg
theorem JAt.cells {w : World} {q p : Nat} {j : Hw.HJ} {G : Nat → Prop} {bv rv : Value} {vs : List Value} (h : JAt w q p j G bv rv vs) :
    w.cell? ⟨q, 0, none⟩ = some (.pointer (some ⟨p, 0, none⟩)) ∧ w.cell? ⟨q, 1, none⟩ = some (.int .i64 j.turn) ∧ w.cell? ⟨q, 2, none⟩ = some bv ∧ w.cell? ⟨q, 3, none⟩ = some rv ∧ w.cell? ⟨q, 4, none⟩ = some (.bool j.broken) := by
  refine ⟨?_, ?_, ?_, ?_, ?_⟩ <;> simp [World.cell?, h.top]
theorem JAt.unfrozen {w : World} {q p : Nat} {j : Hw.HJ} {G : Nat → Prop} {bv rv : Value} {vs : List Value} (h : JAt w q p j G bv rv vs) (i : Nat) : w.frozen? ⟨q, i, none⟩ = false := by simp [World.frozen?, h.top]

/-- A disk of the call's own and a journal on it. -/
structure JJ (B : Nat) (w0 w : World) (p : Nat) (d : Hw.HDisk) (F : Nat → Prop) (q : Nat) (j : Hw.HJ) (G : Nat → Prop) : Prop where
  dd : DD B w0 w p d F
  jat : IsJ w q p j G
  own : ∀ b, G b → B ≤ b
  disj : ∀ b, F b → ¬ G b
theorem JJ.size {B : Nat} {w0 w : World} {p q : Nat} {d : Hw.HDisk} {F G : Nat → Prop} {j : Hw.HJ} (h : JJ B w0 w p d F q j G) : B ≤ w.heap.size := h.dd.size
theorem JJ.upd {B : Nat} {w0 w w' : World} {p q : Nat} {d : Hw.HDisk} {F G H : Nat → Prop} {j : Hw.HJ} (h : JJ B w0 w p d F q j G) (hu : Upd H w w') (hH : ∀ b, H b → B ≤ b ∧ ¬ F b ∧ ¬ G b) : JJ B w0 w' p d F q j G :=
  ⟨h.dd.upd hu (fun b hb => ⟨(hH b hb).1, (hH b hb).2.1⟩), h.jat.upd hu (fun b hb hh => (hH b hh).2.2 hb), h.own, h.disj⟩
theorem JJ.new {B : Nat} {w0 w w' : World} {p q : Nat} {d : Hw.HDisk} {F G : Nat → Prop} {j : Hw.HJ} (h : JJ B w0 w p d F q j G) (hu : Upd (fun _ => False) w w') : JJ B w0 w' p d F q j G := h.upd hu (fun _ h => h.elim)
theorem JJ.below {B : Nat} {w0 w w' : World} {p q : Nat} {d : Hw.HDisk} {F G : Nat → Prop} {j : Hw.HJ} (h : JJ B w0 w p d F q j G) (hu : Below w.heap.size w w') : JJ B w0 w' p d F q j G := h.new (Upd.of_below hu)
/-- From w on: this disk and this journal are there then; of what was there nothing but them has turned. -/
structure JS (B : Nat) (w0 : World) (p q : Nat) (F G : Nat → Prop) (w : World) (d' : Hw.HDisk) (j' : Hw.HJ) (w' : World) (F' G' : Nat → Prop) : Prop where
  jj : JJ B w0 w' p d' F' q j' G'
  f : ∀ b, F' b → F b ∨ w.heap.size ≤ b
  g : ∀ b, G' b → G b ∨ w.heap.size ≤ b
  u : Upd (fun b => F b ∨ G b) w w'
theorem JS.refl {B : Nat} {w0 w : World} {p q : Nat} {d : Hw.HDisk} {F G : Nat → Prop} {j : Hw.HJ} (h : JJ B w0 w p d F q j G) : JS B w0 p q F G w d j w F G := ⟨h, fun _ h => .inl h, fun _ h => .inl h, Upd.refl _ _⟩
theorem JS.trans {B : Nat} {w0 w w1 w2 : World} {p q : Nat} {d1 d2 : Hw.HDisk} {F G F1 G1 F2 G2 : Nat → Prop} {j1 j2 : Hw.HJ} (h : JS B w0 p q F G w d1 j1 w1 F1 G1) (k : JS B w0 p q F1 G1 w1 d2 j2 w2 F2 G2) : JS B w0 p q F G w d2 j2 w2 F2 G2 := by
  have hs := h.u.size
  refine ⟨k.jj, fun b hb => ?_, fun b hb => ?_, h.u.trans k.u (fun b hb hF => ?_)⟩
  · rcases k.f b hb with e | e
    · exact h.f b e
    · exact .inr (by omega)
  · rcases k.g b hb with e | e
    · exact h.g b e
    · exact .inr (by omega)
  · rcases hF with e | e
    · rcases h.f b e with e | e
      · exact .inl e
      · omega
    · rcases h.g b e with e | e
      · exact .inr e
      · omega
theorem JS.new {B : Nat} {w0 w w1 w2 : World} {p q : Nat} {d1 : Hw.HDisk} {F G F1 G1 : Nat → Prop} {j1 : Hw.HJ} (h : JS B w0 p q F G w d1 j1 w1 F1 G1) (hu : Upd (fun _ => False) w1 w2) : JS B w0 p q F G w d1 j1 w2 F1 G1 :=
  ⟨h.jj.new hu, h.f, h.g, h.u.trans hu (fun _ _ h => h.elim)⟩
theorem JS.below {B : Nat} {w0 w w1 w2 : World} {p q : Nat} {d1 : Hw.HDisk} {F G F1 G1 : Nat → Prop} {j1 : Hw.HJ} (h : JS B w0 p q F G w d1 j1 w1 F1 G1) (hu : Below w1.heap.size w1 w2) : JS B w0 p q F G w d1 j1 w2 F1 G1 := h.new (Upd.of_below hu)
/-- Behind a deed of the disk alone. -/
theorem JS.disk {B : Nat} {w0 w w1 w2 : World} {p q : Nat} {d1 d2 : Hw.HDisk} {F G F1 G1 : Nat → Prop} {j1 : Hw.HJ} {v : Value} {e : Ending} (h : JS B w0 p q F G w d1 j1 w1 F1 G1) (hr : DRet B w0 p F1 w1 v d2 e w2) :
    e = .returned v ∧ ∃ F2, JS B w0 p q F G w d2 j1 w2 F2 G1 := by
  obtain ⟨rfl, F2, h1, h2, h3⟩ := hr
  refine ⟨rfl, F2, h.trans ⟨⟨h1, h.jj.jat.upd h3 (fun b hb hf => h.jj.disj b hf hb), h.jj.own, fun b hb hg => ?_⟩, h2, fun _ h => .inl h, h3.mono (fun _ _ h => .inl h)⟩⟩
  rcases h2 b hb with e | e
  · exact h.jj.disj b e hg
  · have := h.jj.jat.lt hg; omega
/-- Broken. -/
theorem JAt.brk {w : World} {q p : Nat} {j : Hw.HJ} {G : Nat → Prop} {bv rv : Value} {vs : List Value} (h : JAt w q p j G bv rv vs) : JAt (w.setCell ⟨q, 4, none⟩ (.bool true)) q p { j with broken := true } G bv rv vs := by
  have hu : Upd (fun b => b = q) w (w.setCell ⟨q, 4, none⟩ (.bool true)) := (Upd.refl (fun b => b = q) w).setCell (p := ⟨q, 4, none⟩) (.inl rfl) _
  have hF : ∀ n, n = q → JM G q rv n ∨ w.heap.size ≤ n := fun n hn => .inl (.inr (.inl hn))
  refine ⟨by rw [blk_set h.top]; rfl, h.base.upd hu hF (fun _ h => .inl h), own_upd h.own hu (fun k hk e => h.row_ne (e ▸ hk)), h.recs.upd hu hF (fun _ h => .inl h), h.gq, h.grow, fun b hb => Nat.lt_of_lt_of_le (h.lt b hb) hu.size, h.t0, h.t1, h.lb, h.lr⟩
theorem JS.brk {B : Nat} {w0 w w1 : World} {p q : Nat} {d1 : Hw.HDisk} {F G F1 G1 : Nat → Prop} {j1 : Hw.HJ} (h : JS B w0 p q F G w d1 j1 w1 F1 G1) :
    JS B w0 p q F G w d1 { j1 with broken := true } (w1.setCell ⟨q, 4, none⟩ (.bool true)) F1 G1 := by
  obtain ⟨bv, rv, vs, hj⟩ := h.jj.jat
  have hu : Upd (fun b => b = q) w1 (w1.setCell ⟨q, 4, none⟩ (.bool true)) := (Upd.refl (fun b => b = q) w1).setCell (p := ⟨q, 4, none⟩) (.inl rfl) _
  refine h.trans ⟨⟨h.jj.dd.upd hu (fun b e => ⟨e ▸ h.jj.own q hj.gq, fun hf => h.jj.disj b hf (e ▸ hj.gq)⟩), ⟨bv, rv, vs, hj.brk⟩, h.jj.own, h.jj.disj⟩, fun _ h => .inl h, fun _ h => .inl h, hu.mono (fun b _ e => .inr (e ▸ hj.gq))⟩
theorem JS.at {B : Nat} {w0 w w1 : World} {p q : Nat} {d1 : Hw.HDisk} {F G F1 G1 : Nat → Prop} {j1 : Hw.HJ} (h : JS B w0 p q F G w d1 j1 w1 F1 G1) :
    w1.cell? ⟨q, 0, none⟩ = some (.pointer (some ⟨p, 0, none⟩)) ∧ w1.cell? ⟨q, 1, none⟩ = some (.int .i64 j1.turn) ∧ w1.cell? ⟨q, 4, none⟩ = some (.bool j1.broken) ∧ -9223372036854775808 ≤ j1.turn ∧ j1.turn ≤ 9223372036854775807 := by
  obtain ⟨bv, rv, vs, hj⟩ := h.jj.jat
  exact ⟨hj.cells.1, hj.cells.2.1, hj.cells.2.2.2.2, hj.t0, hj.t1⟩
theorem JJ.at {B : Nat} {w0 w : World} {p q : Nat} {d : Hw.HDisk} {F G : Nat → Prop} {j : Hw.HJ} (h : JJ B w0 w p d F q j G) :
    w.cell? ⟨q, 0, none⟩ = some (.pointer (some ⟨p, 0, none⟩)) ∧ w.cell? ⟨q, 1, none⟩ = some (.int .i64 j.turn) ∧ w.cell? ⟨q, 4, none⟩ = some (.bool j.broken) ∧ -9223372036854775808 ≤ j.turn ∧ j.turn ≤ 9223372036854775807 := (JS.refl h).at
/-- A deed of the journal's: what is told. -/
def JRet (B : Nat) (w0 : World) (p q : Nat) (F G : Nat → Prop) (w : World) (v : Value) (d' : Hw.HDisk) (j' : Hw.HJ) (e : Ending) (w' : World) : Prop :=
  e = .returned v ∧ ∃ F' G', JS B w0 p q F G w d' j' w' F' G'
theorem JS.next {B : Nat} {w0 w w1 w2 : World} {p q : Nat} {d1 d2 : Hw.HDisk} {F G F1 G1 : Nat → Prop} {j1 j2 : Hw.HJ} {v : Value} {e : Ending} (h : JS B w0 p q F G w d1 j1 w1 F1 G1) (k : JRet B w0 p q F1 G1 w1 v d2 j2 e w2) :
    e = .returned v ∧ ∃ F2 G2, JS B w0 p q F G w d2 j2 w2 F2 G2 := by
  obtain ⟨rfl, F2, G2, k⟩ := k
  exact ⟨rfl, F2, G2, h.trans k⟩
end Go.Proofs.YtihncdlbbhmglaaDoor

/- Walks: journal: fail, put, Turn, Broken, Base. -/
namespace Go.Proofs.YtihncdlbbhmglaaDoor
open Go.RowKit

/-- Two errors of the kind Errno: the same, where their numbers are. -/
theorem eqE (a b : Int) (w : World) : (binOp .eql 27 (.iface 29 (.int .i64 a)) (.iface 29 (.int .i64 b))).run Tryd.prog w = .ok (.bool (a == b)) w := by kernel_rfl
theorem eqN (b : Int) (w : World) : (binOp .eql 27 .nilIface (.iface 29 (.int .i64 b))).run Tryd.prog w = .ok (.bool false) w := by kernel_rfl
-- 'fail' of no error
set_option maxRecDepth 100000 in
theorem fail_nil (q : Nat) (w : World) : Calls Tryd.prog 45 #[.pointer (some ⟨q, 0, none⟩), .nilIface] w fun e w' => e = .returned .nilIface ∧ w = w' := by
  have hq := eqN
  go_enter Tryd.func45, Tryd.ntmps45
  go_wp2
  go_ret
  exact ⟨rfl, rfl⟩
set_option maxRecDepth 100000 in
theorem fail_other (q : Nat) (k : Int) (w : World) (hk : ((k : Int) == 12) = false) : Calls Tryd.prog 45 #[.pointer (some ⟨q, 0, none⟩), .iface 29 (.int .i64 k)] w fun e w' => e = .returned (.iface 29 (.int .i64 k)) ∧ w = w' := by
  have hq := eqE
  go_enter Tryd.func45, Tryd.ntmps45
  go_wp2
  go_ret
  exact ⟨rfl, rfl⟩
set_option maxRecDepth 100000 in
theorem fail_crash (q : Nat) (old : Value) (w : World) (h4 : w.cell? ⟨q, 4, none⟩ = some old) (f4 : w.frozen? ⟨q, 4, none⟩ = false) : Calls Tryd.prog 45 #[.pointer (some ⟨q, 0, none⟩), .iface 29 (.int .i64 12)] w
    fun e w' => e = .returned (.iface 29 (.int .i64 12)) ∧ w' = w.setCell ⟨q, 4, none⟩ (.bool true) := by
  have hq := eqE
  go_enter Tryd.func45, Tryd.ntmps45
  go_wp2
  go_ret
  exact ⟨rfl, rfl⟩
set_option maxRecDepth 100000 in
theorem journal_Turn {w : World} {q p : Nat} {j : Hw.HJ} {G : Nat → Prop} (h : IsJ w q p j G) : Calls Tryd.prog 37 #[.pointer (some ⟨q, 0, none⟩)] w fun e w' => e = .returned (.int .i64 j.turn) ∧ w = w' := by
  obtain ⟨bv, rv, vs, h⟩ := h
  obtain ⟨_, c1, _, _, _⟩ := h.cells
  clear h
  go_enter Tryd.func37, Tryd.ntmps37
  go_wp2
  go_ret
  exact ⟨rfl, rfl⟩
set_option maxRecDepth 100000 in
theorem journal_Broken {w : World} {q p : Nat} {j : Hw.HJ} {G : Nat → Prop} (h : IsJ w q p j G) : Calls Tryd.prog 24 #[.pointer (some ⟨q, 0, none⟩)] w fun e w' => e = .returned (.bool j.broken) ∧ w = w' := by
  obtain ⟨bv, rv, vs, h⟩ := h
  obtain ⟨_, _, _, _, c4⟩ := h.cells
  clear h
  go_enter Tryd.func24, Tryd.ntmps24
  go_wp2
  go_ret
  exact ⟨rfl, rfl⟩
set_option maxRecDepth 100000 in
set_option maxHeartbeats 400000 in
theorem journal_Base {w : World} {q p : Nat} {j : Hw.HJ} {G : Nat → Prop} (h : IsJ w q p j G) : Calls Tryd.prog 35 #[.pointer (some ⟨q, 0, none⟩)] w (FreshRet 5 1 j.base.length (u8s j.base) w) := by
  obtain ⟨i0, hi, hz0, hz1, hz2⟩ := info_parts u8row
  obtain ⟨bv, rv, vs, h⟩ := h
  obtain ⟨_, _, c2, _, _⟩ := h.cells
  have hb := h.base
  have hl := h.lb
  obtain ⟨A, c, rfl, _, _⟩ := hb.len
  have H := Lib.hid hb
  clear hb h
  go_enter Tryd.func35, Tryd.ntmps35
  go_wp2_with (at_builtin; refine wpAppend _ rfl _ _ 22 rfl w.heap.size 5 i0 (.int .u8 0) 1 1 u8slice hi hz0 hz1 hz2 rfl (by decide) _ 0 _ rfl (World.ownsRow_nil _ _ _ _) _ _ j.base.length (u8s j.base) rfl H.out ?_ ?_ ?_ ?_ ?_)
  · exact u8s_one _
  · unfold maxLen; omega
  · omega
  · exact Nat.le_refl _
  · intro v1 w1 q1 g1 a1
    have HO := Lib.hid q1
    have HB := Lib.hid ((Below.refl w.heap.size w).grown g1 (Nat.le_refl _) (by intro k hk; cases hk))
    clear q1 g1 a1
    go_wp2_with fail
    go_ret
    exact ⟨_, rfl, by have := HO.out; simpa using this, HB.out⟩
theorem append_err (d : Hw.HDisk) (n : Int) (b : Hw.Bytes) : (d.append n b).1 = 0 ∨ (d.append n b).1 = 8 ∨ (d.append n b).1 = 12 := by
  unfold Hw.HDisk.append; (repeat' split) <;> simp
theorem sync_err (d : Hw.HDisk) (n : Int) : (d.sync n).1 = 0 ∨ (d.sync n).1 = 2 ∨ (d.sync n).1 = 12 := by
  unfold Hw.HDisk.sync; (repeat' split) <;> simp
theorem rename_err (d : Hw.HDisk) (n m : Int) : (d.rename n m).1 = 0 ∨ (d.rename n m).1 = 2 ∨ (d.rename n m).1 = 12 := by
  unfold Hw.HDisk.rename; (repeat' split) <;> simp
theorem remove_err (d : Hw.HDisk) (n : Int) : (d.remove n).1 = 0 ∨ (d.remove n).1 = 2 ∨ (d.remove n).1 = 12 := by
  unfold Hw.HDisk.remove; (repeat' split) <;> simp
theorem cut_err (d : Hw.HDisk) (n m : Int) : (d.cut n m).1 = 0 ∨ (d.cut n m).1 = 2 ∨ (d.cut n m).1 = 13 ∨ (d.cut n m).1 = 12 := by
  unfold Hw.HDisk.cut; (repeat' split) <;> simp
theorem errV_ne {k : Int} (h : k ≠ 0) : errV k = .iface 29 (.int .i64 k) := by unfold errV; rw [if_neg h]
/-- 'fail': whatever the error is. -/
theorem journal_fail {B : Nat} {w0 w w1 : World} {p q : Nat} {d1 : Hw.HDisk} {F G F1 G1 : Nat → Prop} {j1 : Hw.HJ} (h : JS B w0 p q F G w d1 j1 w1 F1 G1) {k : Int} {r : Value} (hk : errV k = r) :
    Calls Tryd.prog 45 #[.pointer (some ⟨q, 0, none⟩), r] w1 (fun e w' => e = .returned r ∧ JS B w0 p q F G w d1 (j1.fail k) w' F1 G1) := by
  subst hk
  by_cases h0 : k = 0
  · subst h0
    exact (fail_nil q w1).mono fun _ _ ⟨h1, h2⟩ => ⟨h1, h2 ▸ h⟩
  · rw [errV_ne h0]
    by_cases h12 : k = 12
    · subst h12
      obtain ⟨bv, rv, vs, hj⟩ := h.jj.jat
      refine (fail_crash q _ w1 hj.cells.2.2.2.2 (hj.unfrozen 4)).mono fun _ _ ⟨h1, h2⟩ => ⟨h1, ?_⟩
      rw [h2]; exact h.brk
    · refine (fail_other q k w1 (by simpa using h12)).mono fun _ _ ⟨h1, h2⟩ => ⟨h1, ?_⟩
      have : j1.fail k = j1 := by unfold Hw.HJ.fail; rw [if_neg h12]
      rw [this, ← h2]; exact h
theorem errV_0 : errV 0 = .nilIface := rfl
set_option maxRecDepth 100000 in
set_option maxHeartbeats 1000000 in
theorem journal_put {B : Nat} {w0 w : World} {p q : Nat} {d d2 : Hw.HDisk} {F G : Nat → Prop} {j j2 : Hw.HJ} (h : JJ B w0 w p d F q j G) {n : Int} {v : Value} {bs : Hw.Bytes} (hv : RdB F w v bs) (hbl : bs.length ≤ 1000000000000000) {k : Int} (hr : j.put d n bs = (k, j2, d2)) {r : Value} (hk : errV k = r) :
    Calls Tryd.prog 43 #[.pointer (some ⟨q, 0, none⟩), .int .i64 n, v] w (JRet B w0 p q F G w r d2 j2) := by
  obtain ⟨c0, _, _, _, _⟩ := h.at
  unfold Hw.HJ.put at hr
  rcases hd : d.append n bs with ⟨k1, dA⟩
  rw [hd] at hr
  simp only at hr
  have H := Lib.hid (JS.refl h)
  have HV := Lib.hid hv
  have HD := Lib.hid hd
  by_cases h1 : k1 = 0
  · subst h1
    simp only [ne_eq, not_true_eq_false, if_false] at hr
    rcases hs : dA.sync n with ⟨k2, dB⟩
    rw [hs] at hr
    simp only [Prod.mk.injEq] at hr
    obtain ⟨rfl, rfl, rfl⟩ := hr
    have HS := Lib.hid hs
    have HK := Lib.hid hk
    clear h hv hd hs hk
    go_enter Tryd.func43, Tryd.ntmps43
    go_wp2_with (first
      | (go_at_call 10; refine (dd_Append H.out.jj.dd HV.out hbl HD.out errV_0).mono ?_; intro e w2 hr2; obtain ⟨rfl, F2, h2⟩ := H.out.disk hr2; obtain ⟨c02, _, _, _, _⟩ := h2.at; have H2 := Lib.hid h2; clear h2 hr2)
      | (go_at_call 30; refine (dd_Sync H2.out.jj.dd HS.out HK.out).mono ?_; intro e w3 hr3; obtain ⟨rfl, F3, h3⟩ := H2.out.disk hr3; have H3 := Lib.hid h3; clear h3 hr3)
      | (go_at_call 45; refine (journal_fail H3.out HK.out).mono ?_; rintro e w4 ⟨rfl, h4⟩; have H4 := Lib.hid h4; clear h4))
    go_ret
    exact ⟨rfl, F3, G, H4.out⟩
  · rw [if_pos h1] at hr
    simp only [Prod.mk.injEq] at hr
    obtain ⟨rfl, rfl, rfl⟩ := hr
    have HK := Lib.hid (errV_ne h1)
    rw [errV_ne h1] at hk
    have HK2 := Lib.hid hk
    clear h hv hd hk h1
    go_enter Tryd.func43, Tryd.ntmps43
    go_wp2_with (first
      | (go_at_call 10; refine (dd_Append H.out.jj.dd HV.out hbl HD.out HK.out).mono ?_; intro e w2 hr2; obtain ⟨rfl, F2, h2⟩ := H.out.disk hr2; have H2 := Lib.hid h2; clear h2 hr2)
      | (go_at_call 45; refine (journal_fail H2.out HK.out).mono ?_; rintro e w4 ⟨rfl, h4⟩; have H4 := Lib.hid h4; clear h4))
    go_ret
    exact ⟨by first | rfl | (rw [HK2.out]; rfl), F2, G, H4.out⟩
end Go.Proofs.YtihncdlbbhmglaaDoor

/- Walks: journal.Append. -/
namespace Go.Proofs.YtihncdlbbhmglaaDoor
open Go.RowKit

/-- One record more. -/
theorem JAt.snoc {wr w1 w2 w3 : World} {q p : Nat} {j : Hw.HJ} {G : Nat → Prop} {bv rv v3 vx : Value} {vs : List Value} {r : Hw.Bytes} (hj : JAt wr q p j G bv rv vs) (hb1 : Below wr.heap.size wr w1)
    (hx : w1.ownsRow wr.heap.size 5 1 vx r.length (u8s r)) (hu2 : Upd (fun _ => False) w1 w2) (o3 : w3.ownsRow 0 22 1 v3 (j.records.length + 1) (vs ++ [vx])) (g3 : w2.grownBy w3 rv.ownBlock)
    (a3 : v3.ownBlock = rv.ownBlock ∨ v3.ownBlock = some w2.heap.size) (hr : r.length ≤ 1000000) :
    JAt (w3.setCell ⟨q, 3, none⟩ v3) q p { j with records := j.records ++ [r] } (fun b => G b ∨ (wr.heap.size ≤ b ∧ b < (w3.setCell ⟨q, 3, none⟩ v3).heap.size)) bv v3 (vs ++ [vx]) ∧ Upd G wr (w3.setCell ⟨q, 3, none⟩ v3) := by
  have hq : q < wr.heap.size := blk_lt hj.top
  have hrow : ∀ b, rv.ownBlock = some b → b < wr.heap.size := fun b hb => own_lt hj.own hb
  have s1 := hb1.size
  have s2 := hu2.size
  have s3 := g3.size
  have u12 : Upd (fun _ => False) wr w2 := (Upd.of_below (F := fun _ => False) hb1).trans hu2 (fun _ _ h => h)
  have u3 := Upd.of_grown g3
  have u34 : Upd (fun b => b = q) w3 (w3.setCell ⟨q, 3, none⟩ v3) := (Upd.refl (fun b => b = q) w3).setCell (p := ⟨q, 3, none⟩) (.inl rfl) _
  have u24 : Upd (fun b => b = q ∨ rv.ownBlock = some b) w2 (w3.setCell ⟨q, 3, none⟩ v3) := (u3.mono (fun _ _ h => .inr h)).trans u34 (fun _ _ h => .inl h)
  have uall : Upd (fun b => b = q ∨ rv.ownBlock = some b) wr (w3.setCell ⟨q, 3, none⟩ v3) := (u12.mono (fun _ _ h => h.elim)).trans u24 (fun _ _ h => h)
  have u14 : Upd (fun b => b = q ∨ rv.ownBlock = some b) w1 (w3.setCell ⟨q, 3, none⟩ v3) := (hu2.mono (fun _ _ h => h.elim)).trans u24 (fun _ _ h => h)
  have s4 : (w3.setCell ⟨q, 3, none⟩ v3).heap.size = w3.heap.size := by simp [World.setCell]
  have hM : ∀ n, JM (fun b => G b ∨ (wr.heap.size ≤ b ∧ b < (w3.setCell ⟨q, 3, none⟩ v3).heap.size)) q v3 n → JM G q rv n ∨ wr.heap.size ≤ n := by
    rintro n (h | h | h)
    · exact .inl (.inl (fun g => h (.inl g)))
    · exact .inl (.inr (.inl h))
    · rcases a3 with a | a
      · exact .inl (.inr (.inr (a ▸ h)))
      · rw [a] at h; cases h; exact .inr (by omega)
  have hF : ∀ n, (n = q ∨ rv.ownBlock = some n) → JM G q rv n ∨ wr.heap.size ≤ n := fun n h => .inl (.inr h)
  have hx1 : RdB (fun b => b < wr.heap.size) w1 vx r := RdB.of_own hx (fun k hk => by have := (hx.lt k hk).1; omega)
  have hxr : RdB (JM (fun b => G b ∨ (wr.heap.size ≤ b ∧ b < (w3.setCell ⟨q, 3, none⟩ v3).heap.size)) q v3) (w3.setCell ⟨q, 3, none⟩ v3) vx r := by
    refine hx1.upd u14 (fun n h => .inl ?_) ?_
    · rcases h with h | h
      · omega
      · exact hrow n h
    · rintro n (h | h | h)
      · by_cases hn : n < wr.heap.size
        · exact .inl hn
        · right
          rcases Nat.lt_or_ge n (w3.setCell ⟨q, 3, none⟩ v3).heap.size with h2 | h2
          · exact absurd (.inr ⟨by omega, h2⟩) h
          · omega
      · exact .inl (by omega)
      · rcases a3 with a | a
        · exact .inl (hrow n (a ▸ h))
        · rw [a] at h; cases h; exact .inr (by omega)
  have h3q : w3.heap[q]? = some (.cells #[.pointer (some ⟨p, 0, none⟩), .int .i64 j.turn, bv, rv, .bool j.broken] 78 (0, 0)) :=
    (u3.block q (by omega) (fun e => hj.row_ne e)).trans ((u12.block q hq (fun h => h)).trans hj.top)
  have v3q : v3.ownBlock ≠ some q := by
    rcases a3 with a | a
    · rw [a]; exact hj.row_ne
    · rw [a]; intro e; cases e; omega
  refine ⟨⟨by rw [blk_set h3q]; rfl, hj.base.upd uall hF hM, ?_, (hj.recs.upd uall hF hM).append ⟨hxr, trivial⟩, .inl hj.gq, fun b hb => ?_, fun b hb => ?_, hj.t0, hj.t1, hj.lb, fun r' hr' => ?_⟩, ?_⟩
  · have := own_upd o3 u34 (fun k hk e => v3q (e ▸ hk))
    simpa using this
  · rcases a3 with a | a
    · exact .inl (hj.grow b (a ▸ hb))
    · have := own_lt o3 hb
      rw [a] at hb; cases hb; exact .inr ⟨by omega, by omega⟩
  · rcases hb with h | h
    · have := hj.lt b h; omega
    · exact h.2
  · rcases List.mem_append.1 hr' with h | h
    · exact hj.lr r' h
    · rw [List.mem_singleton.1 h]; exact hr
  · refine uall.mono (fun b _ h => ?_)
    rcases h with h | h
    · rw [h]; exact hj.gq
    · exact hj.grow b h
theorem JS.snoc {B : Nat} {w0 w wr w1 w2 w3 : World} {p q : Nat} {d : Hw.HDisk} {F G F1 G1 : Nat → Prop} {j : Hw.HJ} {bv rv v3 vx : Value} {vs : List Value} {r : Hw.Bytes} (h : JS B w0 p q F G w d j wr F1 G1) (hj : JAt wr q p j G1 bv rv vs) (hb1 : Below wr.heap.size wr w1)
    (hx : w1.ownsRow wr.heap.size 5 1 vx r.length (u8s r)) (hu2 : Upd (fun _ => False) w1 w2) (o3 : w3.ownsRow 0 22 1 v3 (j.records.length + 1) (vs ++ [vx])) (g3 : w2.grownBy w3 rv.ownBlock)
    (a3 : v3.ownBlock = rv.ownBlock ∨ v3.ownBlock = some w2.heap.size) (hr : r.length ≤ 1000000) :
    ∃ G2, JS B w0 p q F G w d { j with records := j.records ++ [r] } (w3.setCell ⟨q, 3, none⟩ v3) F1 G2 := by
  obtain ⟨k1, k2⟩ := hj.snoc hb1 hx hu2 o3 g3 a3 hr
  have hs := h.jj.size
  refine ⟨_, h.trans ⟨⟨h.jj.dd.upd k2 (fun b hb => ⟨h.jj.own b hb, fun hf => h.jj.disj b hf hb⟩), ⟨bv, v3, _, k1⟩, fun b hb => ?_, fun b hf hb => ?_⟩, fun _ h => .inl h, fun b hb => ?_, k2.mono (fun _ _ h => .inr h)⟩⟩
  · rcases hb with h' | h'
    · exact h.jj.own b h'
    · omega
  · rcases hb with h' | h'
    · exact h.jj.disj b hf h'
    · have := h.jj.dd.disk.lt hf; omega
  · rcases hb with h' | h'
    · exact .inl h'
    · exact .inr h'.1
def App1 (rs : List Hw.Bytes) (w : World) (k : Nat) (t5 : Value) (wr : World) : Prop :=
  wr.ownsRow w.heap.size 5 1 t5 (Hw.frames (rs.take k)).length (u8s (Hw.frames (rs.take k))) ∧ Below w.heap.size w wr ∧ ∀ r ∈ rs.take k, r.length ≤ 16384
theorem take_snoc' {α : Type} (rs : List α) (k : Nat) (r : α) (h : rs[k]? = some r) : rs.take (k + 1) = rs.take k ++ [r] := by rw [List.take_add_one, h]; rfl
theorem App1.next {rs : List Hw.Bytes} {w wr w1 w2 : World} {k : Nat} {t5 v2 : Value} {r : Hw.Bytes} (h : App1 rs w k t5 wr) (hr : rs[k]? = some r) (hl : r.length ≤ 16384) (hb : Below wr.heap.size wr w1)
    (o2 : w2.ownsRow w.heap.size 5 1 v2 ((Hw.frames (rs.take k)).length + (6 + r.length)) (u8s (Hw.frames (rs.take k)) ++ u8s (Hw.frameOf r))) (g2 : w1.grownBy w2 t5.ownBlock) : App1 rs w (k + 1) v2 w2 := by
  obtain ⟨h1, h2, h3⟩ := h
  have hs := h2.size
  have hs1 := hb.size
  refine ⟨?_, (h2.trans (hb.mono hs)).grown g2 (by omega) (fun b hb => (h1.lt b hb).1), fun r' hr' => ?_⟩
  · rw [take_snoc' rs k r hr, Hw.frames_append, u8s_append]
    have : (Hw.frames [r]) = Hw.frameOf r := by simp [Hw.frames]
    rw [this, List.length_append, Hw.frameOf_length]; exact o2
  · rw [take_snoc' rs k r hr] at hr'
    rcases List.mem_append.1 hr' with h | h
    · exact h3 r' h
    · rw [List.mem_singleton.1 h]; exact hl
theorem app_put {j : Hw.HJ} {d : Hw.HDisk} {rs : List Hw.Bytes} (hb : j.broken = false) (hl : ∀ r ∈ rs, r.length ≤ 16384) :
    j.append d rs = if (j.put d (Hw.w64 (2 + j.turn)) (Hw.frames rs)).1 ≠ 0 then j.put d (Hw.w64 (2 + j.turn)) (Hw.frames rs) else
      (0, { (j.put d (Hw.w64 (2 + j.turn)) (Hw.frames rs)).2.1 with records := (j.put d (Hw.w64 (2 + j.turn)) (Hw.frames rs)).2.1.records ++ rs }, (j.put d (Hw.w64 (2 + j.turn)) (Hw.frames rs)).2.2) := by
  have hany : (rs.any fun r => decide (16384 < r.length)) = false := by
    rw [List.any_eq_false]; intro r hr; have := hl r hr; simp; omega
  unfold Hw.HJ.append
  simp only [hb, Bool.false_eq_true, if_false, hany]
  rfl
def App2 (B : Nat) (w0 : World) (p q : Nat) (F G : Nat → Prop) (w : World) (d : Hw.HDisk) (j : Hw.HJ) (rs : List Hw.Bytes) (k : Nat) (wr : World) : Prop :=
  ∃ F' G', JS B w0 p q F G w d { j with records := j.records ++ rs.take k } wr F' G'
theorem App2.next {B : Nat} {w0 w wr w1 w2 w3 : World} {p q k : Nat} {d : Hw.HDisk} {F G F1 G1 : Nat → Prop} {j : Hw.HJ} {rs : List Hw.Bytes} {bv rv v3 vx : Value} {vs : List Value} {r : Hw.Bytes} (h : JS B w0 p q F G w d { j with records := j.records ++ rs.take k } wr F1 G1)
    (hj : JAt wr q p { j with records := j.records ++ rs.take k } G1 bv rv vs) (hL : (j.records ++ rs.take k).length = j.records.length + k) (hrk : rs[k]? = some r) (hb1 : Below wr.heap.size wr w1)
    (hx : w1.ownsRow wr.heap.size 5 1 vx r.length (u8s r)) (hu2 : Upd (fun _ => False) w1 w2) (o3 : w3.ownsRow 0 22 1 v3 (j.records.length + k + 1) (vs ++ [vx])) (g3 : w2.grownBy w3 rv.ownBlock)
    (a3 : v3.ownBlock = rv.ownBlock ∨ v3.ownBlock = some w2.heap.size) (hr : r.length ≤ 1000000) : App2 B w0 p q F G w d j rs (k + 1) (w3.setCell ⟨q, 3, none⟩ v3) := by
  obtain ⟨G2, h2⟩ := h.snoc hj hb1 hx hu2 (by show w3.ownsRow 0 _ 1 v3 ((j.records ++ rs.take k).length + 1) _; rw [hL]; exact o3) g3 a3 hr
  refine ⟨F1, G2, ?_⟩
  rw [take_snoc' rs k r hrk, ← List.append_assoc]; exact h2
end Go.Proofs.YtihncdlbbhmglaaDoor

/- Walks: journal.Append, the walk. -/
namespace Go.Proofs.YtihncdlbbhmglaaDoor
open Go.RowKit
theorem App1.done {rs : List Hw.Bytes} {w wr : World} {t5 : Value} (h : App1 rs w rs.length t5 wr) : wr.ownsRow w.heap.size 5 1 t5 (Hw.frames rs).length (u8s (Hw.frames rs)) ∧ Below w.heap.size w wr ∧ ∀ r ∈ rs, r.length ≤ 16384 := by
  unfold App1 at h; rwa [List.take_length] at h
theorem put_zero {j j1 : Hw.HJ} {d dA : Hw.HDisk} {n : Int} {b : Hw.Bytes} (h : j.put d n b = (0, j1, dA)) : j1 = j := by
  unfold Hw.HJ.put at h
  simp only at h
  split at h
  · rename_i h1; simp only [Prod.mk.injEq] at h; exact absurd h.1 h1
  · simp only [Prod.mk.injEq] at h; rw [← h.2.1, h.1]; rfl
theorem App2.start {B : Nat} {w0 w wr : World} {p q : Nat} {F G F1 G1 : Nat → Prop} {d : Hw.HDisk} {j : Hw.HJ} {rs : List Hw.Bytes} (h : JS B w0 p q F G w d j wr F1 G1) : App2 B w0 p q F G w d j rs 0 wr := by
  refine ⟨F1, G1, ?_⟩
  simpa using h
theorem w64_wrap (x : Int) : IntKind.i64.wrap x = Hw.w64 x := by rw [IntKind.wrap_i64]; rfl
set_option maxRecDepth 100000 in
set_option maxHeartbeats 4000000 in
theorem journal_Append_open {B : Nat} {w0 w : World} {p q : Nat} {d d2 : Hw.HDisk} {F G M : Nat → Prop} {j j2 : Hw.HJ} (h : JJ B w0 w p d F q j G) (hbr : j.broken = false) (hjn : j.records.length ≤ 1000000000) {v : Value} {rs : List Hw.Bytes} {us : List Value}
    (hv : RdC M w 1 v rs.length us) (hrs : RdRows M w us rs) (hMF : ∀ b, F b → M b) (hMG : ∀ b, G b → M b) (hn : rs.length ≤ 1000000) {k : Int} (hr : j.append d rs = (k, j2, d2)) {r : Value} (hk : errV k = r) :
    Calls Tryd.prog 22 #[.pointer (some ⟨q, 0, none⟩), v] w (JRet B w0 p q F G w r d2 j2) := by
  obtain ⟨i0, hi, hz0, hz1, hz2⟩ := info_parts u8row
  obtain ⟨i1, hi1, hy0, hy1, hy2⟩ := info_parts rowsrow
  obtain ⟨c0, c1, c4, t0, t1⟩ := h.at
  rw [hbr] at c4
  have hwT := w64_wrap (2 + j.turn)
  generalize hT : Hw.w64 (2 + j.turn) = T at hwT
  have HT := Lib.hid hT; clear hT
  obtain ⟨A, c, rfl, l1, l2⟩ := hv.len
  unfold maxLen at l2
  have HV := Lib.hid (And.intro hv hrs)
  have HM := Lib.hid (And.intro hMF hMG)
  have H := Lib.hid (JS.refl h)
  have HR := Lib.hid hr
  have HK := Lib.hid hk
  have HB := Lib.hid hbr
  clear h hv hrs hMF hMG hr hk hbr
  go_enter Tryd.func22, Tryd.ntmps22
  go_wp2
  go_loopw [5, 20] (fun t5 t20 wr => ∃ k : Nat, k ≤ rs.length ∧ t20 = .int .i64 k ∧ App1 rs w k t5 wr) (fun _ k _ => (rs.length - intOf k).toNat)
  case atStart => exact ⟨0, by omega, rfl, by simpa [App1, Hw.frames, u8s] using ⟨World.ownsRow_nil w w.heap.size 5 1, Below.refl _ _⟩⟩
  case round =>
    obtain ⟨k1, hk1, rfl, hrel⟩ := hrel
    by_cases hlt : k1 < rs.length
    · obtain ⟨x, hx⟩ : ∃ x, rs[k1]? = some x := ⟨rs[k1], List.getElem?_eq_getElem hlt⟩
      obtain ⟨u, hu, hux⟩ := HV.out.2.get hx
      obtain ⟨A2, c2, rfl, m1, m2⟩ := hux.len
      obtain ⟨b, o, c', hva, _, _, _, _, hbl, g4⟩ := HV.out.1.at (by omega)
      cases hva
      have hc : ‹World›.cell? ⟨b, o + k1, none⟩ = some (.slice A2 x.length c2) := (hrel.2.1.cell (p := ⟨b, o + k1, none⟩) hbl).trans (g4 k1 _ hu)
      have HX := Lib.hid (hux.below hrel.2.1)
      have HXR := Lib.hid hx
      have hsz := hrel.2.1.size
      have hfl : (Hw.frames (rs.take k1)).length ≤ 16390000000 := by
        have := Hw.frames_len_le (n := 16384) hrel.2.2
        rw [List.length_take] at this; omega
      have HL := Lib.hid hrel
      clear g4 hu hux hx hrel m1 m2 hbl
      by_cases hl : x.length ≤ 16384
      · go_wp2_with (first
          | (go_at_call 15; refine (frame_Make M _ x _ HX.out hl).mono ?_; rintro e w1 ⟨v1, rfl, o1, hb1⟩; have hsz1 := hb1.size; obtain ⟨A3, c3, rfl⟩ := own_form o1; have HO := Lib.hid o1; have HB1 := Lib.hid hb1; clear o1 hb1)
          | (at_builtin; refine wpAppend _ rfl _ _ 22 rfl w.heap.size 5 i0 (.int .u8 0) 1 1 u8slice hi hz0 hz1 hz2 rfl (by decide) _ _ _ rfl (own_upd HL.out.1 (Upd.of_below (F := fun _ => False) HB1.out) (fun _ _ h => h)) (fun _ => False) _ (6 + x.length) (u8s (Hw.frameOf x)) rfl (RdC.of_own HO.out (fun _ _ h => h)) ?_ ?_ ?_ ?_ ?_))
        · exact u8s_one _
        · unfold maxLen; omega
        · omega
        · omega
        · intro v2 w2 o2 g2 a2
          have HN := Lib.hid (HL.out.next HXR.out hl HB1.out o2 g2)
          clear o2 g2 a2
          go_wp2_with fail
          go_roundw
          case rel => exact ⟨k1 + 1, by omega, by go_num, HN.out⟩
          case measure => simp [intOf]; omega
      · go_wp2_with (go_at_call 15; refine (frame_Make_long M _ x _ HX.out (by omega)).mono ?_; rintro e w1 ⟨rfl, rfl⟩)
        go_ret
        have := HR.out
        rw [Hw.HJ.append_long HB.out (List.mem_of_getElem? HXR.out) (by omega)] at this
        simp only [Prod.mk.injEq] at this
        obtain ⟨rfl, rfl, rfl⟩ := this
        exact ⟨by rw [← HK.out]; rfl, F, G, H.out.below HL.out.2.1⟩
    · have hk1' : k1 = rs.length := by omega
      rw [hk1'] at hrel
      have hd := hrel.done
      have hfl : (Hw.frames rs).length ≤ 16390000000 := by
        have := Hw.frames_len_le (n := 16384) hd.2.2
        omega
      have HP := Lib.hid (app_put (d := d) HB.out hd.2.2)
      have HF := Lib.hid (RdB.of_own (M := F) hd.1 (fun b hb hf => by have := (hd.1.lt b hb).1; have := H.out.jj.dd.disk.lt hf; omega))
      have HS := Lib.hid hd.2.2
      have h1 := H.out.below hd.2.1
      obtain ⟨d0, d1, _, _, _⟩ := h1.at
      have H1 := Lib.hid h1
      have hsz := hd.2.1.size
      clear hd hrel h1 c0 c1 c4
      rcases hp : j.put d T (Hw.frames rs) with ⟨k3, j1, dA⟩
      have HPP := Lib.hid hp
      have hr := HR.out
      rw [HP.out, HT.out, hp] at hr
      clear hp HP
      by_cases h3 : k3 = 0
      · subst h3
        obtain rfl := put_zero HPP.out
        simp only [ne_eq, not_true_eq_false, if_false, Prod.mk.injEq] at hr
        obtain ⟨rfl, rfl, rfl⟩ := hr
        go_wp2_with (go_at_call 43; refine (journal_put H1.out.jj HF.out (by omega) HPP.out errV_0).mono ?_; intro e w2 hr2; obtain ⟨rfl, F2, G2, h2⟩ := H1.out.next hr2; have H2 := Lib.hid h2; clear hr2 h2)
        go_loopw [49] (fun t49 wr => ∃ (k : Nat) (wr' : World), wr' = wr ∧ k ≤ rs.length ∧ t49 = .int .i64 k ∧ App2 B w0 p q F G w dA j1 rs k wr') (fun k _ => (rs.length - intOf k).toNat)
        case atStart => exact ⟨0, _, rfl, by omega, rfl, App2.start H2.out⟩
        case round =>
          clear d0 d1
          obtain ⟨k2, wr, rfl, hk2, rfl, F3, G3, h4⟩ := hrel
          by_cases hlt : k2 < rs.length
          · obtain ⟨x, hx⟩ : ∃ x, rs[k2]? = some x := ⟨rs[k2], List.getElem?_eq_getElem hlt⟩
            have hFM : ∀ n, F n ∨ G n → M n ∨ w.heap.size ≤ n := fun n h => .inl (h.elim (HM.out.1 n) (HM.out.2 n))
            have hv4 := HV.out.1.upd h4.u hFM (fun _ h => .inl h)
            have hr4 := HV.out.2.upd h4.u hFM (fun _ h => .inl h)
            obtain ⟨u, hu, hux⟩ := hr4.get hx
            obtain ⟨A2, c2, rfl, m1, m2⟩ := hux.len
            obtain ⟨b, o, c', hva, _, _, _, _, hbl, g4⟩ := hv4.at (by omega)
            cases hva
            have hc := g4 k2 _ hu
            obtain ⟨bv, rv, vs, hj⟩ := h4.jj.jat
            obtain ⟨A4, c4', rfl⟩ := own_form hj.own
            have hln : (j1.records ++ rs.take k2).length = j1.records.length + k2 := by rw [List.length_append, List.length_take]; omega
            simp only [hln] at hj
            have hc3 := hj.cells.2.2.2.1
            have hf3 := hj.unfrozen 3
            have hq3 : (⟨q, 3, none⟩ : Addr).block < wr.heap.size := blk_lt hj.top
            have hne := hj.row_ne
            have hxl : x.length ≤ 16384 := HS.out x (List.mem_of_getElem? hx)
            have HJA := Lib.hid hj
            have HX := Lib.hid hux
            have HXR := Lib.hid hx
            have HL := Lib.hid hln
            have H4 := Lib.hid h4
            have HQ := Lib.hid (And.intro hq3 hne)
            clear g4 hu hux hx hbl hv4 hr4 hFM hj hln h4 hq3 hne m1 m2
            go_wp2_with fail
            have hxl2 : 0 + x.length ≤ maxLen := by unfold maxLen; omega
            have hxl3 : (0 + x.length) * 1 ≤ 140737488355328 := by omega
            have hnl2 : j1.records.length + k2 + 1 ≤ maxLen := by unfold maxLen; omega
            have hnl3 : (j1.records.length + k2 + 1) * 24 ≤ 140737488355328 := by omega
            have hown := HJA.out.own
            simp only [HL.out] at hown
            have HOWN := Lib.hid hown; clear hown
            have hone : ∀ A n c, ∀ u ∈ [Value.slice A n c], u.oneCell' = true := fun A n c u hu => by rw [List.mem_singleton.1 hu]; rfl
            go_region_law
              (first
                | (refine stepAppend _ (by rfl) _ _ _ (by rfl) wr.heap.size 5 i0 (.int .u8 0) 1 1 u8slice hi hz0 hz1 hz2 rfl (by decide) (.slice none 0 0) 0 [] (by rfl) (World.ownsRow_nil _ _ _ _) M _ x.length (u8s x) (by rfl) (by first | exact HX.out | exact RdC.below HX.out (bel_drewN (Below.refl _ _) _)) (u8s_one _) hxl2 hxl3 (by simp) ?_; intro A5 c5 w5 o5 g5 a5; simp only [Nat.zero_add, List.nil_append] at o5; have hb5 : Below wr.heap.size wr w5 := ((Below.refl _ _).drew).grown g5 (Nat.le_refl _) (by intro k hk; cases hk); have hq5 : q < w5.heap.size := Nat.lt_of_lt_of_le HQ.out.1 g5.size; have hc5 := (g5.cell_far ⟨q, 3, none⟩ HQ.out.1 (by simp [Value.ownBlock])).trans hc3; have hf5 := (g5.frozen_far ⟨q, 3, none⟩ HQ.out.1 (by simp [Value.ownBlock])).trans hf3)
                | (refine stepAppend _ (by rfl) _ _ _ (by rfl) 0 22 i1 (.slice none 0 0) 1 24 rowsslice hi1 hy0 hy1 hy2 rfl (by decide) (.slice A4 (j1.records.length + k2) c4') (j1.records.length + k2) vs (by rfl) ((own_upd HOWN.out (Upd.of_below (F := fun _ => False) hb5) (fun _ _ h => h)).alloc _) (fun _ => False) (.slice (some ⟨w5.heap.size, 0, none⟩) 1 1) 1 _ (by rfl) (RdC.made _ 1 1 #[.slice A5 x.length c5] _ rfl (by decide) (fun h => h)) (hone _ _ _) hnl2 hnl3 (Nat.zero_le _) ?_; intro A6 c6 w6 o6 g6 a6; have hc6 := (g6.cell_far ⟨q, 3, none⟩ (by simp; omega) (fun e => HQ.out.2 e.symm)).trans ((World.cell?_alloc_lt _ _ ⟨q, 3, none⟩ hq5).trans hc5); have hf6 := (g6.frozen_far ⟨q, 3, none⟩ (by simp; omega) (fun e => HQ.out.2 e.symm)).trans ((World.frozen?_alloc_old _ _ ⟨q, 3, none⟩ (Nat.ne_of_lt hq5)).trans hf5)))
            all_goals
              have HN := Lib.hid (App2.next H4.out HJA.out HL.out HXR.out hb5 o5 ((Upd.refl _ w5).alloc _) o6 g6 a6 (by omega))
              clear o5 g5 a5 o6 g6 a6 hb5
              go_wp2_with fail
              go_roundw
              case rel => exact ⟨k2 + 1, _, rfl, by omega, by go_num, HN.out⟩
              case measure => simp [intOf]; omega
          · have hk2' : k2 = rs.length := by omega
            rw [hk2', List.take_length] at h4
            have H4 := Lib.hid h4; clear h4
            go_wp2_with fail
            go_ret
            exact ⟨by rw [← HK.out]; rfl, F3, G3, H4.out⟩
      · rw [if_pos h3] at hr
        simp only [Prod.mk.injEq] at hr
        obtain ⟨rfl, rfl, rfl⟩ := hr
        have HE := Lib.hid (errV_ne h3)
        clear h3
        go_wp2_with (go_at_call 43; refine (journal_put H1.out.jj HF.out (by omega) HPP.out HE.out).mono ?_; intro e w2 hr2; obtain ⟨rfl, F2, G2, h2⟩ := H1.out.next hr2; have H2 := Lib.hid h2; clear hr2 h2)
        go_ret
        exact ⟨by rw [← HK.out, HE.out]; rfl, F2, G2, H2.out⟩
end Go.Proofs.YtihncdlbbhmglaaDoor

/- Walks: journal.Save. -/
namespace Go.Proofs.YtihncdlbbhmglaaDoor
open Go.RowKit

theorem dd_Rename {B : Nat} {w0 w : World} {p : Nat} {d d' : Hw.HDisk} {F : Nat → Prop} (h : DD B w0 w p d F) {n m : Int} {k : Int} (hr : d.rename n m = (k, d')) {r : Value} (hk : errV k = r) :
    Calls Tryd.prog 44 #[.pointer (some ⟨p, 0, none⟩), .int .i64 n, .int .i64 m] w (DRet B w0 p F w r d') :=
  (disk_Rename p d F n m w h.disk).mono fun e w' hh => h.ret (by rwa [hr] at hh) hk
theorem dd_Remove {B : Nat} {w0 w : World} {p : Nat} {d d' : Hw.HDisk} {F : Nat → Prop} (h : DD B w0 w p d F) {n : Int} {k : Int} (hr : d.remove n = (k, d')) {r : Value} (hk : errV k = r) :
    Calls Tryd.prog 40 #[.pointer (some ⟨p, 0, none⟩), .int .i64 n] w (DRet B w0 p F w r d') :=
  (disk_Remove p d F n w h.disk).mono fun e w' hh => h.ret (by rwa [hr] at hh) hk
theorem dd_Cut {B : Nat} {w0 w : World} {p : Nat} {d d' : Hw.HDisk} {F : Nat → Prop} (h : DD B w0 w p d F) {n m : Int} {k : Int} (hr : d.cut n m = (k, d')) {r : Value} (hk : errV k = r) :
    Calls Tryd.prog 42 #[.pointer (some ⟨p, 0, none⟩), .int .i64 n, .int .i64 m] w (DRet B w0 p F w r d') :=
  (disk_Cut p d F n m w h.disk).mono fun e w' hh => h.ret (by rwa [hr] at hh) hk
/-- A snapshot has come. -/
theorem JAt.saved {wr w1 : World} {q p : Nat} {j : Hw.HJ} {G : Nat → Prop} {bv rv v3 : Value} {vs : List Value} {b : Hw.Bytes} (hj : JAt wr q p j G bv rv vs) (T : Int) (t0 : -9223372036854775808 ≤ T) (t1 : T ≤ 9223372036854775807) (hb : b.length ≤ 1000000)
    (o : w1.ownsRow wr.heap.size 5 1 v3 b.length (u8s b)) (g : (wr.setCell ⟨q, 1, none⟩ (.int .i64 T)).grownBy w1 none) :
    JAt ((w1.setCell ⟨q, 2, none⟩ v3).setCell ⟨q, 3, none⟩ (.slice none 0 0)) q p ⟨T, b, [], j.broken⟩ (fun x => G x ∨ (wr.heap.size ≤ x ∧ x < ((w1.setCell ⟨q, 2, none⟩ v3).setCell ⟨q, 3, none⟩ (.slice none 0 0)).heap.size)) v3 (.slice none 0 0) [] ∧
    Upd G wr ((w1.setCell ⟨q, 2, none⟩ v3).setCell ⟨q, 3, none⟩ (.slice none 0 0)) := by
  have hq : q < wr.heap.size := blk_lt hj.top
  have s0 : (wr.setCell ⟨q, 1, none⟩ (.int .i64 T)).heap.size = wr.heap.size := by simp [World.setCell]
  have s1 := g.size
  have u0 : Upd (fun b => b = q) wr (wr.setCell ⟨q, 1, none⟩ (.int .i64 T)) := (Upd.refl (fun b => b = q) wr).setCell (p := ⟨q, 1, none⟩) (.inl rfl) _
  have u1 : Upd (fun b => b = q) wr w1 := u0.trans (Upd.of_grown g) (fun _ _ e => by cases e)
  have u2 : Upd (fun b => b = q) w1 ((w1.setCell ⟨q, 2, none⟩ v3).setCell ⟨q, 3, none⟩ (.slice none 0 0)) :=
    ((Upd.refl (fun b => b = q) w1).setCell (p := ⟨q, 2, none⟩) (.inl rfl) _).setCell (p := ⟨q, 3, none⟩) (.inl rfl) _
  have s2 : ((w1.setCell ⟨q, 2, none⟩ v3).setCell ⟨q, 3, none⟩ (.slice none 0 0)).heap.size = w1.heap.size := by simp [World.setCell]
  have h1 : w1.heap[q]? = some (.cells #[.pointer (some ⟨p, 0, none⟩), .int .i64 T, bv, rv, .bool j.broken] 78 (0, 0)) := by
    rw [g.block q (by omega) (by simp), blk_set hj.top]; rfl
  have uG : Upd G wr ((w1.setCell ⟨q, 2, none⟩ v3).setCell ⟨q, 3, none⟩ (.slice none 0 0)) := (u1.trans u2 (fun _ _ h => h)).mono (fun b _ e => e ▸ hj.gq)
  have hx1 : RdB (fun b => b < wr.heap.size) w1 v3 b := RdB.of_own o (fun k hk => by have := (o.lt k hk).1; omega)
  refine ⟨⟨by rw [blk_set (blk_set h1 2 _)]; rfl, ?_, World.ownsRow_nil _ _ _ _, trivial, .inl hj.gq, (fun b hb => by cases hb), fun b hb => ?_, t0, t1, hb, (fun r hr => by cases hr)⟩, uG⟩
  · refine hx1.upd u2 (fun n h => .inl (by omega)) ?_
    rintro n (h | h | h)
    · by_cases hn : n < wr.heap.size
      · exact .inl hn
      · right
        rcases Nat.lt_or_ge n ((w1.setCell ⟨q, 2, none⟩ v3).setCell ⟨q, 3, none⟩ (.slice none 0 0)).heap.size with h2 | h2
        · exact absurd (.inr ⟨by omega, h2⟩) h
        · omega
    · exact .inl (by omega)
    · cases h
  · rcases hb with h | h
    · have := hj.lt b h; omega
    · exact h.2
theorem JS.saved {B : Nat} {w0 w wr w1 : World} {p q : Nat} {d : Hw.HDisk} {F G F1 G1 : Nat → Prop} {j : Hw.HJ} {v3 : Value} {b : Hw.Bytes} (h : JS B w0 p q F G w d j wr F1 G1) (T : Int) (t0 : -9223372036854775808 ≤ T) (t1 : T ≤ 9223372036854775807) (hb : b.length ≤ 1000000)
    (o : w1.ownsRow wr.heap.size 5 1 v3 b.length (u8s b)) (g : (wr.setCell ⟨q, 1, none⟩ (.int .i64 T)).grownBy w1 none) :
    ∃ G2, JS B w0 p q F G w d ⟨T, b, [], j.broken⟩ ((w1.setCell ⟨q, 2, none⟩ v3).setCell ⟨q, 3, none⟩ (.slice none 0 0)) F1 G2 := by
  obtain ⟨bv, rv, vs, hj⟩ := h.jj.jat
  obtain ⟨k1, k2⟩ := hj.saved T t0 t1 hb o g
  have hs := h.jj.size
  refine ⟨_, h.trans ⟨⟨h.jj.dd.upd k2 (fun b hb => ⟨h.jj.own b hb, fun hf => h.jj.disj b hf hb⟩), ⟨v3, _, _, k1⟩, fun b hb => ?_, fun b hf hb => ?_⟩, fun _ h => .inl h, fun b hb => ?_, k2.mono (fun _ _ h => .inr h)⟩⟩
  · rcases hb with h' | h'
    · exact h.jj.own b h'
    · omega
  · rcases hb with h' | h'
    · exact h.jj.disj b hf h'
    · have := h.jj.dd.disk.lt hf; omega
  · rcases hb with h' | h'
    · exact .inl h'
    · exact .inr h'.1
/-- What Read returns of a journal's disk. -/
def ReadJ (B : Nat) (w0 : World) (p q : Nat) (F G : Nat → Prop) (w : World) (d : Hw.HDisk) (j : Hw.HJ) (F1 G1 : Nat → Prop) (is : Bool) (e : Ending) (w' : World) : Prop :=
  ∃ A n c, e = .returned (.tuple #[.slice A n c, .bool is]) ∧ JS B w0 p q F G w d j w' F1 G1
theorem js_Read {B : Nat} {w0 w w1 : World} {p q : Nat} {d1 : Hw.HDisk} {F G F1 G1 : Nat → Prop} {j1 : Hw.HJ} (h : JS B w0 p q F G w d1 j1 w1 F1 G1) (n : Int) {is : Bool} (hi : (d1.read n).isSome = is) :
    Calls Tryd.prog 31 #[.pointer (some ⟨p, 0, none⟩), .int .i64 n] w1 (ReadJ B w0 p q F G w d1 j1 F1 G1 is) :=
  (disk_Read p _ F1 n w1 h.jj.dd.disk).mono fun e w' hr => by
    cases hd : d1.read n with
    | none =>
      rw [hd] at hr hi
      obtain ⟨hb, rfl⟩ := hr
      subst hi
      exact ⟨_, _, _, rfl, h.below hb⟩
    | some bs =>
      rw [hd] at hr hi
      obtain ⟨hb, v, rfl, ho⟩ := hr
      subst hi
      obtain ⟨A, c, rfl⟩ := own_form ho
      exact ⟨_, _, _, rfl, h.below hb⟩
end Go.Proofs.YtihncdlbbhmglaaDoor

/- Walks: journal.Save, the walk. -/
namespace Go.Proofs.YtihncdlbbhmglaaDoor
open Go.RowKit

/-- The frame's argument: the turn, and the bytes. -/
theorem save_row {w2 : World} {T : Int} {b : Hw.Bytes} {v2 : Value} {B : Nat} (o2 : w2.ownsRow B 5 1 v2 ((Hw.varAll [T]).length + b.length) (u8s (Hw.varAll [T]) ++ u8s b)) : w2.ownsRow B 5 1 v2 (Hw.varPut T ++ b).length (u8s (Hw.varPut T ++ b)) := by
  have e : Hw.varAll [T] = Hw.varPut T := by simp [Hw.varAll]
  rw [e] at o2
  rw [u8s_append, List.length_append]; exact o2
theorem frame_own {w1 : World} {x : Hw.Bytes} {v1 : Value} {B : Nat} {F : Nat → Prop} (o : w1.ownsRow B 5 1 v1 (6 + x.length) (u8s (Hw.frameOf x))) (hF : ∀ b, F b → b < B) : RdB F w1 v1 (Hw.frameOf x) := by
  refine RdB.of_own (n := 6 + x.length) o (fun k hk hf => ?_)
  have := (o.lt k hk).1; have := hF k hf; omega
theorem save_eq {j : Hw.HJ} {d : Hw.HDisk} {b : Hw.Bytes} {T T2 : Int} (hb : j.broken = false) (hT : Hw.w64 (j.turn + 1) = T) (hT2 : Hw.w64 (2 + j.turn) = T2) (hl : (Hw.varPut T ++ b).length ≤ 16384) {k1 : Int} {j1 : Hw.HJ} {d1 : Hw.HDisk} (hp : j.put d 1 (Hw.frameOf (Hw.varPut T ++ b)) = (k1, j1, d1)) :
    (k1 ≠ 0 → j.save d b = (k1, j1, d1)) ∧ ∀ k2 d2, d1.rename 1 0 = (k2, d2) → k1 = 0 → (k2 ≠ 0 → j.save d b = (k2, j.fail k2, d2)) ∧
      (k2 = 0 → (d2.read T2 = none → j.save d b = (0, ⟨T, b, [], j.broken⟩, d2)) ∧ ∀ x, d2.read T2 = some x → j.save d b = ((d2.remove T2).1, (⟨T, b, [], j.broken⟩ : Hw.HJ).fail (d2.remove T2).1, (d2.remove T2).2)) := by
  have e : j.save d b = (let p := j.put d 1 (Hw.frameOf (Hw.varPut T ++ b))
    if p.1 ≠ 0 then p
    else
      let r := p.2.2.rename 1 0
      if r.1 ≠ 0 then (r.1, p.2.1.fail r.1, r.2)
      else
        match r.2.read T2 with
        | none => (0, ⟨T, b, [], p.2.1.broken⟩, r.2)
        | some _ => ((r.2.remove T2).1, (⟨T, b, [], p.2.1.broken⟩ : Hw.HJ).fail (r.2.remove T2).1, (r.2.remove T2).2)) := by
    unfold Hw.HJ.save
    rw [hT, hT2, if_neg (by rw [hb]; simp), if_neg (by omega)]
    rfl
  rw [hp] at e
  simp only at e
  refine ⟨fun h => by rw [e, if_pos h], fun k2 d2 hr hk => ?_⟩
  subst hk
  have hj := put_zero hp
  subst hj
  rw [hr] at e
  simp only [ne_eq, not_true_eq_false, if_false] at e
  refine ⟨fun h => by rw [e, if_pos h], fun h => ?_⟩
  subst h
  simp only [not_true_eq_false, if_false] at e
  exact ⟨fun h => by rw [e, h], fun x h => by rw [e, h]⟩
set_option maxRecDepth 100000 in
set_option maxHeartbeats 4000000 in
theorem journal_Save_open {B : Nat} {w0 w : World} {p q : Nat} {d d9 : Hw.HDisk} {F G M : Nat → Prop} {j j9 : Hw.HJ} (h : JJ B w0 w p d F q j G) (hbr : j.broken = false) {v : Value} {b : Hw.Bytes}
    (hv : RdB M w v b) (hb : b.length ≤ 1000000) (hMF : ∀ b, F b → M b) (hMG : ∀ b, G b → M b) {k : Int} (hr : j.save d b = (k, j9, d9)) {r : Value} (hk : errV k = r) :
    Calls Tryd.prog 23 #[.pointer (some ⟨q, 0, none⟩), v] w (JRet B w0 p q F G w r d9 j9) := by
  obtain ⟨i0, hi, hz0, hz1, hz2⟩ := info_parts u8row
  obtain ⟨c0, c1, c4, t0, t1⟩ := h.at
  rw [hbr] at c4
  have hwT := w64_wrap (j.turn + 1)
  have hwT2 := w64_wrap (2 + j.turn)
  generalize hT : Hw.w64 (j.turn + 1) = T at hwT
  generalize hT2 : Hw.w64 (2 + j.turn) = T2 at hwT2
  have hT0 : -9223372036854775808 ≤ T ∧ T ≤ 9223372036854775807 := by rw [← hT]; unfold Hw.w64; omega
  obtain ⟨A, c, rfl, l1, l2⟩ := hv.len
  unfold maxLen at l2
  have hvl : (Hw.varAll [T]).length ≤ 10 := by have := varAll_len (ns := [T]) (by intro n hn; rw [List.mem_singleton.1 hn]; exact hT0); simpa using this
  have HV := Lib.hid hv
  have H := Lib.hid (JS.refl h)
  have HTT := Lib.hid hT
  have HTT2 := Lib.hid hT2
  have HT := Lib.hid hT0
  have HR := Lib.hid hr
  have HK := Lib.hid hk
  have HB := Lib.hid hbr
  have HM := Lib.hid (And.intro hMF hMG)
  have hwn : 0 < w.heap.size := by have := h.jat.lt (b := q) (by obtain ⟨_, _, _, hj⟩ := h.jat; exact hj.gq); omega
  clear h hv hbr hT hT2 hT0 hr hk hMF hMG
  go_enter Tryd.func23, Tryd.ntmps23
  go_wp2_with (first
    | (go_at_call 16; refine (varint_All (fun _ => False) _ [T] _ (RdC.made _ 1 1 #[.int .i64 T] _ rfl (by decide) (fun h => h)) (by intro n hn; rw [List.mem_singleton.1 hn]; exact HT.out) (by simp)).mono ?_; rintro e w1 ⟨v1, rfl, o1, b1⟩; obtain ⟨A1, c1', rfl⟩ := own_form o1; have hs1 := b1.size; simp at hs1; have HO1 := Lib.hid o1; have HB1 := Lib.hid ((below_new w _).trans (b1.mono (by simp))); clear o1 b1)
    | (at_builtin; refine wpAppend _ rfl _ _ 22 rfl _ 5 i0 (.int .u8 0) 1 1 u8slice hi hz0 hz1 hz2 rfl (by decide) _ _ _ rfl HO1.out M _ b.length (u8s b) rfl (RdC.below HV.out HB1.out) ?_ ?_ ?_ ?_ ?_))
  · exact u8s_one _
  · unfold maxLen; omega
  · omega
  · simp; omega
  · intro v2 w2 o2 g2 a2
    have hb2 : Below w.heap.size w w2 := HB1.out.grown g2 (by omega) (fun k hk => by have := (HO1.out.lt k hk).1; simp at this; omega)
    have HB2 := Lib.hid hb2
    have hs2 := hb2.size
    have HX := Lib.hid (RdB.of_own (M := fun _ => False) (save_row o2) (fun _ _ h => h))
    obtain ⟨A2, c2', rfl⟩ := own_form o2
    clear o2 g2 a2 hb2
    by_cases hl : (Hw.varPut T ++ b).length ≤ 16384
    · rcases hp : j.put d 1 (Hw.frameOf (Hw.varPut T ++ b)) with ⟨k1, j1, d1⟩
      have hse := save_eq HB.out HTT.out HTT2.out hl hp
      have HSE := Lib.hid hse
      have HP := Lib.hid hp
      have hfl : (Hw.frameOf (Hw.varPut T ++ b)).length ≤ 20000 := by rw [Hw.frameOf_length]; omega
      clear hse hp
      by_cases hk1 : k1 = 0
      · subst hk1
        obtain rfl := put_zero HP.out
        rcases hrn : d1.rename 1 0 with ⟨k2, d2⟩
        have HRN := Lib.hid hrn
        have hse := HSE.out.2 k2 d2 hrn rfl
        clear hrn HSE
        by_cases hk2 : k2 = 0
        · subst hk2
          have hse2 := hse.2 rfl
          have HG := Lib.hid (show G q by obtain ⟨_, _, _, hj⟩ := H.out.jj.jat; exact hj.gq)
          have hrd : ∃ is, (d2.read T2).isSome = is := ⟨_, rfl⟩
          obtain ⟨is, hrd⟩ := hrd
          rcases hrm : d2.remove T2 with ⟨k3, d3⟩
          have HRM := Lib.hid hrm
          generalize hE3 : errV k3 = r3
          have HE3 := Lib.hid hE3
          have hse3 : j1.save d b = if is = true then (k3, (⟨T, b, [], j1.broken⟩ : Hw.HJ).fail k3, d3) else (0, ⟨T, b, [], j1.broken⟩, d2) := by
            cases hx : d2.read T2 with
            | none =>
              rw [hx] at hrd
              rw [hse2.1 hx, ← hrd]; rfl
            | some x =>
              rw [hx] at hrd
              rw [hse2.2 x hx, hrm, ← hrd]; rfl
          have HRD := Lib.hid hrd
          have HSE3 := Lib.hid hse3
          clear hse hse2 hse3 hrm hE3 hrd
          cases is
          all_goals
            go_wp2_with (first
              | (go_at_call 15; refine (frame_Make _ _ _ _ HX.out hl).mono ?_; rintro e w3 ⟨v3, rfl, o3, b3⟩; have H3 := Lib.hid (H.out.below (HB2.out.trans (b3.mono hs2))); have HF := Lib.hid (frame_own o3 (fun b hb => Nat.lt_of_lt_of_le (H.out.jj.dd.disk.lt hb) hs2)); clear o3 b3)
              | (go_at_call 43; refine (journal_put H3.out.jj HF.out (by omega) HP.out errV_0).mono ?_; intro e w4 hr2; obtain ⟨rfl, F2, G2, h2⟩ := H3.out.next hr2; obtain ⟨d0, d1', _, _, _⟩ := h2.at; have H4 := Lib.hid h2; clear hr2 h2)
              | (go_at_call 44; refine (dd_Rename H4.out.jj.dd HRN.out errV_0).mono ?_; intro e w5 hr5; obtain ⟨rfl, F3, h5⟩ := H4.out.disk hr5; obtain ⟨bv, rv, vs, hj⟩ := h5.jj.jat; obtain ⟨e0, e1, e2, e3, e4⟩ := hj.cells; have f1 := hj.unfrozen 1; have f2 := hj.unfrozen 2; have f3 := hj.unfrozen 3; have hq5 : q < w5.heap.size := blk_lt hj.top; have HJA := Lib.hid hj; have hu5 := (Upd.refl (fun b => b = q) w5).setCell (p := ⟨q, 1, none⟩) (.inl rfl) (.int .i64 T); have HV5 := Lib.hid ((HV.out.upd h5.u (M' := M) (fun n h => .inl (h.elim (HM.out.1 n) (HM.out.2 n))) (fun _ h => .inl h)).upd hu5 (M' := M) (fun n e => .inl (e ▸ HM.out.2 q HG.out)) (fun _ h => .inl h)); have H5 := Lib.hid h5; clear hr5 h5 hj hu5)
              | (at_builtin; refine wpAppend _ rfl _ _ 22 rfl w5.heap.size 5 i0 (.int .u8 0) 1 1 u8slice hi hz0 hz1 hz2 rfl (by decide) _ 0 _ rfl (World.ownsRow_nil _ _ _ _) M _ b.length (u8s b) rfl HV5.out ?_ ?_ ?_ ?_ ?_))
            · exact u8s_one _
            · unfold maxLen; omega
            · omega
            · simp [World.setCell]
            · intro v6 w6 o6 g6 a6
              try simp only [Nat.zero_add, List.nil_append] at o6
              obtain ⟨A6, c6', rfl⟩ := own_form o6
              have hg : (w5.setCell ⟨q, 1, none⟩ (.int .i64 T)).grownBy w6 none := g6
              obtain ⟨G7, h7⟩ := H5.out.saved T HT.out.1 HT.out.2 hb o6 hg
              have hq6 : w6.heap[q]? = some (.cells #[.pointer (some ⟨p, 0, none⟩), .int .i64 T, bv, rv, .bool j1.broken] 78 (0, 0)) := by
                rw [hg.block q (by simp [World.setCell]; exact hq5) (by simp), blk_set HJA.out.top]; rfl
              have k0 : w6.cell? ⟨q, 0, none⟩ = some (.pointer (some ⟨p, 0, none⟩)) := by simp [World.cell?, hq6]
              have k2 : w6.cell? ⟨q, 2, none⟩ = some bv := by simp [World.cell?, hq6]
              have k3 : w6.cell? ⟨q, 3, none⟩ = some rv := by simp [World.cell?, hq6]
              have m2 : w6.frozen? ⟨q, 2, none⟩ = false := by simp [World.frozen?, hq6]
              have m3 : w6.frozen? ⟨q, 3, none⟩ = false := by simp [World.frozen?, hq6]
              have H7 := Lib.hid h7
              clear h7 hq6 hg o6 g6 a6
              go_wp2_with (first
                | (go_at_call 31; refine (js_Read H7.out T2 HRD.out).mono ?_; rintro e w8 ⟨A8, n8, c8, rfl, h8⟩; obtain ⟨y0, _, _, _, _⟩ := h8.at; have H8 := Lib.hid h8; clear h8)
                | (go_at_call 40; refine (dd_Remove H8.out.jj.dd HRM.out HE3.out).mono ?_; intro e w9 hr9; obtain ⟨rfl, F9, h9⟩ := H8.out.disk hr9; have H9 := Lib.hid h9; clear hr9 h9)
                | (go_at_call 45; refine (journal_fail H9.out HE3.out).mono ?_; rintro e w10 ⟨rfl, h10⟩; have H10 := Lib.hid h10; clear h10))
              go_ret
              have hr := HR.out
              rw [HSE3.out] at hr
              simp only [Bool.false_eq_true, if_false, if_true, Prod.mk.injEq] at hr
              obtain ⟨rfl, rfl, rfl⟩ := hr
              first
                | exact ⟨by rw [← HK.out, HE3.out]; rfl, F9, G7, H10.out⟩
                | exact ⟨by rw [← HK.out]; rfl, F3, G7, H8.out⟩
        · have hr := HR.out
          rw [hse.1 hk2] at hr
          simp only [Prod.mk.injEq] at hr
          obtain ⟨rfl, rfl, rfl⟩ := hr
          have HE := Lib.hid (errV_ne hk2)
          clear hk2 hse
          go_wp2_with (first
            | (go_at_call 15; refine (frame_Make _ _ _ _ HX.out hl).mono ?_; rintro e w3 ⟨v3, rfl, o3, b3⟩; have H3 := Lib.hid (H.out.below (HB2.out.trans (b3.mono hs2))); have HF := Lib.hid (frame_own o3 (fun b hb => Nat.lt_of_lt_of_le (H.out.jj.dd.disk.lt hb) hs2)); clear o3 b3)
            | (go_at_call 43; refine (journal_put H3.out.jj HF.out (by omega) HP.out errV_0).mono ?_; intro e w4 hr2; obtain ⟨rfl, F2, G2, h2⟩ := H3.out.next hr2; obtain ⟨d0, d1', _, _, _⟩ := h2.at; have H4 := Lib.hid h2; clear hr2 h2)
            | (go_at_call 44; refine (dd_Rename H4.out.jj.dd HRN.out HE.out).mono ?_; intro e w5 hr5; obtain ⟨rfl, F3, h5⟩ := H4.out.disk hr5; have H5 := Lib.hid h5; clear hr5 h5)
            | (go_at_call 45; refine (journal_fail H5.out HE.out).mono ?_; rintro e w6 ⟨rfl, h6⟩; have H6 := Lib.hid h6; clear h6))
          go_ret
          exact ⟨by rw [← HK.out, HE.out]; rfl, F3, G2, H6.out⟩
      · have hr := HR.out
        rw [HSE.out.1 hk1] at hr
        simp only [Prod.mk.injEq] at hr
        obtain ⟨rfl, rfl, rfl⟩ := hr
        have HE := Lib.hid (errV_ne hk1)
        clear hk1
        go_wp2_with (first
          | (go_at_call 15; refine (frame_Make _ _ _ _ HX.out hl).mono ?_; rintro e w3 ⟨v3, rfl, o3, b3⟩; have H3 := Lib.hid (H.out.below (HB2.out.trans (b3.mono hs2))); have HF := Lib.hid (frame_own o3 (fun b hb => Nat.lt_of_lt_of_le (H.out.jj.dd.disk.lt hb) hs2)); obtain ⟨d0, d1', _, _, _⟩ := H3.out.at; clear o3 b3)
          | (go_at_call 43; refine (journal_put H3.out.jj HF.out (by omega) HP.out HE.out).mono ?_; intro e w4 hr2; obtain ⟨rfl, F2, G2, h2⟩ := H3.out.next hr2; have H4 := Lib.hid h2; clear hr2 h2))
        go_ret
        exact ⟨by rw [← HK.out, HE.out]; rfl, F2, G2, H4.out⟩
    · go_wp2_with (go_at_call 15; refine (frame_Make_long _ _ _ _ HX.out (by omega)).mono ?_; rintro e w3 ⟨rfl, rfl⟩)
      go_ret
      have hr := HR.out
      rw [Hw.HJ.save_long HB.out (by rw [HTT.out]; omega)] at hr
      simp only [Prod.mk.injEq] at hr
      obtain ⟨rfl, rfl, rfl⟩ := hr
      exact ⟨by rw [← HK.out]; rfl, F, G, H.out.below HB2.out⟩
end Go.Proofs.YtihncdlbbhmglaaDoor

/- Walks: journal.Open: words. -/
namespace Go.Proofs.YtihncdlbbhmglaaDoor
open Go.RowKit

/-- A journal that was made just now. -/
theorem JS.made {B : Nat} {w0 w : World} {p : Nat} {d : Hw.HDisk} {F : Nat → Prop} (h : DD B w0 w p d F) :
    JS B w0 p w.heap.size F (fun _ => False) w d ⟨0, [], [], false⟩ (w.alloc (.cells #[.pointer (some ⟨p, 0, none⟩), .int .i64 0, .slice none 0 0, .slice none 0 0, .bool false] 78)) F (fun b => b = w.heap.size) := by
  have hu : Upd (fun _ => False) w (w.alloc (.cells #[.pointer (some ⟨p, 0, none⟩), .int .i64 0, .slice none 0 0, .slice none 0 0, .bool false] 78)) := (Upd.refl _ _).alloc _
  refine ⟨⟨h.new hu, ⟨_, _, _, ⟨heap_alloc_new w _, RdB.nil _ _, World.ownsRow_nil _ _ _ _, trivial, rfl, (fun b hb => by cases hb), fun b hb => by simp; omega, by decide, by decide, by decide, (fun r hr => by cases hr)⟩⟩, fun b hb => ?_, fun b hf hb => ?_⟩, fun _ h => .inl h, fun b hb => .inr (by omega), hu.mono (fun _ _ h => h.elim)⟩
  · have := h.size; omega
  · have := h.disk.lt hf; omega
/-- The turn and the base are set. -/
theorem JAt.based {wr w1 : World} {q p : Nat} {j : Hw.HJ} {G : Nat → Prop} {bv rv v3 : Value} {vs : List Value} (hj : JAt wr q p j G bv rv vs) (T : Int) (t0 : -9223372036854775808 ≤ T) (t1 : T ≤ 9223372036854775807) {b : Hw.Bytes} (hb : b.length ≤ 1000000)
    (o : w1.ownsRow wr.heap.size 5 1 v3 b.length (u8s b)) (g : wr.grownBy w1 none) :
    JAt ((w1.setCell ⟨q, 1, none⟩ (.int .i64 T)).setCell ⟨q, 2, none⟩ v3) q p { j with turn := T, base := b } (fun x => G x ∨ (wr.heap.size ≤ x ∧ x < ((w1.setCell ⟨q, 1, none⟩ (.int .i64 T)).setCell ⟨q, 2, none⟩ v3).heap.size)) v3 rv vs ∧
    Upd G wr ((w1.setCell ⟨q, 1, none⟩ (.int .i64 T)).setCell ⟨q, 2, none⟩ v3) := by
  have hq : q < wr.heap.size := blk_lt hj.top
  have s1 := g.size
  have u1 : Upd (fun _ => False) wr w1 := (Upd.of_grown g).mono (fun _ _ e => by cases e)
  have u2 : Upd (fun b => b = q) w1 ((w1.setCell ⟨q, 1, none⟩ (.int .i64 T)).setCell ⟨q, 2, none⟩ v3) :=
    ((Upd.refl (fun b => b = q) w1).setCell (p := ⟨q, 1, none⟩) (.inl rfl) _).setCell (p := ⟨q, 2, none⟩) (.inl rfl) _
  have s2 : ((w1.setCell ⟨q, 1, none⟩ (.int .i64 T)).setCell ⟨q, 2, none⟩ v3).heap.size = w1.heap.size := by simp [World.setCell]
  have h1 : w1.heap[q]? = _ := (u1.block q hq (fun h => h)).trans hj.top
  have uq : Upd (fun b => b = q) wr ((w1.setCell ⟨q, 1, none⟩ (.int .i64 T)).setCell ⟨q, 2, none⟩ v3) := (u1.mono (G := fun b => b = q) (fun _ _ h => h.elim)).trans u2 (fun _ _ h => h)
  have hx1 : RdB (fun b => b < wr.heap.size) w1 v3 b := RdB.of_own o (fun k hk => by have := (o.lt k hk).1; omega)
  refine ⟨⟨by rw [blk_set (blk_set h1 1 _)]; rfl, ?_, own_upd hj.own uq (fun k hk e => hj.row_ne (e ▸ hk)), hj.recs.upd uq (fun n h => .inl (.inr (.inl h))) ?_, .inl hj.gq, (fun b hb => .inl (hj.grow b hb)), fun b hb => ?_, t0, t1, hb, hj.lr⟩, uq.mono (fun b _ e => e ▸ hj.gq)⟩
  · refine hx1.upd u2 (fun n h => .inl (by omega)) ?_
    rintro n (h | h | h)
    · by_cases hn : n < wr.heap.size
      · exact .inl hn
      · right
        rcases Nat.lt_or_ge n ((w1.setCell ⟨q, 1, none⟩ (.int .i64 T)).setCell ⟨q, 2, none⟩ v3).heap.size with h2 | h2
        · exact absurd (.inr ⟨by omega, h2⟩) h
        · omega
    · exact .inl (by omega)
    · exact .inl (own_lt hj.own h)
  · rintro n (h | h | h)
    · exact .inl (.inl (fun g => h (.inl g)))
    · exact .inl (.inr (.inl h))
    · exact .inl (.inr (.inr h))
  · rcases hb with h | h
    · have := hj.lt b h; omega
    · exact h.2
/-- The records are set: rows of their own. -/
theorem JAt.scanned {wr : World} {q p : Nat} {j : Hw.HJ} {G : Nat → Prop} {bv rv v3 : Value} {vs us : List Value} {rs : List Hw.Bytes} {B0 : Nat} (hj : JAt wr q p j G bv rv vs) (hB : ∀ b, G b → b < B0)
    (o : wr.ownsRow B0 22 1 v3 rs.length us) (hr : RdRows (fun b => b < B0 ∨ v3.ownBlock = some b) wr us rs) (hl : ∀ r ∈ rs, r.length ≤ 1000000) :
    JAt (wr.setCell ⟨q, 3, none⟩ v3) q p { j with records := rs } (fun x => G x ∨ (B0 ≤ x ∧ x < wr.heap.size)) bv v3 us ∧ Upd G wr (wr.setCell ⟨q, 3, none⟩ v3) := by
  have hq : q < B0 := hB q hj.gq
  have u : Upd (fun b => b = q) wr (wr.setCell ⟨q, 3, none⟩ v3) := (Upd.refl (fun b => b = q) wr).setCell (p := ⟨q, 3, none⟩) (.inl rfl) _
  have s : (wr.setCell ⟨q, 3, none⟩ v3).heap.size = wr.heap.size := by simp [World.setCell]
  have v3b : ∀ b, v3.ownBlock = some b → B0 ≤ b ∧ b < wr.heap.size := fun b hb => o.lt b hb
  have hM : ∀ n, JM (fun x => G x ∨ (B0 ≤ x ∧ x < wr.heap.size)) q v3 n → JM G q rv n ∨ B0 ≤ n := by
    rintro n (h | h | h)
    · exact .inl (.inl (fun g => h (.inl g)))
    · exact .inl (.inr (.inl h))
    · exact .inr (v3b n h).1
  have hbase : RdB (JM (fun x => G x ∨ (B0 ≤ x ∧ x < wr.heap.size)) q v3) wr bv j.base := by
    obtain ⟨A, c, e, h0, h1, h2, h3, h4⟩ := hj.base
    refine ⟨A, c, e, h0, h1, h2, h3, fun ad hA hc => ?_⟩
    obtain ⟨g1, g2, g3, g4⟩ := h4 ad hA hc
    refine ⟨g1, fun hm => ?_, g3, g4⟩
    rcases hM _ hm with h | h
    · exact g2 h
    · exact g2 (.inl (fun hg => by have := hB _ hg; omega))
  refine ⟨⟨by rw [blk_set hj.top]; rfl, hbase.upd u (fun n h => .inl (.inr (.inl h))) (fun _ h => .inl h), own_upd ?_ u (fun k hk e => by have := (v3b k hk).1; omega), ?_, .inl hj.gq, fun b hb => .inr (v3b b hb), fun b hb => ?_, hj.t0, hj.t1, hj.lb, hl⟩, u.mono (fun b _ e => e ▸ hj.gq)⟩
  · refine ⟨o.1, ?_⟩
    rcases o.2 with hn | ⟨g, cap, cur, e1, _, rest⟩
    · exact .inl hn
    · exact .inr ⟨g, cap, cur, e1, Nat.zero_le _, rest⟩
  · refine hr.upd u (fun n h => .inl (.inl (by omega))) ?_
    rintro n (h | h | h)
    · by_cases hn : n < B0
      · exact .inl (.inl hn)
      · right
        rcases Nat.lt_or_ge n wr.heap.size with h2 | h2
        · exact absurd (.inr ⟨by omega, h2⟩) h
        · exact h2
    · exact .inl (.inl (by omega))
    · exact .inl (.inr h)
  · rw [s]
    rcases hb with h | h
    · exact hj.lt b h
    · exact h.2
theorem JS.scanned {B : Nat} {w0 w wr : World} {p q : Nat} {d : Hw.HDisk} {F G F1 G1 : Nat → Prop} {j : Hw.HJ} {v3 : Value} {us : List Value} {rs : List Hw.Bytes} {B0 : Nat} (h : JS B w0 p q F G w d j wr F1 G1) (hB : ∀ b, G1 b → b < B0) (hF : ∀ b, F1 b → b < B0) (hB0 : w.heap.size ≤ B0) (hBB : B ≤ B0)
    (o : wr.ownsRow B0 22 1 v3 rs.length us) (hr : RdRows (fun b => b < B0 ∨ v3.ownBlock = some b) wr us rs) (hl : ∀ r ∈ rs, r.length ≤ 1000000) :
    ∃ G2, JS B w0 p q F G w d { j with records := rs } (wr.setCell ⟨q, 3, none⟩ v3) F1 G2 := by
  obtain ⟨bv, rv, vs, hj⟩ := h.jj.jat
  obtain ⟨k1, k2⟩ := hj.scanned hB o hr hl
  refine ⟨_, ⟨⟨h.jj.dd.upd k2 (fun b hb => ⟨h.jj.own b hb, fun hf => h.jj.disj b hf hb⟩), ⟨bv, v3, _, k1⟩, fun b hb => ?_, fun b hf hb => ?_⟩, h.f, fun b hb => ?_, h.u.trans k2 (fun b hb hg => ?_)⟩⟩
  · rcases hb with h' | h'
    · exact h.jj.own b h'
    · omega
  · rcases hb with h' | h'
    · exact h.jj.disj b hf h'
    · have := hF b hf; omega
  · rcases hb with h' | h'
    · exact h.g b h'
    · exact .inr (by omega)
  · rcases h.g b hg with e | e
    · exact .inr e
    · omega
/-- What Open returns. -/
def OpenRet (B : Nat) (w0 : World) (p : Nat) (F : Nat → Prop) (w : World) (k : Int) (j' : Hw.HJ) (d' : Hw.HDisk) (e : Ending) (w' : World) : Prop :=
  (k = 0 ∧ ∃ q F' G', e = .returned (.tuple #[.pointer (some ⟨q, 0, none⟩), .nilIface]) ∧ JS B w0 p q F (fun _ => False) w d' j' w' F' G') ∨
  (k ≠ 0 ∧ ∃ q F' G' j1, e = .returned (.tuple #[.pointer none, .iface 29 (.int .i64 k)]) ∧ JS B w0 p q F (fun _ => False) w d' j1 w' F' G')
end Go.Proofs.YtihncdlbbhmglaaDoor

/- Walks: journal.Open: the walk. -/
namespace Go.Proofs.YtihncdlbbhmglaaDoor
open Go.RowKit

theorem JS.based {B : Nat} {w0 w wr w1 : World} {p q : Nat} {d : Hw.HDisk} {F G F1 G1 : Nat → Prop} {v3 : Value} {b : Hw.Bytes} {j : Hw.HJ} (h : JS B w0 p q F G w d j wr F1 G1) (T : Int) (t0 : -9223372036854775808 ≤ T) (t1 : T ≤ 9223372036854775807) (hb : b.length ≤ 1000000)
    (o : w1.ownsRow wr.heap.size 5 1 v3 b.length (u8s b)) (g : wr.grownBy w1 none) :
    ∃ G2, JS B w0 p q F G w d { j with turn := T, base := b } ((w1.setCell ⟨q, 1, none⟩ (.int .i64 T)).setCell ⟨q, 2, none⟩ v3) F1 G2 := by
  obtain ⟨bv, rv, vs, hj⟩ := h.jj.jat
  obtain ⟨k1, k2⟩ := hj.based T t0 t1 hb o g
  have hs := h.jj.size
  refine ⟨_, h.trans ⟨⟨h.jj.dd.upd k2 (fun b hb => ⟨h.jj.own b hb, fun hf => h.jj.disj b hf hb⟩), ⟨v3, _, _, k1⟩, fun b hb => ?_, fun b hf hb => ?_⟩, fun _ h => .inl h, fun b hb => ?_, k2.mono (fun _ _ h => .inr h)⟩⟩
  · rcases hb with h' | h'
    · exact h.jj.own b h'
    · omega
  · rcases hb with h' | h'
    · exact h.jj.disj b hf h'
    · have := h.jj.dd.disk.lt hf; omega
  · rcases hb with h' | h'
    · exact .inl h'
    · exact .inr h'.1
theorem read_len {w : World} {p : Nat} {d : Hw.HDisk} {F : Nat → Prop} (h : IsDisk w p d F) {n : Int} {bs : Hw.Bytes} (hr : d.read n = some bs) : bs.length ≤ 262144 := by
  unfold Hw.HDisk.read at hr
  cases hf : d.find n with
  | none => rw [hf] at hr; cases hr
  | some f =>
    rw [hf] at hr; simp only [Option.map_some, Option.some.injEq] at hr
    have := Hw.HDisk.len_le d n
    rw [Hw.HDisk.len_some hf, hr] at this
    exact Nat.le_trans this (Nat.le_trans h.wf.room h.wf.most)
structure Read2 (B : Nat) (w0 : World) (p q : Nat) (F G : Nat → Prop) (w w1 : World) (d : Hw.HDisk) (j : Hw.HJ) (F1 G1 : Nat → Prop) (n : Int) (A : Option Addr) (m c : Nat) (is : Bool) (w' : World) : Prop where
  js : JS B w0 p q F G w d j w' F1 G1
  bel : Below w1.heap.size w1 w'
  no : is = false → d.read n = none ∧ A = none ∧ m = 0 ∧ c = 0
  yes : is = true → ∃ bs, d.read n = some bs ∧ m = bs.length ∧ bs.length ≤ 262144 ∧ w'.ownsRow w1.heap.size 5 1 (.slice A m c) bs.length (u8s bs)
theorem js_Read2 {B : Nat} {w0 w w1 : World} {p q : Nat} {d1 : Hw.HDisk} {F G F1 G1 : Nat → Prop} {j1 : Hw.HJ} (h : JS B w0 p q F G w d1 j1 w1 F1 G1) (n : Int) :
    Calls Tryd.prog 31 #[.pointer (some ⟨p, 0, none⟩), .int .i64 n] w1 (fun e w' => ∃ A m c is, e = .returned (.tuple #[.slice A m c, .bool is]) ∧ Read2 B w0 p q F G w w1 d1 j1 F1 G1 n A m c is w') :=
  (disk_Read p _ F1 n w1 h.jj.dd.disk).mono fun e w' hr => by
    cases hd : d1.read n with
    | none =>
      rw [hd] at hr
      obtain ⟨hb, rfl⟩ := hr
      exact ⟨_, _, _, _, rfl, ⟨h.below hb, hb, fun _ => ⟨hd, rfl, rfl, rfl⟩, fun h => by cases h⟩⟩
    | some bs =>
      rw [hd] at hr
      obtain ⟨hb, v, rfl, ho⟩ := hr
      obtain ⟨A, c, rfl⟩ := own_form ho
      exact ⟨_, _, _, _, rfl, ⟨h.below hb, hb, (fun h => by cases h), fun _ => ⟨bs, hd, rfl, read_len h.jj.dd.disk hd, ho⟩⟩⟩
theorem Read2.isNone {B : Nat} {w0 : World} {p q : Nat} {F G : Nat → Prop} {w w1 w' : World} {d : Hw.HDisk} {j : Hw.HJ} {F1 G1 : Nat → Prop} {n : Int} {A : Option Addr} {m c : Nat} {is : Bool} (h : Read2 B w0 p q F G w w1 d j F1 G1 n A m c is w') (hr : d.read n = none) : is = false ∧ A = none ∧ m = 0 ∧ c = 0 := by
  cases is with
  | false => exact ⟨rfl, (h.no rfl).2⟩
  | true => obtain ⟨bs, e, _⟩ := h.yes rfl; rw [hr] at e; cases e
theorem Read2.isSome {B : Nat} {w0 : World} {p q : Nat} {F G : Nat → Prop} {w w1 w' : World} {d : Hw.HDisk} {j : Hw.HJ} {F1 G1 : Nat → Prop} {n : Int} {A : Option Addr} {m c : Nat} {is : Bool} {bs : Hw.Bytes} (h : Read2 B w0 p q F G w w1 d j F1 G1 n A m c is w') (hr : d.read n = some bs) :
    is = true ∧ m = bs.length ∧ RdB (fun _ => False) w' (.slice A bs.length c) bs := by
  cases is with
  | false => have := (h.no rfl).1; rw [hr] at this; cases this
  | true =>
    obtain ⟨bs', e, e2, _, o⟩ := h.yes rfl
    rw [hr] at e; cases e; subst e2
    exact ⟨rfl, rfl, RdB.of_own o (fun _ _ h => h)⟩
def OpenMid (B : Nat) (w0 : World) (p : Nat) (F : Nat → Prop) (w : World) (d : Hw.HDisk) (r : Int × Hw.HJ × Hw.HDisk) (wx : World) : Prop :=
  ∃ t b F' G', JS B w0 p w.heap.size F (fun _ => False) w d ⟨t, b, [], false⟩ wx F' G' ∧ Hw.HJ.openRest d t b = r
def OpenLoop (B : Nat) (w0 : World) (p q : Nat) (F G : Nat → Prop) (wN : World) (j : Hw.HJ) (T2 : Int) (ns : List Int) (r : Int × Hw.HDisk) (k : Nat) (wr : World) : Prop :=
  ∃ dk Fk Gk, JS B w0 p q F G wN dk j wr Fk Gk ∧ Hw.HJ.removeAll T2 (ns.drop k) dk = r
theorem varGet_len {b rest : Hw.Bytes} {t : Int} (h : Hw.varGet b = some (t, rest)) : rest.length ≤ b.length := by
  have key : ∀ (b : Hw.Bytes) (k u : Nat) (t : Int) (rest : Hw.Bytes), Hw.varGetGo k u b = some (t, rest) → rest.length ≤ b.length := by
    intro b
    induction b with
    | nil => intro k u t rest h; cases h
    | cons c b ih =>
      intro k u t rest h
      unfold Hw.varGetGo at h
      split at h
      · cases h
      · split at h
        · cases h
        · split at h
          · have := ih _ _ _ _ h; simp; omega
          · split at h
            · cases h
            · simp only [Option.some.injEq, Prod.mk.injEq] at h
              rw [← h.2]; simp
  exact key b 0 0 t rest h
set_option maxRecDepth 100000 in
set_option maxHeartbeats 4000000 in
theorem journal_Open {B : Nat} {w0 w : World} {p : Nat} {d d' : Hw.HDisk} {F : Nat → Prop} (h : DD B w0 w p d F) (hfl : d.files.length ≤ 1000000000) {k : Int} {j' : Hw.HJ} (hr : Hw.HJ.openD d = (k, j', d')) :
    Calls Tryd.prog 18 #[.pointer (some ⟨p, 0, none⟩)] w (OpenRet B w0 p F w k j' d') := by
  obtain ⟨i0, hi, hz0, hz1, hz2⟩ := info_parts u8row
  have H0 := Lib.hid (JS.made h)
  have HD := Lib.hid h
  have HR := Lib.hid hr
  clear h hr
  go_enter Tryd.func18, Tryd.ntmps18
  go_upto_if 28 with ((go_at_call 31; refine (js_Read2 H0.out 0).mono ?_; rintro e w1 ⟨A1, m1, c1, is1, rfl, h1⟩; have H1 := Lib.hid h1; clear h1))
  go_cut [4] (fun s4 wx => s4 = .pointer (some ⟨w.heap.size, 0, none⟩) ∧ OpenMid B w0 p F w d (k, j', d') wx)
  case first =>
    cases is1
    · have hrd := (H1.out.no rfl).1
      have hopen : Hw.HJ.openRest d 0 [] = (k, j', d') := by
        have := HR.out; unfold Hw.HJ.openD at this; rw [hrd] at this; exact this
      have HO := Lib.hid hopen
      clear hrd hopen
      go_wp2_with fail
      go_meet
      exact ⟨rfl, 0, [], _, _, H1.out.js, HO.out⟩
    · obtain ⟨bs, hrd, rfl, hl, ho⟩ := H1.out.yes rfl
      have hop := HR.out
      unfold Hw.HJ.openD at hop
      rw [hrd] at hop
      simp only at hop
      have HX := Lib.hid (RdB.of_own (M := fun _ => False) ho (fun _ _ h => h))
      clear hrd ho
      have C := frame_One _ _ _ _ HX.out
      cases hf : Hw.frameOne bs with
      | none =>
        rw [hf] at C hop
        simp only [Prod.mk.injEq] at hop
        obtain ⟨rfl, rfl, rfl⟩ := hop
        have HC := Lib.hid C
        clear C hf
        go_wp2_with (go_at_call 17; refine HC.out.mono ?_; rintro e w2 ⟨hb2, rfl⟩; have HB2 := Lib.hid hb2; clear hb2)
        go_ret2
        exact .inr ⟨by decide, _, _, _, _, rfl, H1.out.js.below HB2.out⟩
      | some x =>
        obtain ⟨x, n⟩ := x
        rw [hf] at C hop
        simp only at hop
        have hxl := (Hw.frameOne_some hf).1
        have HC := Lib.hid C
        clear C hf
        by_cases hn : n = bs.length
        · rw [if_neg (by omega)] at hop
          have hne : ((n : Int) != (bs.length : Int)) = false := by simp [hn]
          have HN := Lib.hid hn; clear hn
          cases hv : Hw.varGet x with
          | none =>
            rw [hv] at hop
            simp only [Prod.mk.injEq] at hop
            obtain ⟨rfl, rfl, rfl⟩ := hop
            have HV := Lib.hid hv; clear hv
            go_wp2_with (first
              | (go_at_call 17; refine HC.out.mono ?_; rintro e w2 ⟨hb2, v2, rfl, o2⟩; have HX2 := Lib.hid (RdB.of_own (M := fun _ => False) o2 (fun _ _ h => h)); have HB2 := Lib.hid hb2; clear hb2 o2)
              | (go_at_call 19; refine (varint_Get _ _ _ _ HX2.out).mono ?_; intro e w3 hr3; rw [HV.out] at hr3; obtain ⟨⟨n3, rfl⟩, rfl⟩ := hr3))
            go_ret2
            exact .inr ⟨by decide, _, _, _, _, rfl, (H1.out.js.below HB2.out).below (bel_drewN (Below.refl _ _) _)⟩
          | some y =>
            obtain ⟨t, rest⟩ := y
            rw [hv] at hop
            simp only at hop
            have htr := Hw.varGet_lt hv
            have hrl := varGet_len hv
            have HV := Lib.hid hv; clear hv
            by_cases ht : t < 1
            · rw [if_pos ht] at hop
              simp only [Prod.mk.injEq] at hop
              obtain ⟨rfl, rfl, rfl⟩ := hop
              go_wp2_with (first
                | (go_at_call 17; refine HC.out.mono ?_; rintro e w2 ⟨hb2, v2, rfl, o2⟩; have HX2 := Lib.hid (RdB.of_own (M := fun _ => False) o2 (fun _ _ h => h)); have HB2 := Lib.hid hb2; clear hb2 o2)
                | (go_at_call 19; refine (varint_Get _ _ _ _ HX2.out).mono ?_; intro e w3 hr3; rw [HV.out] at hr3; obtain ⟨⟨n3, rfl⟩, v3, rfl, h3⟩ := hr3; have HX3 := Lib.hid h3; clear h3))
              go_ret2
              exact .inr ⟨by decide, _, _, _, _, rfl, (H1.out.js.below HB2.out).below (bel_drewN (Below.refl _ _) _)⟩
            · rw [if_neg ht] at hop
              have HO := Lib.hid hop; clear hop
              go_wp2_with (first
                | (go_at_call 17; refine HC.out.mono ?_; rintro e w2 ⟨hb2, v2, rfl, o2⟩; have HX2 := Lib.hid (RdB.of_own (M := fun _ => False) o2 (fun _ _ h => h)); have HB2 := Lib.hid hb2; clear hb2 o2)
                | (go_at_call 19; refine (varint_Get _ _ _ _ HX2.out).mono ?_; intro e w3 hr3; rw [HV.out] at hr3; obtain ⟨⟨n3, hw3⟩, v3, rfl, h3⟩ := hr3; obtain ⟨A3, c3, rfl, _, _⟩ := h3.len; have HX3 : Hid (RdB (fun _ => False) w3 (.slice A3 rest.length c3) rest) := Lib.hid (RdC.below h3 (by rw [hw3]; exact bel_drewN (Below.refl _ _) _)); have H3 := Lib.hid ((H1.out.js.below HB2.out).below (w2 := w3) (by rw [hw3]; exact bel_drewN (Below.refl _ _) _)); clear h3 hw3)
                | (at_builtin; refine wpAppend _ rfl _ _ 22 rfl w3.heap.size 5 i0 (.int .u8 0) 1 1 u8slice hi hz0 hz1 hz2 rfl (by decide) _ 0 _ rfl (World.ownsRow_nil _ _ _ _) (fun _ => False) _ rest.length (u8s rest) rfl HX3.out ?_ ?_ ?_ ?_ ?_))
              · exact u8s_one _
              · unfold maxLen; omega
              · omega
              · exact Nat.le_refl _
              · intro v4 w4 o4 g4 a4
                obtain ⟨bv, rv, vs, hj⟩ := H3.out.jj.jat
                have hq3 : w.heap.size < w3.heap.size := blk_lt hj.top
                have hq4 : w4.heap[w.heap.size]? = some (.cells #[.pointer (some ⟨p, 0, none⟩), .int .i64 0, bv, rv, .bool false] 78 (0, 0)) := (g4.block _ hq3 (by simp [Value.ownBlock])).trans hj.top
                have k1 : w4.cell? ⟨w.heap.size, 1, none⟩ = some (.int .i64 0) := by simp [World.cell?, hq4]
                have k2 : w4.cell? ⟨w.heap.size, 2, none⟩ = some bv := by simp [World.cell?, hq4]
                have f1 : w4.frozen? ⟨w.heap.size, 1, none⟩ = false := by simp [World.frozen?, hq4]
                have f2 : w4.frozen? ⟨w.heap.size, 2, none⟩ = false := by simp [World.frozen?, hq4]
                try simp only [Nat.zero_add, List.nil_append] at o4
                obtain ⟨A4, c4, rfl⟩ := own_form o4
                obtain ⟨G5, h5⟩ := H3.out.based t htr.1 htr.2 (by omega) o4 g4
                have H5 := Lib.hid h5
                clear h5 hq4 o4 g4 a4 hj
                go_wp2_with fail
                go_meet
                exact ⟨rfl, t, rest, _, _, H5.out, HO.out⟩
        · rw [if_pos (by omega)] at hop
          have hne : ((n : Int) != (bs.length : Int)) = true := by simp; omega
          simp only [Prod.mk.injEq] at hop
          obtain ⟨rfl, rfl, rfl⟩ := hop
          clear hn
          go_wp2_with (go_at_call 17; refine HC.out.mono ?_; rintro e w2 ⟨hb2, v2, rfl, o2⟩; have HB2 := Lib.hid hb2; clear hb2 o2)
          go_ret2
          exact .inr ⟨by decide, _, _, _, _, rfl, H1.out.js.below HB2.out⟩
  case rest =>
    obtain ⟨rfl, t, b, F1, G1, h1, hop⟩ := hcut
    have hwT2 := w64_wrap (2 + t)
    generalize hT2 : Hw.w64 (2 + t) = T2 at hwT2
    unfold Hw.HJ.openRest at hop
    rw [hT2] at hop
    have HT2 := Lib.hid hT2; clear hT2
    obtain ⟨e0, e1, _, t0, t1⟩ := h1.at
    have hnl : d.names.length ≤ 1000000000 := by
      have := (Hw.HDisk.perm_sortInts (d.files.map (·.1))).length_eq
      simp only [List.length_map] at this
      exact Nat.le_trans (Nat.le_of_eq this) hfl
    generalize hrr : Hw.HJ.removeAll T2 d.names d = rr at hop
    have HRR := Lib.hid hrr; clear hrr
    have HOP := Lib.hid hop; clear hop
    have H1 := Lib.hid h1; clear h1
    generalize hns : d.names = ns at hnl
    have HNS := Lib.hid hns; clear hns
    go_wp2_with (go_at_call 12; refine (disk_Names p d F1 _ H1.out.jj.dd.disk hfl).mono ?_; rintro e wN ⟨vN, rfl, oN, bN⟩; rw [HNS.out] at oN; obtain ⟨AN, cN, rfl⟩ := own_form oN; have HN := Lib.hid (H1.out.below bN); have HV := Lib.hid (RdC.of_own (M := fun b => F1 b ∨ G1 b) oN (fun k hk hm => by have := (oN.lt k hk).1; rcases hm with h | h; exact absurd (H1.out.jj.dd.disk.lt h) (by omega); exact absurd (H1.out.jj.jat.lt h) (by omega))); clear oN bN)
    go_loopw [69] (fun t69 wr => ∃ (kk : Nat) (wr' : World), wr' = wr ∧ kk ≤ ns.length ∧ t69 = .int .i64 kk ∧ OpenLoop B w0 p w.heap.size F1 G1 wN ⟨t, b, [], false⟩ T2 ns rr kk wr') (fun t69 _ => (ns.length - (intOf t69).toNat))
    case atStart => exact ⟨0, _, rfl, by omega, rfl, d, F1, G1, JS.refl HN.out.jj, by rw [List.drop_zero, ← HNS.out]; exact HRR.out⟩
    case round =>
      clear e0 e1
      obtain ⟨kk, wr, rfl, hkk, rfl, dk, Fk, Gk, hk, hrem⟩ := hrel
      by_cases hlt : kk < ns.length
      · obtain ⟨x, hx⟩ : ∃ x, ns[kk]? = some x := ⟨ns[kk], List.getElem?_eq_getElem hlt⟩
        have hv4 := HV.out.upd hk.u (M' := fun b => F1 b ∨ G1 b) (fun n h => .inl h) (fun _ h => .inl h)
        obtain ⟨bN, oN, c', hva, _, _, _, _, hbl, g4⟩ := hv4.at (by omega)
        cases hva
        have hc := g4 kk (.int .i64 x) (by simp [i64s, hx])
        obtain ⟨e0, e1, _, _, _⟩ := hk.at
        have hdr : ns.drop kk = x :: ns.drop (kk + 1) := by
          have hxe : ns[kk] = x := by simpa [List.getElem?_eq_getElem hlt] using hx
          rw [List.drop_eq_getElem_cons hlt, hxe]
        rw [hdr] at hrem
        unfold Hw.HJ.removeAll at hrem
        have HK := Lib.hid hk
        clear hv4 g4 hbl hk hdr hx
        by_cases hx0 : x = 0
        · have hb0 : (x != 0) = false := by simp [hx0]
          rw [if_neg (by simp [hx0])] at hrem
          have HREM := Lib.hid hrem
          clear hx0 hrem
          go_wp2_with fail
          go_roundw
          case rel => exact ⟨kk + 1, _, rfl, by omega, by go_num, dk, Fk, Gk, HK.out, HREM.out⟩
          case measure => simp [intOf]; omega
        · have hb0 : (x != 0) = true := by simpa using hx0
          by_cases hxT : x = T2
          · have hbT : (x != T2) = false := by simp [hxT]
            rw [if_neg (by simp [hxT])] at hrem
            have HREM := Lib.hid hrem
            clear hx0 hxT hrem
            go_wp2_with fail
            go_roundw
            case rel => exact ⟨kk + 1, _, rfl, by omega, by go_num, dk, Fk, Gk, HK.out, HREM.out⟩
            case measure => simp [intOf]; omega
          · have hbT : (x != T2) = true := by simpa using hxT
            rw [if_pos ⟨hx0, hxT⟩] at hrem
            rcases hrm : dk.remove x with ⟨k3, d3⟩
            rw [hrm] at hrem
            simp only at hrem
            have HRM := Lib.hid hrm
            clear hx0 hxT hrm
            by_cases hk3 : k3 = 0
            · subst hk3
              simp only [ne_eq, not_true_eq_false, if_false] at hrem
              have HREM := Lib.hid hrem; clear hrem
              go_wp2_with (go_at_call 40; refine (dd_Remove HK.out.jj.dd HRM.out errV_0).mono ?_; intro e w9 hr9; obtain ⟨rfl, F9, h9⟩ := HK.out.disk hr9; have H9 := Lib.hid h9; clear hr9 h9)
              go_roundw
              case rel => exact ⟨kk + 1, _, rfl, by omega, by go_num, d3, F9, Gk, H9.out, HREM.out⟩
              case measure => simp [intOf]; omega
            · rw [if_pos hk3] at hrem
              have HE := Lib.hid (errV_ne hk3)
              have hop := HOP.out
              rw [← hrem] at hop
              simp only at hop
              rw [if_pos hk3] at hop
              simp only [Prod.mk.injEq] at hop
              obtain ⟨rfl, rfl, rfl⟩ := hop
              have HK3 := Lib.hid hk3
              clear hk3 hrem
              go_wp2_with (go_at_call 40; refine (dd_Remove HK.out.jj.dd HRM.out HE.out).mono ?_; intro e w9 hr9; obtain ⟨rfl, F9, h9⟩ := HK.out.disk hr9; have H9 := Lib.hid h9; clear hr9 h9)
              go_ret2
              exact .inr ⟨HK3.out, _, _, _, _, rfl, HN.out.trans H9.out⟩
      · have hkk' : kk = ns.length := by omega
        rw [hkk', List.drop_length] at hrem
        have hop := HOP.out
        rw [← hrem] at hop
        unfold Hw.HJ.removeAll at hop
        simp only [ne_eq, not_true_eq_false, if_false] at hop
        obtain ⟨e0, e1, _, _, _⟩ := hk.at
        have HK := Lib.hid (HN.out.trans hk)
        have HO := Lib.hid hop
        clear hk hop hrem
        cases hrd : dk.read T2 with
        | none =>
          have hop := HO.out
          rw [hrd] at hop
          have hsc : Hw.frameScan ([] : Hw.Bytes) = ([], 0) := by simp [Hw.frameScan, Hw.scanGo, Hw.frameOne]
          simp only [Option.getD_none, hsc, Prod.mk.injEq] at hop
          obtain ⟨rfl, rfl, rfl⟩ := hop
          have HRD := Lib.hid hrd
          have HSC := Lib.hid hsc
          have HSL := Lib.hid (show ∀ r ∈ ([] : List Hw.Bytes), r.length ≤ 1000000 from fun r hr => by cases hr)
          clear hrd hsc
          go_wp2_with (first
            | (go_at_call 31; refine (js_Read2 HK.out T2).mono ?_; rintro e w4 ⟨A4, m4, c4, is4, rfl, h4⟩; obtain ⟨rfl, rfl, rfl, rfl⟩ := h4.isNone HRD.out; have H4 := Lib.hid h4; clear h4)
            | (go_at_call 41; refine (frame_Scan (fun _ => False) _ [] _ (RdB.nil _ _) (by simp)).mono ?_; rintro e w5 ⟨b5, v5, rfl, us, o5, r5⟩; rw [HSC.out] at o5 r5; rw [HSC.out]; obtain ⟨A5, c5, rfl⟩ := own_form o5; have h5 := H4.out.js.below b5; obtain ⟨_, _, _, hj5⟩ := h5.jj.jat; have z1 := hj5.cells.2.1; have z3 := hj5.cells.2.2.2.1; have zf := hj5.unfrozen 3; have H6 := Lib.hid (h5.scanned (fun b hb => H4.out.js.jj.jat.lt hb) (fun b hb => H4.out.js.jj.dd.disk.lt hb) H4.out.js.u.size H4.out.js.jj.size o5 r5 HSL.out); clear h5 hj5 o5 r5 b5))
          go_ret2
          obtain ⟨G7, h7⟩ := H6.out
          exact .inl ⟨rfl, _, _, _, rfl, h7⟩
        | some bs =>
          have hop := HO.out
          rw [hrd] at hop
          have hrl := read_len HK.out.jj.dd.disk hrd
          rcases hsc : Hw.frameScan bs with ⟨rs, nn⟩
          have hss := Hw.scan_sound bs
          rw [hsc] at hss
          have hnn := hss.2.2
          simp only at hnn
          simp only [Option.getD_some, hsc] at hop
          have HRD := Lib.hid hrd
          have HSC := Lib.hid hsc
          have HSL := Lib.hid (show ∀ r ∈ rs, r.length ≤ 1000000 from fun r hr => Nat.le_trans (hss.1 r hr) (by decide))
          clear hrd hsc hss
          by_cases hlt2 : nn < bs.length
          · rw [if_pos hlt2] at hop
            rcases hcut : dk.cut T2 (nn : Int) with ⟨k3, d3⟩
            rw [hcut] at hop
            simp only at hop
            have HC := Lib.hid hcut; clear hcut
            by_cases hk3 : k3 = 0
            · subst hk3
              simp only [ne_eq, not_true_eq_false, if_false, Prod.mk.injEq] at hop
              obtain ⟨rfl, rfl, rfl⟩ := hop
              go_wp2_with (first
                | (go_at_call 31; refine (js_Read2 HK.out T2).mono ?_; rintro e w4 ⟨A4, m4, c4, is4, rfl, h4⟩; obtain ⟨rfl, rfl, hb4⟩ := h4.isSome HRD.out; have HB4 := Lib.hid hb4; clear hb4; have H4 := Lib.hid h4; clear h4)
                | (go_at_call 41; refine (frame_Scan (fun _ => False) _ bs _ HB4.out (by omega)).mono ?_; rintro e w5 ⟨b5, v5, rfl, us, o5, r5⟩; rw [HSC.out] at o5 r5; rw [HSC.out]; obtain ⟨A5, c5, rfl⟩ := own_form o5; have h5 := H4.out.js.below b5; obtain ⟨_, _, _, hj5⟩ := h5.jj.jat; have z1 := hj5.cells.2.1; have z3 := hj5.cells.2.2.2.1; have zf := hj5.unfrozen 3; have H6 := Lib.hid (h5.scanned (fun b hb => H4.out.js.jj.jat.lt hb) (fun b hb => H4.out.js.jj.dd.disk.lt hb) H4.out.js.u.size H4.out.js.jj.size o5 r5 HSL.out); clear h5 hj5 o5 r5 b5)
                | (go_at_call 42; obtain ⟨G7, h7⟩ := H6.out; refine (dd_Cut h7.jj.dd HC.out errV_0).mono ?_; intro e w9 hr9; obtain ⟨rfl, F9, h9⟩ := h7.disk hr9; have H9 := Lib.hid h9; clear hr9 h9 h7))
              go_ret2
              exact .inl ⟨rfl, _, _, _, rfl, H9.out⟩
            · rw [if_pos hk3] at hop
              simp only [Prod.mk.injEq] at hop
              obtain ⟨rfl, rfl, rfl⟩ := hop
              have HE := Lib.hid (errV_ne hk3)
              have HK3 := Lib.hid hk3
              clear hk3
              go_wp2_with (first
                | (go_at_call 31; refine (js_Read2 HK.out T2).mono ?_; rintro e w4 ⟨A4, m4, c4, is4, rfl, h4⟩; obtain ⟨rfl, rfl, hb4⟩ := h4.isSome HRD.out; have HB4 := Lib.hid hb4; clear hb4; have H4 := Lib.hid h4; clear h4)
                | (go_at_call 41; refine (frame_Scan (fun _ => False) _ bs _ HB4.out (by omega)).mono ?_; rintro e w5 ⟨b5, v5, rfl, us, o5, r5⟩; rw [HSC.out] at o5 r5; rw [HSC.out]; obtain ⟨A5, c5, rfl⟩ := own_form o5; have h5 := H4.out.js.below b5; obtain ⟨_, _, _, hj5⟩ := h5.jj.jat; have z1 := hj5.cells.2.1; have z3 := hj5.cells.2.2.2.1; have zf := hj5.unfrozen 3; have H6 := Lib.hid (h5.scanned (fun b hb => H4.out.js.jj.jat.lt hb) (fun b hb => H4.out.js.jj.dd.disk.lt hb) H4.out.js.u.size H4.out.js.jj.size o5 r5 HSL.out); clear h5 hj5 o5 r5 b5)
                | (go_at_call 42; obtain ⟨G7, h7⟩ := H6.out; refine (dd_Cut h7.jj.dd HC.out HE.out).mono ?_; intro e w9 hr9; obtain ⟨rfl, F9, h9⟩ := h7.disk hr9; have H9 := Lib.hid h9; clear hr9 h9 h7))
              go_ret2
              exact .inr ⟨HK3.out, _, _, _, _, rfl, H9.out⟩
          · rw [if_neg hlt2] at hop
            simp only [Prod.mk.injEq] at hop
            obtain ⟨rfl, rfl, rfl⟩ := hop
            go_wp2_with (first
              | (go_at_call 31; refine (js_Read2 HK.out T2).mono ?_; rintro e w4 ⟨A4, m4, c4, is4, rfl, h4⟩; obtain ⟨rfl, rfl, hb4⟩ := h4.isSome HRD.out; have HB4 := Lib.hid hb4; clear hb4; have H4 := Lib.hid h4; clear h4)
              | (go_at_call 41; refine (frame_Scan (fun _ => False) _ bs _ HB4.out (by omega)).mono ?_; rintro e w5 ⟨b5, v5, rfl, us, o5, r5⟩; rw [HSC.out] at o5 r5; rw [HSC.out]; obtain ⟨A5, c5, rfl⟩ := own_form o5; have h5 := H4.out.js.below b5; obtain ⟨_, _, _, hj5⟩ := h5.jj.jat; have z1 := hj5.cells.2.1; have z3 := hj5.cells.2.2.2.1; have zf := hj5.unfrozen 3; have H6 := Lib.hid (h5.scanned (fun b hb => H4.out.js.jj.jat.lt hb) (fun b hb => H4.out.js.jj.dd.disk.lt hb) H4.out.js.u.size H4.out.js.jj.size o5 r5 HSL.out); clear h5 hj5 o5 r5 b5))
            go_ret2
            obtain ⟨G7, h7⟩ := H6.out
            exact .inl ⟨rfl, _, _, _, rfl, h7⟩
end Go.Proofs.YtihncdlbbhmglaaDoor

/- Walks: journal.Records; Append and Save of a broken journal. -/
namespace Go.Proofs.YtihncdlbbhmglaaDoor
open Go.RowKit

def RecRet (rs : List Hw.Bytes) (w : World) (e : Ending) (w' : World) : Prop := ∃ v', e = .returned v' ∧ OwnRows w.heap.size w' v' rs ∧ Below w.heap.size w w'
/-- One row more, of a copy. -/
theorem own_snoc {w wr wo w1 : World} {t v1 vx : Value} {rs : List Hw.Bytes} {x : Hw.Bytes} {vs : List Value} (p1 : Below w.heap.size w wr) (ho : wr.ownsRow w.heap.size 22 1 t rs.length vs) (hr : RdRows (fun b => b < w.heap.size ∨ t.ownBlock = some b) wr vs rs)
    (hb : Below wr.heap.size wr wo) (hx : wo.ownsRow wr.heap.size 5 1 vx x.length (u8s x)) (o : Obj)
    (ho1 : w1.ownsRow w.heap.size 22 1 v1 (rs.length + 1) (vs ++ [vx])) (g1 : (wo.alloc o).grownBy w1 t.ownBlock) (a1 : v1.ownBlock = t.ownBlock ∨ v1.ownBlock = some (wo.heap.size + 1)) :
    OwnRows w.heap.size w1 v1 (rs ++ [x]) ∧ Below w.heap.size w w1 := by
  have hwo := hb.size
  have hbk : ∀ b, t.ownBlock = some b → w.heap.size ≤ b ∧ b < wr.heap.size := fun b hb => ho.lt b hb
  have hx' : RdB (fun b => b < w.heap.size ∨ t.ownBlock = some b) wo vx x := RdB.of_own hx (fun b hb hM => by
    have := (hx.lt b hb).1
    have := p1.size
    rcases hM with h | h
    · omega
    · have := (hbk b h).2; omega)
  have hr' := hr.upd (M' := fun b => b < w.heap.size ∨ t.ownBlock = some b) (Upd.of_below (F := fun _ => False) hb) (fun _ h => h.elim) (fun _ h => .inl h)
  have hua := Upd.of_below (F := fun _ => False) (below_new wo o)
  refine ⟨OwnRows.snoc (v1 := v1) (hr'.upd (M' := fun b => b < w.heap.size ∨ t.ownBlock = some b) hua (fun _ h => h.elim) (fun _ h => .inl h)) (hx'.upd (M' := fun b => b < w.heap.size ∨ t.ownBlock = some b) hua (fun _ h => h.elim) (fun _ h => .inl h)) ho1 g1 ?_, ?_⟩
  · rcases a1 with a | a
    · exact .inl a
    · exact .inr ⟨_, a, by simp⟩
  · refine (p1.trans (hb.mono p1.size)).trans (((below_new wo o).mono (by have := p1.size; omega)).trans ?_)
    exact (Below.refl _ _).grown g1 (by have := p1.size; simp; omega) (fun b hb => (hbk b hb).1)
set_option maxRecDepth 100000 in
set_option maxHeartbeats 2000000 in
theorem journal_Records {w : World} {q p : Nat} {j : Hw.HJ} {G : Nat → Prop} (h : IsJ w q p j G) (hn : j.records.length ≤ 1000000000) :
    Calls Tryd.prog 36 #[.pointer (some ⟨q, 0, none⟩)] w (RecRet j.records w) := by
  obtain ⟨i0, hi, hz0, hz1, hz2⟩ := info_parts u8row
  obtain ⟨i1, hi1, hy0, hy1, hy2⟩ := info_parts rowsrow
  obtain ⟨bv, rv, vs, h⟩ := h
  have c3 := h.cells.2.2.2.1
  have hv : RdC (fun _ => False) w 1 rv j.records.length vs := RdC.of_own h.own (fun _ _ h => h)
  obtain ⟨A, c, rfl, l1, l2⟩ := hv.len
  unfold maxLen at l2
  have HV := Lib.hid hv
  have HR := Lib.hid h.recs
  have HL := Lib.hid h.lr
  clear h hv
  generalize hjr : j.records = rs at *
  clear hjr
  go_enter Tryd.func36, Tryd.ntmps36
  go_wp2
  go_loopw [3, 11] (fun t3 t11 wr => ∃ (k : Nat) (wr' : World), wr' = wr ∧ k ≤ rs.length ∧ t11 = .int .i64 k ∧ Below w.heap.size w wr' ∧ OwnRows w.heap.size wr' t3 (rs.take k)) (fun _ k _ => (rs.length - intOf k).toNat)
  case atStart => exact ⟨0, _, rfl, by omega, rfl, Below.refl _ _, OwnRows.nil _ _⟩
  case round =>
    obtain ⟨k, wr, rfl, hk, rfl, hb, us, ho, hr⟩ := hrel
    by_cases hlt : k < rs.length
    · obtain ⟨x, hx⟩ : ∃ x, rs[k]? = some x := ⟨rs[k], List.getElem?_eq_getElem hlt⟩
      obtain ⟨u, hu, hux⟩ := HR.out.get hx
      obtain ⟨A2, c2, rfl, m1, m2⟩ := hux.len
      obtain ⟨b, o, c', hva, _, _, _, _, hbl, g4⟩ := HV.out.at (by omega)
      cases hva
      have hc : wr.cell? ⟨b, o + k, none⟩ = some (.slice A2 x.length c2) := (hb.cell (p := ⟨b, o + k, none⟩) hbl).trans (g4 k _ hu)
      have hxl : x.length ≤ 1000000 := HL.out x (List.mem_of_getElem? hx)
      have HX := Lib.hid (RdC.below hux hb)
      have HXR := Lib.hid hx
      have HP := Lib.hid (And.intro hb (And.intro ho hr))
      have hsz := hb.size
      have hlk : (rs.take k).length = k := by rw [List.length_take]; omega
      have HLK := Lib.hid hlk
      clear g4 hu hux hx hbl hb ho hr hlk m1 m2
      go_wp2_with (at_builtin; refine wpAppend _ rfl _ _ 22 rfl wr.heap.size 5 i0 (.int .u8 0) 1 1 u8slice hi hz0 hz1 hz2 rfl (by decide) _ 0 _ rfl (World.ownsRow_nil _ _ _ _) _ _ x.length (u8s x) rfl HX.out ?_ ?_ ?_ ?_ ?_)
      · exact u8s_one _
      · unfold maxLen; omega
      · omega
      · exact Nat.le_refl _
      · intro v5 w5 o5 g5 a5
        try simp only [Nat.zero_add, List.nil_append] at o5
        have hb5 : Below wr.heap.size wr w5 := (Below.refl _ _).grown g5 (Nat.le_refl _) (by intro k hk; cases hk)
        have hs5 := hb5.size
        obtain ⟨A5, c5, rfl⟩ := own_form o5
        have HO5 := Lib.hid o5
        have HB5 := Lib.hid hb5
        have hone : ∀ u ∈ [Value.slice A5 x.length c5], u.oneCell' = true := fun u hu => by rw [List.mem_singleton.1 hu]; rfl
        have HONE := Lib.hid hone
        clear o5 g5 a5 hb5 hone
        have HOWN := Lib.hid ((own_upd HP.out.2.1 (Upd.of_below (F := fun _ => False) HB5.out) (fun _ _ h => h)))
        go_wp2_with (at_builtin; refine wpAppend _ rfl _ _ 47 rfl w.heap.size 22 i1 (.slice none 0 0) 1 24 rowsslice hi1 hy0 hy1 hy2 rfl (by decide) _ _ _ rfl (HOWN.out.alloc _) (fun _ => False) _ 1 _ rfl (RdC.made _ 1 1 #[.slice A5 x.length c5] _ rfl (by decide) (fun h => h)) ?_ ?_ ?_ ?_ ?_)
        · first | exact HONE.out | rfl | simp [Value.oneCell']
        · rw [HLK.out]; unfold maxLen; omega
        · rw [HLK.out]; omega
        · simp; omega
        · intro v6 w6 o6 g6 a6
          have HN := Lib.hid (own_snoc HP.out.1 HP.out.2.1 HP.out.2.2 HB5.out HO5.out _ (by rw [HLK.out]; exact o6) g6 (by simpa using a6))
          clear o6 g6 a6
          go_wp2_with fail
          go_roundw
          case rel => exact ⟨k + 1, _, rfl, by omega, by go_num, HN.out.2, by rw [take_snoc' rs k x HXR.out]; exact HN.out.1⟩
          case measure => simp [intOf]; omega
    · have hk' : k = rs.length := by omega
      have HP := Lib.hid (And.intro hb (show OwnRows w.heap.size wr _ (rs.take k) from ⟨us, ho, hr⟩))
      clear hb ho hr
      go_wp2_with fail
      go_ret
      exact ⟨_, rfl, by have := HP.out.2; rw [hk', List.take_length] at this; exact this, HP.out.1⟩
set_option maxRecDepth 100000 in
theorem journal_Append_broken {w : World} {q p : Nat} {j : Hw.HJ} {G : Nat → Prop} (h : IsJ w q p j G) (hb : j.broken = true) (v : Value) :
    Calls Tryd.prog 22 #[.pointer (some ⟨q, 0, none⟩), v] w fun e w' => e = .returned (.iface 29 (.int .i64 12)) ∧ w = w' := by
  obtain ⟨bv, rv, vs, h⟩ := h
  obtain ⟨_, _, _, _, c4⟩ := h.cells
  rw [hb] at c4
  clear h
  go_enter Tryd.func22, Tryd.ntmps22
  go_wp2
  go_ret
  exact ⟨rfl, rfl⟩
set_option maxRecDepth 100000 in
theorem journal_Save_broken {w : World} {q p : Nat} {j : Hw.HJ} {G : Nat → Prop} (h : IsJ w q p j G) (hb : j.broken = true) (v : Value) :
    Calls Tryd.prog 23 #[.pointer (some ⟨q, 0, none⟩), v] w fun e w' => e = .returned (.iface 29 (.int .i64 12)) ∧ w = w' := by
  obtain ⟨bv, rv, vs, h⟩ := h
  obtain ⟨_, _, _, _, c4⟩ := h.cells
  rw [hb] at c4
  clear h
  go_enter Tryd.func23, Tryd.ntmps23
  go_wp2
  go_ret
  exact ⟨rfl, rfl⟩
end Go.Proofs.YtihncdlbbhmglaaDoor

/- Walks: hawalalaw06: Shows. -/
namespace Go.Proofs.YtihncdlbbhmglaaDoor
open Go.RowKit

def strs (rs : List Hw.Bytes) : List Value := rs.map fun r => .string (strB r)
theorem strs_length (rs : List Hw.Bytes) : (strs rs).length = rs.length := by simp [strs]
theorem strs_get {rs : List Hw.Bytes} {k : Nat} {r : Hw.Bytes} (h : rs[k]? = some r) : (strs rs)[k]? = some (.string (strB r)) := by simp [strs, h]
theorem str_list {a b : Hw.Bytes} : (strB a).toList = (strB b).toList ↔ a = b := by
  have e : ∀ a : Hw.Bytes, (strB a).toList = a := fun a => by simp [strB]
  rw [e, e]
/-- Has a journal this? -/
def JShows (j : Hw.HJ) (b : Hw.Bytes) (rs : List Hw.Bytes) (t : Int) : Bool := decide (j.base = b ∧ j.turn = t ∧ j.records = rs)
def ShowsRet (j : Hw.HJ) (b : Hw.Bytes) (rs : List Hw.Bytes) (t : Int) (w : World) (e : Ending) (w' : World) : Prop := e = .returned (.bool (JShows j b rs t)) ∧ Below w.heap.size w w'
theorem shows_no {j : Hw.HJ} {b : Hw.Bytes} {rs : List Hw.Bytes} {t : Int} (h : ¬ (j.base = b ∧ j.turn = t ∧ j.records = rs)) : JShows j b rs t = false := by simpa [JShows] using h
theorem shows_yes {j : Hw.HJ} {b : Hw.Bytes} {rs : List Hw.Bytes} {t : Int} (h : j.base = b ∧ j.turn = t ∧ j.records = rs) : JShows j b rs t = true := by simpa [JShows] using h
theorem base_str {w w' : World} {bs : Hw.Bytes} {e : Ending} (h : FreshRet 5 1 bs.length (u8s bs) w e w') :
    ∃ A c, e = .returned (.slice A bs.length c) ∧ Below w.heap.size w w' ∧ (convert 22 9 (.slice A bs.length c)).run Tryd.prog w' = .ok (.string (strB bs)) w' := by
  obtain ⟨v, rfl, o, b⟩ := h
  have hR := RdB.of_own (M := fun _ => False) o (fun _ _ h => h)
  have hs := hR.str
  obtain ⟨A, c, rfl, _⟩ := hR.len
  exact ⟨A, c, rfl, b, hs⟩
set_option maxRecDepth 100000 in
set_option maxHeartbeats 2000000 in
theorem shows_walk {w : World} {q p : Nat} {j : Hw.HJ} {G : Nat → Prop} (h : IsJ w q p j G) (hn : j.records.length ≤ 1000000000) (b : Hw.Bytes) {v : Value} {rs : List Hw.Bytes} {M : Nat → Prop} (hv : RdC M w 1 v rs.length (strs rs)) (t : Int) :
    Calls Tryd.prog 20 #[.pointer (some ⟨q, 0, none⟩), .string (strB b), v, .int .i64 t] w (ShowsRet j b rs t w) := by
  obtain ⟨A, c, rfl, l1, l2⟩ := hv.len
  unfold maxLen at l2
  have H := Lib.hid h
  have HV := Lib.hid hv
  clear h hv
  go_enter Tryd.func20, Tryd.ntmps20
  go_wp2_with (first
    | (go_at_call 36; refine (journal_Records H.out hn).mono ?_; rintro e w1 ⟨v1, rfl, ho1, hb1⟩; obtain ⟨us, oo1, rr1⟩ := ho1; obtain ⟨A1, c1, rfl⟩ := own_form oo1; have HO1 := Lib.hid (And.intro oo1 rr1); have H1 := Lib.hid (H.out.upd (Upd.of_below (F := fun _ => False) hb1) (fun _ _ h => h)); have HB1 := Lib.hid hb1; clear oo1 hb1 rr1)
    | (go_at_call 35; refine (journal_Base H1.out).mono ?_; intro e w2 hr2; obtain ⟨A2, c2, rfl, hb2, hs⟩ := base_str hr2; have H2 := Lib.hid (H1.out.upd (Upd.of_below (F := fun _ => False) hb2) (fun _ _ h => h)); have HB2 := Lib.hid (HB1.out.trans (hb2.mono HB1.out.size)); have HB12 := Lib.hid hb2; clear hr2 hb2)
    | (go_at_call 37; refine (journal_Turn H2.out).mono ?_; rintro e w3 ⟨rfl, rfl⟩))
  · have hl : ((j.records.length : Int) != (rs.length : Int)) = true := by assumption
    have HL := Lib.hid hl; clear hl
    go_ret
    exact ⟨by rw [shows_no (fun h => by have := HL.out; rw [h.2.2] at this; simp at this)]; rfl, HB2.out⟩
  · have hl : ((j.records.length : Int) != (rs.length : Int)) = false := by assumption
    have hb : (strB j.base).toList = (strB b).toList := by assumption
    have ht : j.turn = t := by assumption
    have hln : j.records.length = rs.length := by simp at hl; omega
    have HL := Lib.hid hln
    have HBT := Lib.hid (And.intro (str_list.1 hb) ht)
    clear hl hb ht hs
    have HR1 := Lib.hid (RdC.below (RdC.of_own (M := fun _ => False) HO1.out.1 (fun _ _ h => h)) HB12.out)
    have HR2 := Lib.hid (HO1.out.2.upd (M' := fun _ => False) (Upd.of_below (F := fun _ => False) HB12.out) (fun _ h => h.elim) (fun _ h => h.elim))
    have HV2 := Lib.hid (RdC.below HV.out HB2.out)
    go_loopw [33] (fun t33 wr => ∃ (k : Nat) (wr' : World), wr' = wr ∧ k ≤ rs.length ∧ t33 = .int .i64 k ∧ Below w2.heap.size w2 wr' ∧ j.records.take k = rs.take k) (fun t33 _ => (rs.length - (intOf t33).toNat))
    case atStart => exact ⟨0, _, rfl, by omega, rfl, Below.refl _ _, by simp⟩
    case round =>
      obtain ⟨k, wr, rfl, hk, rfl, hbr, htk⟩ := hrel
      by_cases hlt : k < rs.length
      · have hlt' : k < j.records.length := by rw [hln]; exact hlt
        obtain ⟨x, hx⟩ : ∃ x, j.records[k]? = some x := ⟨j.records[k], List.getElem?_eq_getElem hlt'⟩
        obtain ⟨y, hy⟩ : ∃ y, rs[k]? = some y := ⟨rs[k], List.getElem?_eq_getElem hlt⟩
        have hr4 := HR2.out.upd (M' := fun _ => False) (Upd.of_below (F := fun _ => False) hbr) (fun _ h => h.elim) (fun _ h => h.elim)
        obtain ⟨u, hu, hux⟩ := hr4.get hx
        obtain ⟨A3, c3, rfl, m1, m2⟩ := hux.len
        obtain ⟨b1, o1, c1', hva, _, _, _, _, hbl, g4⟩ := (RdC.below HR1.out hbr).at (by omega)
        cases hva
        obtain ⟨b2, o2, c2', hvb, _, _, _, _, hbl2, g5⟩ := (RdC.below HV2.out hbr).at (by omega)
        cases hvb
        have hc1 := g4 k _ hu
        have hc2 := g5 k _ (strs_get hy)
        have hs0 := hux.str
        have hsn : ∀ n, (convert 22 9 (.slice A3 x.length c3)).run Tryd.prog (wr.drewN n) = .ok (.string (strB x)) (wr.drewN n) := fun n => RdB.str (M := fun _ => False) (RdC.below hux (bel_drewN (Below.refl _ _) n))
        have hk0 : (0 : Int) ≤ (k : Int) := by omega
        have hk1 : (k : Int) < (j.records.length : Int) := by omega
        have hk2 : (k : Int) < (rs.length : Int) := by omega
        have HB := Lib.hid hbr
        have HT := Lib.hid htk
        have HXY := Lib.hid (And.intro hx hy)
        clear hbr htk hx hy g4 g5 hu hux hr4 hbl hbl2 m1 m2 hlt'
        by_cases hxy : x = y
        · subst hxy
          go_wp2_with fail
          go_quiet (fail)
          go_wp2_with fail
          go_roundw
          case rel => exact ⟨k + 1, _, rfl, by omega, by go_num, bel_drewN HB.out _, by rw [take_snoc' _ k _ HXY.out.1, take_snoc' _ k _ HXY.out.2, HT.out]⟩
          case measure => simp [intOf]; omega
        · have hne : ¬ (strB x).toList = (strB y).toList := fun e => hxy (str_list.1 e)
          have hne2 : (!((strB x).toList == (strB y).toList)) = true := by simpa using hne
          have HXN := Lib.hid hxy
          clear hxy
          go_wp2_with fail
          go_quiet (fail)
          go_wp2_with fail
          go_ret
          refine ⟨?_, HB2.out.trans ((bel_drewN HB.out _).mono HB2.out.size)⟩
          rw [shows_no (fun h => HXN.out (by have h1 := HXY.out.1; rw [h.2.2] at h1; exact Option.some.inj (h1.symm.trans HXY.out.2)))]; rfl
      · have hk' : k = rs.length := by omega
        have HT := Lib.hid htk
        have HBR := Lib.hid hbr
        clear htk hbr
        have hge : ¬ ((k : Int) < (j.records.length : Int)) := by rw [hln]; omega
        go_wp2_with fail
        go_ret
        exact ⟨by rw [shows_yes ⟨HBT.out.1, HBT.out.2, by have := HT.out; rw [hk', List.take_length, ← HL.out, List.take_length] at this; exact this⟩]; rfl, HB2.out.trans (HBR.out.mono HB2.out.size)⟩
  · have ht : ¬ j.turn = t := by assumption
    have HT := Lib.hid ht; clear ht
    go_ret
    exact ⟨by rw [shows_no (fun h => HT.out h.2.1)]; rfl, HB2.out⟩
  · have hb : ¬ (strB j.base).toList = (strB b).toList := by assumption
    have HT := Lib.hid hb; clear hb
    go_ret
    exact ⟨by rw [shows_no (fun h => HT.out (by rw [h.1]))]; rfl, HB2.out⟩
end Go.Proofs.YtihncdlbbhmglaaDoor

/- Words of the laws of the journal; hawalalaw04.Few. -/
namespace Go.Proofs.YtihncdlbbhmglaaDoor
open Go.RowKit

/-- The first so many bytes. -/
theorem RdB.to {M : Nat → Prop} {w : World} {bs : Hw.Bytes} {n c : Nat} {A : Option Addr} (h : RdB M w (.slice A n c) bs) (m : Nat) (hm : m ≤ n) : RdB M w (.slice A m c) (bs.take m) := by
  obtain ⟨A', c', hv, h0, h1, h2, h3, h4⟩ := h
  cases hv
  have hl : (bs.take m).length = m := by rw [List.length_take]; omega
  refine ⟨A, c, by rw [hl], by simp [u8s_length], by rw [hl]; omega, h2, h3, fun ad hA hc => ?_⟩
  obtain ⟨g1, g2, g3, g4⟩ := h4 ad hA hc
  refine ⟨g1, g2, g3, fun i x hx => g4 i x ?_⟩
  rw [u8s_take, List.getElem?_take] at hx
  split at hx
  · exact hx
  · cases hx
theorem RdC.to {M : Nat → Prop} {w : World} {cs : List Value} {n c : Nat} {A : Option Addr} (h : RdC M w 1 (.slice A n c) n cs) (m : Nat) (hm : m ≤ n) : RdC M w 1 (.slice A m c) m (cs.take m) := by
  obtain ⟨A', c', hv, h0, h1, h2, h3, h4⟩ := h
  cases hv
  refine ⟨A, c, rfl, by rw [List.length_take]; omega, by omega, h2, h3, fun ad hA hc => ?_⟩
  obtain ⟨g1, g2, g3, g4⟩ := h4 ad hA hc
  refine ⟨g1, g2, g3, fun i x hx => g4 i x ?_⟩
  rw [List.getElem?_take] at hx
  split at hx
  · exact hx
  · cases hx
theorem RdRows.take {M : Nat → Prop} {w : World} : ∀ {vs : List Value} {rs : List Hw.Bytes} (n : Nat), RdRows M w vs rs → RdRows M w (vs.take n) (rs.take n)
  | _, _, 0, _ => by simp [RdRows]
  | [], [], n + 1, _ => trivial
  | _ :: _, _ :: _, n + 1, h => ⟨h.1, RdRows.take n h.2⟩
  | [], _ :: _, _ + 1, h => h.elim
  | _ :: _, [], _ + 1, h => h.elim
theorem take500 (x : Hw.Bytes) : x.take (min x.length 500) = x.take 500 := by
  rcases Nat.le_total x.length 500 with h | h
  · rw [Nat.min_eq_left h, List.take_length, List.take_of_length_le h]
  · rw [Nat.min_eq_right h]
theorem RdB.to500 {M : Nat → Prop} {w : World} {bs : Hw.Bytes} {c : Nat} {A : Option Addr} (h : RdB M w (.slice A bs.length c) bs) {m : Nat} (hm : m = min bs.length 500) : RdB M w (.slice A m c) (bs.take 500) := by
  have := h.to m (by omega)
  subst hm
  rw [take500] at this; exact this
def FewRet (M : Nat → Prop) (rs : List Hw.Bytes) (w : World) (e : Ending) (w' : World) : Prop :=
  ∃ v' us, e = .returned v' ∧ w'.ownsRow w.heap.size 22 1 v' (Hw.few rs).length us ∧ RdRows M w' us (Hw.few rs) ∧ Below w.heap.size w w'
def FewRel (M : Nat → Prop) (rs : List Hw.Bytes) (w : World) (k : Nat) (t : Value) (wr : World) : Prop :=
  ∃ us, wr.ownsRow w.heap.size 22 1 t (Hw.few (rs.take k)).length us ∧ RdRows M wr us (Hw.few (rs.take k)) ∧ Below w.heap.size w wr
theorem few_snoc {rs : List Hw.Bytes} {k : Nat} {x : Hw.Bytes} (hx : rs[k]? = some x) (hk : k < 12) : Hw.few (rs.take (k + 1)) = Hw.few (rs.take k) ++ [x.take 500] := by
  rw [take_snoc' rs k x hx]
  have hl : (rs.take k).length = k := by
    have : k < rs.length := (List.getElem?_eq_some_iff.1 hx).1
    rw [List.length_take]; omega
  unfold Hw.few
  rw [List.take_of_length_le (l := rs.take k) (by omega), List.take_of_length_le (l := rs.take k ++ [x]) (by simp [hl]; omega), List.map_append]; rfl
theorem few_stop {rs : List Hw.Bytes} {k : Nat} (hk : ¬ k < 12) : Hw.few (rs.take (k + 1)) = Hw.few (rs.take k) := by
  unfold Hw.few
  rw [List.take_take, List.take_take, Nat.min_eq_left (by omega), Nat.min_eq_left (by omega)]
set_option maxRecDepth 100000 in
set_option maxHeartbeats 2000000 in
theorem few_walk {M : Nat → Prop} {w : World} {v : Value} {rs : List Hw.Bytes} {vs : List Value} (hv : RdC M w 1 v rs.length vs) (hr : RdRows M w vs rs) (hM2 : ∀ b, w.heap.size ≤ b → M b) :
    Calls Tryd.prog 21 #[v] w (FewRet M rs w) := by
  obtain ⟨i1, hi1, hy0, hy1, hy2⟩ := info_parts rowsrow
  obtain ⟨A, c, rfl, l1, l2⟩ := hv.len
  unfold maxLen at l2
  have HV := Lib.hid (And.intro hv hr)
  have HM2 := Lib.hid hM2
  clear hv hr hM2
  go_enter Tryd.func21, Tryd.ntmps21
  go_wp2
  go_loopw [3, 8] (fun t3 t8 wr => ∃ (k : Nat) (wr' : World), wr' = wr ∧ k ≤ rs.length ∧ t8 = .int .i64 k ∧ FewRel M rs w k t3 wr') (fun _ k _ => (rs.length - intOf k).toNat)
  case atStart => exact ⟨0, _, rfl, by omega, rfl, [], by simpa [Hw.few] using World.ownsRow_nil _ _ _ _, by simp [Hw.few, RdRows], Below.refl _ _⟩
  case round =>
    obtain ⟨k, wr, rfl, hk, rfl, us, ho, hr, hb⟩ := hrel
    by_cases hlt : k < rs.length
    · obtain ⟨x, hx⟩ : ∃ x, rs[k]? = some x := ⟨rs[k], List.getElem?_eq_getElem hlt⟩
      have hrb := HV.out.2.upd (M' := M) (Upd.of_below (F := fun _ => False) hb) (fun _ h => h.elim) (fun _ h => .inl h)
      obtain ⟨u, hu, hux⟩ := hrb.get hx
      obtain ⟨A2, c2, rfl, m1, m2⟩ := hux.len
      unfold maxLen at m2
      obtain ⟨b, o, c', hva, _, _, _, _, hbl, g4⟩ := HV.out.1.at (by omega)
      cases hva
      have hc : wr.cell? ⟨b, o + k, none⟩ = some (.slice A2 x.length c2) := (hb.cell (p := ⟨b, o + k, none⟩) hbl).trans (g4 k _ hu)
      have HP := Lib.hid (And.intro ho (And.intro hr hb))
      have hfl := Hw.few_len (rs.take k)
      have hsz := hb.size
      have HXR := Lib.hid hx
      have HUX := Lib.hid hux
      clear ho hr hb g4 hbl hu hrb hx hux
      by_cases hk12 : k < 12
      · obtain ⟨m, hm⟩ : ∃ m : Nat, m = min x.length 500 := ⟨_, rfl⟩
        have hmi : min (x.length : Int) 500 = (m : Int) := by omega
        have hm1 : m ≤ x.length := by omega
        have hm2 : m ≤ 500 := by omega
        have HMM := Lib.hid hm; clear hm
        have HX := Lib.hid (HUX.out.to500 HMM.out)
        go_wp2_with (at_builtin; refine wpAppend _ rfl _ _ 47 rfl w.heap.size 22 i1 (.slice none 0 0) 1 24 rowsslice hi1 hy0 hy1 hy2 rfl (by decide) _ _ _ rfl (HP.out.1.alloc _) (fun _ => False) _ 1 _ rfl (RdC.made _ 1 1 #[.slice A2 m c2] _ rfl (by decide) (fun h => h)) ?_ ?_ ?_ ?_ ?_)
        · simp [Value.oneCell']
        · unfold maxLen; omega
        · omega
        · simp; omega
        · intro v6 w6 o6 g6 a6
          have hb6 : Below w.heap.size w w6 := (HP.out.2.2.trans ((below_new wr _).mono hsz)).grown g6 (by simp; omega) (fun b hb => (HP.out.1.lt b hb).1)
          have hrow : ∀ n, u3.ownBlock = some n → M n ∨ (wr.alloc (.cells #[.slice A2 m c2] 22)).heap.size ≤ n := fun n hn => .inl (HM2.out n (HP.out.1.lt n hn).1)
          have hr6 := (HP.out.2.1.upd (M' := M) ((Upd.refl (fun _ => False) wr).alloc (.cells #[.slice A2 m c2] 22)) (fun _ h => h.elim) (fun _ h => .inl h)).upd (M' := M) (Upd.of_grown g6) hrow (fun _ h => .inl h)
          have hx6 := (HX.out.upd (M' := M) ((Upd.refl (fun _ => False) wr).alloc (.cells #[.slice A2 m c2] 22)) (fun _ h => h.elim) (fun _ h => .inl h)).upd (M' := M) (Upd.of_grown g6) hrow (fun _ h => .inl h)
          have HN := Lib.hid (show FewRel M rs w (k + 1) v6 w6 from ⟨us ++ [.slice A2 m c2], by rw [few_snoc HXR.out hk12, List.length_append]; exact o6, by rw [few_snoc HXR.out hk12]; exact hr6.append ⟨hx6, trivial⟩, hb6⟩)
          clear o6 g6 a6 hb6 hrow hr6 hx6
          go_wp2_with fail
          go_roundw
          case rel => exact ⟨k + 1, _, rfl, by omega, by go_num, HN.out⟩
          case measure => simp [intOf]; omega
      · have hk12' : ¬ ((k : Int) < 12) := by omega
        go_wp2_with fail
        go_roundw
        case rel => exact ⟨k + 1, _, rfl, by omega, by go_num, us, by rw [few_stop hk12]; exact HP.out.1, by rw [few_stop hk12]; exact HP.out.2.1, HP.out.2.2⟩
        case measure => simp [intOf]; omega
    · have hk' : k = rs.length := by omega
      subst hk'
      rw [List.take_length] at ho hr
      have HP := Lib.hid (And.intro ho (And.intro hr hb))
      clear ho hr hb
      go_wp2_with fail
      go_ret
      exact ⟨_, us, rfl, HP.out.1, HP.out.2.1, HP.out.2.2⟩
end Go.Proofs.YtihncdlbbhmglaaDoor

/- Words of the laws: a journal on a disk that does not stop. -/
namespace Go.Proofs.YtihncdlbbhmglaaDoor
open Go.RowKit

theorem open_ok {B : Nat} {w0 w : World} {p : Nat} {d d' : Hw.HDisk} {F : Nat → Prop} {j : Hw.HJ} (h : DD B w0 w p d F) (hf : d.files.length ≤ 1000) (hr : Hw.HJ.openD d = (0, j, d')) :
    Calls Tryd.prog 18 #[.pointer (some ⟨p, 0, none⟩)] w (fun e w' => ∃ q F' G', e = .returned (.tuple #[.pointer (some ⟨q, 0, none⟩), .nilIface]) ∧ JS B w0 p q F (fun _ => False) w d' j w' F' G') :=
  (journal_Open h (by omega) hr).mono fun e w' hh => by
    rcases hh with ⟨_, hh⟩ | ⟨h0, _⟩
    · exact hh
    · exact absurd rfl h0
theorem open_err {B : Nat} {w0 w : World} {p : Nat} {d d' : Hw.HDisk} {F : Nat → Prop} {j : Hw.HJ} {k : Int} (h : DD B w0 w p d F) (hf : d.files.length ≤ 1000) (hr : Hw.HJ.openD d = (k, j, d')) (hk : k ≠ 0) :
    Calls Tryd.prog 18 #[.pointer (some ⟨p, 0, none⟩)] w (fun e w' => e = .returned (.tuple #[.pointer none, .iface 29 (.int .i64 k)]) ∧ ∃ F', DD B w0 w' p d' F') :=
  (journal_Open h (by omega) hr).mono fun e w' hh => by
    rcases hh with ⟨h0, _⟩ | ⟨_, q, F', G', j1, e1, hh⟩
    · exact absurd h0 hk
    · exact ⟨e1, F', hh.jj.dd⟩
/-- Behind Open. -/
def LOpen (B : Nat) (w0 : World) (p : Nat) (t : Int) (b : Hw.Bytes) (rs : List Hw.Bytes) (R : Nat) (F : Nat → Prop) (w : World) (e : Ending) (w' : World) : Prop :=
  ∃ q d' F' G', e = .returned (.tuple #[.pointer (some ⟨q, 0, none⟩), .nilIface]) ∧ JS B w0 p q F (fun _ => False) w d' ⟨t, b, rs, false⟩ w' F' G' ∧ Hw.JC d' t b rs ∧ d'.room = R
theorem lc_Open {B : Nat} {w0 w : World} {p R : Nat} {d : Hw.HDisk} {F : Nat → Prop} {t : Int} {b : Hw.Bytes} {rs : List Hw.Bytes} (h : DD B w0 w p d F) (hc : Hw.JC d t b rs) (hR : d.room = R) :
    Calls Tryd.prog 18 #[.pointer (some ⟨p, 0, none⟩)] w (LOpen B w0 p t b rs R F w) := by
  obtain ⟨d', h1, h2, h3⟩ := hc.open
  refine (open_ok h (by have := hc.jd.files_le; omega) h1).mono fun e w' hh => ?_
  obtain ⟨q, F', G', e1, hj⟩ := hh
  exact ⟨q, d', F', G', e1, hj, h2, h3.trans hR⟩
/-- Behind a deed of the journal's that told no error. -/
def LDone (B : Nat) (w0 : World) (p q : Nat) (t : Int) (b : Hw.Bytes) (rs : List Hw.Bytes) (R : Nat) (F G : Nat → Prop) (w : World) (e : Ending) (w' : World) : Prop :=
  e = .returned .nilIface ∧ ∃ d' F' G', JS B w0 p q F G w d' ⟨t, b, rs, false⟩ w' F' G' ∧ Hw.JC d' t b rs ∧ d'.room = R
theorem lc_Append {B : Nat} {w0 w : World} {p q R : Nat} {d : Hw.HDisk} {F G M : Nat → Prop} {t : Int} {b : Hw.Bytes} {rs qs : List Hw.Bytes} {v : Value} {us : List Value} (h : JJ B w0 w p d F q ⟨t, b, rs, false⟩ G) (hc : Hw.JC d t b rs) (hR : d.room = R) (hjn : rs.length ≤ 1000000000)
    (hv : RdC M w 1 v qs.length us) (hrs : RdRows M w us qs) (hM : ∀ b, F b ∨ G b → M b) (hn : qs.length ≤ 1000000) (hq : ∀ r ∈ qs, r.length ≤ 16384) (hroom : d.used + (Hw.frames qs).length ≤ R) :
    Calls Tryd.prog 22 #[.pointer (some ⟨q, 0, none⟩), v] w (LDone B w0 p q t b (rs ++ qs) R F G w) := by
  obtain ⟨d', h1, h2, h3⟩ := hc.append hq (by rw [hR]; exact hroom)
  refine (journal_Append_open h rfl hjn hv hrs (fun b hb => hM b (.inl hb)) (fun b hb => hM b (.inr hb)) hn h1 errV_0).mono fun e w' hh => ?_
  obtain ⟨e1, F', G', hj⟩ := hh
  exact ⟨e1, d', F', G', hj, h2, h3.trans hR⟩
theorem lc_Save {B : Nat} {w0 w : World} {p q R : Nat} {d : Hw.HDisk} {F G M : Nat → Prop} {t : Int} {b c : Hw.Bytes} {rs : List Hw.Bytes} {v : Value} (h : JJ B w0 w p d F q ⟨t, b, rs, false⟩ G) (hc : Hw.JC d t b rs) (hR : d.room = R)
    (hv : RdB M w v c) (hM : ∀ b, F b ∨ G b → M b) (hn : c.length ≤ 1000000) (ht : Hw.Small (t + 1)) (hl : (Hw.varPut (t + 1) ++ c).length ≤ 16384) (hroom : d.used + (Hw.frameOf (Hw.varPut (t + 1) ++ c)).length ≤ R) :
    Calls Tryd.prog 23 #[.pointer (some ⟨q, 0, none⟩), v] w (LDone B w0 p q (t + 1) c [] R F G w) := by
  obtain ⟨d', h1, h2, h3⟩ := hc.save ht hl (by rw [hR]; exact hroom)
  refine (journal_Save_open h rfl hv hn (fun b hb => hM b (.inl hb)) (fun b hb => hM b (.inr hb)) h1 errV_0).mono fun e w' hh => ?_
  obtain ⟨e1, F', G', hj⟩ := hh
  exact ⟨e1, d', F', G', hj, h2, h3.trans hR⟩
theorem lc_Restart {B : Nat} {w0 w : World} {p q R : Nat} {d : Hw.HDisk} {F G : Nat → Prop} {j : Hw.HJ} (h : JJ B w0 w p d F q j G) (hR : d.room = R) (n : Int) :
    Calls Tryd.prog 28 #[.pointer (some ⟨p, 0, none⟩), .int .i64 n] w (fun e w' => e = .returned (.tuple #[]) ∧ DD B w0 w' p (d.restart n) F ∧ (d.restart n).room = R ∧ Upd F w w') :=
  (dd_Restart h.dd rfl).mono fun _ _ ⟨h1, h2, h3⟩ => ⟨h1, h2, hR, h3⟩
theorem lc_Again {B : Nat} {w0 w : World} {p R : Nat} {d : Hw.HDisk} {F : Nat → Prop} {t : Int} {b : Hw.Bytes} {rs : List Hw.Bytes} {n : Int} (h : DD B w0 w p (d.restart n) F) (hc : Hw.JC d t b rs) (hR : (d.restart n).room = R) :
    Calls Tryd.prog 18 #[.pointer (some ⟨p, 0, none⟩)] w (LOpen B w0 p t b rs R F w) := by
  obtain ⟨d', h1, h2, h3⟩ := hc.again n
  refine (open_ok h (by rw [Hw.restart_files]; have := hc.jd.files_le; omega) h1).mono fun e w' hh => ?_
  obtain ⟨q, F', G', e1, hj⟩ := hh
  exact ⟨q, d', F', G', e1, hj, h2, h3.trans hR⟩
theorem JS.bel {B : Nat} {w0 w w' : World} {p q : Nat} {d : Hw.HDisk} {F G F' G' : Nat → Prop} {j : Hw.HJ} (h : JS B w0 p q F G w d j w' F' G') : Below B w0 w' := h.jj.dd.bel
/-- A row of one row of bytes, just made. -/
theorem row_one (M : Nat → Prop) (w : World) (v : Value) (x : Hw.Bytes) (e : TypeId) (h : RdB M w v x) (hM : ¬ M w.heap.size) : RdC M (w.alloc (.cells #[v] e)) 1 (.slice (some ⟨w.heap.size, 0, none⟩) 1 1) [x].length [v] ∧ RdRows M (w.alloc (.cells #[v] e)) [v] [x] :=
  ⟨RdC.made w 1 1 #[v] e rfl (by decide) hM, (h.upd (M' := M) ((Upd.refl (fun _ => False) w).alloc _) (fun _ h => h.elim) (fun _ h => .inl h)), trivial⟩
end Go.Proofs.YtihncdlbbhmglaaDoor

/- hawalalaw06.awake. -/
namespace Go.Proofs.YtihncdlbbhmglaaDoor
open Go.RowKit

theorem JJ.al {B : Nat} {w0 w : World} {p q : Nat} {d : Hw.HDisk} {F G : Nat → Prop} {j : Hw.HJ} (h : JJ B w0 w p d F q j G) (o : Obj) : JJ B w0 (w.alloc o) p d F q j G := h.new ((Upd.refl _ _).alloc _)
theorem JJ.not {B : Nat} {w0 w : World} {p q : Nat} {d : Hw.HDisk} {F G : Nat → Prop} {j : Hw.HJ} (h : JJ B w0 w p d F q j G) {b : Nat} (hb : w.heap.size ≤ b) : ¬ (F b ∨ G b) := by
  rintro (h' | h')
  · have := h.dd.disk.lt h'; omega
  · have := h.jat.lt h'; omega
theorem aw6_app {B : Nat} {w0 w : World} {p q R : Nat} {d : Hw.HDisk} {F G : Nat → Prop} {t : Int} {b : Hw.Bytes} {rs : List Hw.Bytes} (h : JJ B w0 w p d F q ⟨t, b, rs, false⟩ G) (hc : Hw.JC d t b rs) (hR : d.room = R) (hjn : rs.length ≤ 1000) (c : UInt8) {n : Int} (hn : n = c.toNat) (hroom : d.used + 7 ≤ R) :
    Calls Tryd.prog 22 #[.pointer (some ⟨q, 0, none⟩), .slice (some ⟨w.heap.size + 1, 0, none⟩) 1 1] ((w.alloc (.cells #[.int .u8 n] 5 (1, 2))).alloc (.cells #[.slice (some ⟨w.heap.size, 0, none⟩) 1 1] 22))
      (LDone B w0 p q t b (rs ++ [[c]]) R F G ((w.alloc (.cells #[.int .u8 n] 5 (1, 2))).alloc (.cells #[.slice (some ⟨w.heap.size, 0, none⟩) 1 1] 22))) := by
  subst hn
  have hl := RdB.lit (fun b => F b ∨ G b) w [c] 5 (1, 2) (h.not (Nat.le_refl _)) (by simp [maxLen])
  have hs : (w.alloc (.cells #[.int .u8 c.toNat] 5 (1, 2))).heap.size = w.heap.size + 1 := by simp
  have hr := row_one (fun b => F b ∨ G b) (w.alloc (.cells #[.int .u8 c.toNat] 5 (1, 2))) (.slice (some ⟨w.heap.size, 0, none⟩) 1 1) [c] 22 hl (h.not (by rw [hs]; omega))
  rw [hs] at hr
  exact lc_Append ((h.al _).al _) hc hR (by omega) hr.1 hr.2 (fun _ h => h) (by simp) (by simp) (by simpa [Hw.frames, Hw.frameOf_length] using hroom)
theorem aw6_save {B : Nat} {w0 w : World} {p q R : Nat} {d : Hw.HDisk} {F G : Nat → Prop} {t : Int} {b : Hw.Bytes} {rs : List Hw.Bytes} (h : JJ B w0 w p d F q ⟨t, b, rs, false⟩ G) (hc : Hw.JC d t b rs) (hR : d.room = R) (ht : Hw.Small (t + 1)) (c : UInt8) {n : Int} (hn : n = c.toNat) (hroom : d.used + 17 ≤ R) :
    Calls Tryd.prog 23 #[.pointer (some ⟨q, 0, none⟩), .slice (some ⟨w.heap.size, 0, none⟩) 1 1] (w.alloc (.cells #[.int .u8 n] 5 (1, 2)))
      (LDone B w0 p q (t + 1) [c] [] R F G (w.alloc (.cells #[.int .u8 n] 5 (1, 2)))) := by
  subst hn
  have hl := RdB.lit (fun b => F b ∨ G b) w [c] 5 (1, 2) (h.not (Nat.le_refl _)) (by simp [maxLen])
  have h1 := Hw.varSmall ht
  have h2 := Hw.saveLen_le (n := 1) ht (b := [c]) (by simp)
  exact lc_Save (h.al _) hc hR hl (fun _ h => h) (by simp) ht (by simp; omega) (by omega)
theorem rec_one {w w' : World} {x : Hw.Bytes} {e : Ending} (h : RecRet [x] w e w') :
    ∃ b o c A c', e = .returned (.slice (some ⟨b, o, none⟩) 1 c) ∧ 1 ≤ c ∧ w'.cell? ⟨b, o, none⟩ = some (.slice A x.length c') ∧ (convert 22 9 (.slice A x.length c')).run Tryd.prog w' = .ok (.string (strB x)) w' ∧ Below w.heap.size w w' := by
  obtain ⟨v, rfl, ⟨us, ho, hr⟩, hb⟩ := h
  obtain ⟨b, o, c, rfl, hl, h1, _, _, _, hc⟩ := (RdC.of_own (M := fun _ => False) ho (fun _ _ h => h)).at (by simp)
  obtain ⟨u, hu, hux⟩ := hr.get (i := 0) (r := x) rfl
  have hs := hux.str
  obtain ⟨A, c', rfl, _, _⟩ := hux.len
  exact ⟨b, o, c, A, c', rfl, h1, by have := hc 0 _ hu; simpa using this, hs, hb⟩
theorem base_one {w w' : World} {x : UInt8} {e : Ending} {s : ByteArray} (h : FreshRet 5 1 [x].length (u8s [x]) w e w') (hs : strB [x] = s) :
    ∃ A c, e = .returned (.slice A 1 c) ∧ Below w.heap.size w w' ∧ (convert 22 9 (.slice A 1 c)).run Tryd.prog w' = .ok (.string s) w' := by
  subst hs; exact base_str (bs := [x]) h
theorem rec_one1 {w w' : World} {x : UInt8} {e : Ending} {s : ByteArray} (h : RecRet [[x]] w e w') (hs : strB [x] = s) :
    ∃ b o c A c', e = .returned (.slice (some ⟨b, o, none⟩) 1 c) ∧ 1 ≤ c ∧ w'.cell? ⟨b, o, none⟩ = some (.slice A 1 c') ∧ (convert 22 9 (.slice A 1 c')).run Tryd.prog w' = .ok (.string s) w' ∧ Below w.heap.size w w' := by
  subst hs; exact rec_one (x := [x]) h
def Awake6 (w : World) (e : Ending) (w' : World) : Prop := e = .returned (.bool true) ∧ Below w.heap.size w w'
set_option maxRecDepth 100000 in
set_option maxHeartbeats 2000000 in
theorem awake06 (w : World) : Calls Tryd.prog 14 #[] w (Awake6 w) := by
  have kc := litc
  go_enter Tryd.func14, Tryd.ntmps14
  go_wp2_with (first
    | (go_at_call 9; refine (disk_Of 1000 _).mono ?_; intro e w1 hr; obtain ⟨p, F, rfl, h1, hb1⟩ := DD.of (Below.refl _ _) hr; clear hr; have H1 := Lib.hid h1; clear h1; clear hb1)
    | (go_at_call 18; refine (lc_Open H1.out (Hw.JC.new 1000) rfl).mono ?_; rintro e w2 ⟨q, d2, F2, G2, rfl, h2, jc2, r2⟩; have H2 := Lib.hid h2.jj; have C2 := Lib.hid jc2; have R2 := Lib.hid r2; clear h2 jc2 r2))
  have u2 : d2.used + 7 ≤ 1000 := by rw [C2.out.jd.used]; simp [Hw.snapLen, Hw.frames]
  go_wp2_with (go_at_call 22; refine (aw6_app H2.out C2.out R2.out (by simp) 120 (n := 120) (by decide) u2).mono ?_; rintro e w3 ⟨rfl, d3, F3, G3, h3, jc3, r3⟩; have H3 := Lib.hid h3.jj; have C3 := Lib.hid jc3; have R3 := Lib.hid r3; clear h3 jc3 r3)
  have u3 : d3.used + 17 ≤ 1000 := by rw [C3.out.jd.used]; simp [Hw.snapLen, Hw.frames, Hw.frameOf_length]
  go_wp2_with (go_at_call 23; refine (aw6_save H3.out C3.out R3.out ⟨by decide, by decide⟩ 121 (n := 121) (by decide) u3).mono ?_; rintro e w4 ⟨rfl, d4, F4, G4, h4, jc4, r4⟩; have H4 := Lib.hid h4.jj; have C4 := Lib.hid jc4; have R4 := Lib.hid r4; clear h4 jc4 r4)
  have u4 : d4.used + 7 ≤ 1000 := by
    rw [C4.out.jd.used]
    have := Hw.snapLen_le (t := 0 + 1) (b := [121]) (n := 1) ⟨by decide, by decide⟩ (by simp)
    simp [Hw.frames] at this ⊢; omega
  go_wp2_with (first
    | (go_at_call 22; refine (aw6_app H4.out C4.out R4.out (by simp) 122 (n := 122) (by decide) u4).mono ?_; rintro e w5 ⟨rfl, d5, F5, G5, h5, jc5, r5⟩; have H5 := Lib.hid h5.jj; have C5 := Lib.hid jc5; have R5 := Lib.hid r5; clear h5 jc5 r5)
    | (go_at_call 28; refine (lc_Restart H5.out R5.out 0).mono ?_; rintro e w6 ⟨rfl, h6, r6, _⟩; have H6 := Lib.hid h6; have R6 := Lib.hid r6; clear h6 r6)
    | (go_at_call 18; refine (lc_Again H6.out C5.out R6.out).mono ?_; rintro e w7 ⟨q7, d7, F7, G7, rfl, h7, jc7, r7⟩; have H7 := Lib.hid h7.jj; clear h7 jc7 r7)
    | (go_at_call 35; refine (journal_Base H7.out.jat).mono ?_; intro e w8 hr8; obtain ⟨A8, c8, rfl, hb8, hs8⟩ := base_one (s := ⟨#[121]⟩) hr8 rfl; have H8 := Lib.hid (H7.out.below hb8); clear hr8 hb8)
    | (go_at_call 36; refine (journal_Records H9.out.jat (by simp)).mono ?_; intro e w10 hr; obtain ⟨b10, o10, c10, A10, d10, rfl, l10, k10, s10, hb10⟩ := rec_one1 (s := ⟨#[122]⟩) hr rfl; have H10 := Lib.hid (H9.out.below hb10); clear hr hb10)
    | (go_at_call 36; refine (journal_Records H8.out.jat (by simp)).mono ?_; intro e w9 hr; obtain ⟨b9, o9, c9, A9, d9, rfl, l9, _, _, hb9⟩ := rec_one1 (s := ⟨#[122]⟩) hr rfl; have H9 := Lib.hid (H8.out.below hb9); clear hr hb9)
    | (go_at_call 37; refine (journal_Turn H10.out.jat).mono ?_; rintro e w11 ⟨rfl, rfl⟩))
  go_ret
  exact ⟨rfl, H10.out.dd.bel⟩
end Go.Proofs.YtihncdlbbhmglaaDoor

/- Words of the laws: slices of strings; append at a guarded operation. -/
namespace Go.Proofs.YtihncdlbbhmglaaDoor
open Go.RowKit

theorem strrow : (Tryd.prog.info? 9).map (fun i => (i.zero, i.size, i.bytes)) = some (some (.string ⟨#[]⟩), 1, 16) := by kernel_rfl
theorem strslice : Tryd.prog.underlying 49 = some (.slice 9) := by kernel_rfl
theorem strs_one (rs : List Hw.Bytes) : ∀ u ∈ strs rs, u.oneCell' = true := by
  intro u hu
  obtain ⟨c, _, rfl⟩ := List.mem_map.1 hu
  rfl
theorem strs_append (rs qs : List Hw.Bytes) : strs (rs ++ qs) = strs rs ++ strs qs := by simp [strs]
theorem wpAppendG {P : Program} (w : World) {ops : Array Oper} {rest : List Oper} {o : Oper} {a : Act} {Q : Exit → Act → World → Prop} (hw : Region.wanted o (yielded ops a.tmps) = true) (s x : Operand) (t : TypeId)
    (ho : o.op = .call { callee := .builtin .append, args := #[s, x], argTypes := #[t, t] })
    (base : Nat) (e : TypeId) (i : TypeInfo) (z : Value) (size bytes : Nat) (ht : P.underlying t = some (.slice e)) (hi : P.info? e = some i) (hz : i.zero = some z)
    (hsize : i.size = size) (hby : i.bytes = bytes) (hzs : z.cells.size = size) (hsz : 0 < size)
    (v : Value) (n : Nat) (xs : List Value) (hs : a.eval s = v) (hown : w.ownsRow base e size v n xs)
    (M : Nat → Prop) (vx : Value) (m : Nat) (news : List Value) (hx : a.eval x = vx) (hr : RdC M w size vx m news) (h1 : ∀ u ∈ news, u.oneCell' = true)
    (h63 : n + m ≤ maxLen) (hbytes : (n + m) * bytes ≤ 140737488355328) (hbase : base ≤ w.heap.size)
    (h : ∀ v' w', w'.ownsRow base e size v' (n + m) (xs ++ news) → w.grownBy w' v.ownBlock → (v'.ownBlock = v.ownBlock ∨ v'.ownBlock = some w.heap.size) → wpList P ops Q rest (a.put o.dst v') w') :
    wpList P ops Q (o :: rest) a w := by
  refine wpList_step fun K hK => ?_
  rw [if_pos hw]
  obtain ⟨v', w', q0, q1, q2, q3⟩ := runAppend (P := P) w t o.type base e i z size bytes ht hi hz hsize hby hzs hsz v n xs hown M vx m news hr h1 h63 hbytes hbase
  unfold Oper.wp execOp
  simp only [ho, resolve, invoke, builtin, Sem.run_bind, Sem.run_pure, Result.andThen_ok, List.map_toArray, List.map_cons, List.map_nil, hs, hx, q0]
  exact hK _ _ (h v' w' q1 q2 q3)
/-- An owned slice of strings. -/
def OwnStrs (B : Nat) (w : World) (v : Value) (rs : List Hw.Bytes) : Prop := w.ownsRow B 9 1 v rs.length (strs rs)
theorem OwnStrs.nil (B : Nat) (w : World) : OwnStrs B w (.slice none 0 0) [] := World.ownsRow_nil _ _ _ _
theorem OwnStrs.below {B : Nat} {w w' : World} {v : Value} {rs : List Hw.Bytes} (h : OwnStrs B w v rs) (hb : Below w.heap.size w w') : OwnStrs B w' v rs := own_upd h (Upd.of_below (F := fun _ => False) hb) (fun _ _ h => h)
theorem OwnStrs.form {B : Nat} {w : World} {v : Value} {rs : List Hw.Bytes} (h : OwnStrs B w v rs) : ∃ A c, v = .slice A rs.length c := own_form h
theorem OwnStrs.snoc {B : Nat} {w : World} {v : Value} {rs : List Hw.Bytes} {x : Hw.Bytes} (h : w.ownsRow B 9 1 v (rs.length + 1) (strs rs ++ [.string (strB x)])) : OwnStrs B w v (rs ++ [x]) := by
  unfold OwnStrs; rw [strs_append, List.length_append]; exact h
end Go.Proofs.YtihncdlbbhmglaaDoor

/- Words of the laws. -/
namespace Go.Proofs.YtihncdlbbhmglaaDoor
open Go.RowKit

theorem made_zeros (L : Nat) : (madeCells #[.int .u8 0] L).toList = u8s (List.replicate L 0) := by
  apply List.ext_getElem?
  intro i
  simp only [u8s, List.map_replicate]
  by_cases h : i < L
  · rw [List.getElem?_replicate, if_pos h]
    have : i % 1 = 0 := Nat.mod_one i
    simp [madeCells, h, this]
  · rw [List.getElem?_replicate, if_neg h]
    simp [madeCells]; omega
theorem var1_len : (Hw.varPut ((0 : Int) + 1)).length = 1 := by
  have e : Hw.zig ((0 : Int) + 1) = 2 := rfl
  unfold Hw.varPut; rw [e, Hw.putU_lt (by omega)]; rfl
def TrueRet (w : World) (e : Ending) (w' : World) : Prop := e = .returned (.bool true) ∧ Below w.heap.size w w'
theorem lc_Shows {B : Nat} {w0 w : World} {p q : Nat} {d : Hw.HDisk} {F G M : Nat → Prop} {t : Int} {b : Hw.Bytes} {rs : List Hw.Bytes} (h : JJ B w0 w p d F q ⟨t, b, rs, false⟩ G) (hjn : rs.length ≤ 1000000000) {v : Value} (hv : RdC M w 1 v rs.length (strs rs)) {s : ByteArray} (hs : strB b = s) :
    Calls Tryd.prog 20 #[.pointer (some ⟨q, 0, none⟩), .string s, v, .int .i64 t] w (fun e w' => e = .returned (.bool true) ∧ JJ B w0 w' p d F q ⟨t, b, rs, false⟩ G ∧ Below w.heap.size w w') := by
  subst hs
  refine (shows_walk h.jat hjn b hv t).mono fun e w' hh => ?_
  obtain ⟨e1, hb⟩ := hh
  exact ⟨by rw [e1, shows_yes ⟨rfl, rfl, rfl⟩], h.below hb, hb⟩
theorem row_two (M : Nat → Prop) (w : World) (u v : Value) (x y : Hw.Bytes) (e : TypeId) (hu : RdB M w u x) (hv : RdB M w v y) (hM : ¬ M w.heap.size) :
    RdC M (w.alloc (.cells #[u, v] e)) 1 (.slice (some ⟨w.heap.size, 0, none⟩) 2 2) [x, y].length [u, v] ∧ RdRows M (w.alloc (.cells #[u, v] e)) [u, v] [x, y] :=
  ⟨RdC.made w 1 2 #[u, v] e rfl (by decide) hM, (hu.upd (M' := M) ((Upd.refl (fun _ => False) w).alloc _) (fun _ h => h.elim) (fun _ h => .inl h)), (hv.upd (M' := M) ((Upd.refl (fun _ => False) w).alloc _) (fun _ h => h.elim) (fun _ h => .inl h)), trivial⟩
theorem strs_two (M : Nat → Prop) (w : World) (x y : Hw.Bytes) (e : TypeId) (hM : ¬ M w.heap.size) : RdC M (w.alloc (.cells #[.string (strB x), .string (strB y)] e)) 1 (.slice (some ⟨w.heap.size, 0, none⟩) 2 2) [x, y].length (strs [x, y]) :=
  RdC.made w 1 2 #[.string (strB x), .string (strB y)] e rfl (by decide) hM
theorem jj_rdb {B : Nat} {w0 w : World} {p q : Nat} {d : Hw.HDisk} {F G : Nat → Prop} {j : Hw.HJ} (h : JJ B w0 w p d F q j G) {v : Value} {b : Hw.Bytes} (hb : RdB (fun k => B ≤ k) w v b) : RdB (fun k => F k ∨ G k) w v b :=
  RdC.mono hb (fun k hk => hk.elim (h.dd.own k) (h.own k))
theorem JS.rd {B : Nat} {w0 w w' : World} {p q : Nat} {d : Hw.HDisk} {F G F' G' : Nat → Prop} {j : Hw.HJ} (h : JS B w0 p q F G w d j w' F' G') {v : Value} {b : Hw.Bytes} (hb : RdB (fun k => F k ∨ G k) w v b) : RdB (fun k => F' k ∨ G' k) w' v b :=
  hb.upd h.u (fun _ h => .inl h) (fun n hn => by
    rcases hn with e | e
    · rcases h.f n e with e | e
      · exact .inl (.inl e)
      · exact .inr e
    · rcases h.g n e with e | e
      · exact .inl (.inr e)
      · exact .inr e)
end Go.Proofs.YtihncdlbbhmglaaDoor
