/- Walks: disk: Append. -/
import Derived.Test.YtihncdlbbhmglaaDoorWn
namespace Go.Proofs.YtihncdlbbhmglaaDoor
open Go.RowKit
structure UsedPost (d : Hw.HDisk) (w : World) (e : Ending) (w' : World) : Prop where
  ret : e = .returned (.int .i64 (d.used : Nat))
  bel : Below w.heap.size w w'
theorem used_at {w W : World} {p : Nat} {d : Hw.HDisk} {F : Nat → Prop} {bm clock : Nat} {Fs : List FE} (h : DiskAt w p d F bm clock Fs) (hb : Below w.heap.size w W) :
    Calls Tryd.prog 13 #[.pointer (some ⟨p, 0, none⟩)] W fun e w' => e = .returned (.int .i64 (d.used : Nat)) ∧ Below w.heap.size w w' :=
  (disk_Used p d F bm clock Fs W (h.upd (G := fun _ => False) (Upd.of_below hb) (fun _ _ h => h))).mono fun _ _ ⟨h1, h2⟩ => ⟨h1, hb.trans (h2.mono hb.size)⟩
theorem setAt_setAt (n : Int) (f g : Hw.HFile) : ∀ l : List (Int × Hw.HFile), Hw.HDisk.setAt (Hw.HDisk.setAt l n f) n g = Hw.HDisk.setAt l n g := by
  intro l
  induction l with
  | nil => simp [Hw.HDisk.setAt]
  | cons q l ih =>
    by_cases h : q.1 = n
    · simp [Hw.HDisk.setAt, h]
    · simp [Hw.HDisk.setAt, h, ih]
theorem put_put (d : Hw.HDisk) (n : Int) (f g : Hw.HFile) : (d.put n f).put n g = d.put n g := by
  simp only [Hw.HDisk.put, setAt_setAt]
/-- A new file, empty. -/
theorem DiskAt.fresh {w : World} {p : Nat} {D : Hw.HDisk} {F : Nat → Prop} {bm clock : Nat} {Fs : List FE} {n : Int} (h : DiskAt w p D F bm clock Fs) (hf : D.find n = none) {w3 : World}
    (hw : w3 = withMap (w.alloc (.cells #[.slice none 0 0, .int .i64 0] 69)) bm (mset (Fs.map fme) n (.pointer (some ⟨w.heap.size, 0, none⟩)) clock) (bump (Fs.map fme) n clock)) :
    ∃ c' Fs' F' x, DiskAt w3 p (D.put n ⟨[], 0⟩) F' bm c' Fs' ∧ (∀ b, F' b → F b ∨ b = w.heap.size) ∧ x ∈ Fs' ∧ x.name = n ∧ x.bf = w.heap.size ∧ x.row = none ∧ x.file = ⟨[], 0⟩ ∧ Upd F w w3 := by
  have hb := below_new w (.cells #[.slice none 0 0, .int .i64 0] 69)
  have h2 := h.upd (G := fun _ => False) (Upd.of_below hb) (fun _ _ h => h)
  have hfile : FileAt (w.alloc (.cells #[.slice none 0 0, .int .i64 0] 69)) w.heap.size none ⟨[], 0⟩ := ⟨.slice none 0 0, heap_alloc_new w _, rfl, World.ownsRow_nil _ _ _ _⟩
  have hwf : Hw.HDisk.WF (D.put n ⟨[], 0⟩) := h.wf.put _ _ (by simp) (by have := h.wf.room; show D.used + 0 ≤ _; omega)
  obtain ⟨c', Fs', F', h3, h4, x, h5, h6, h7, h8, h9⟩ := h2.ins n hfile (fun y hy e => by
      have := h.lt ((h.fp _).2 (.inr (.inr ⟨y, hy, .inl rfl⟩))); omega) (fun y _ b hb => by cases hb) hwf
  refine ⟨c', Fs', F', x, by rw [hw]; exact h3, fun b hb => ?_, h5, h6, h7, h8, h9, ?_⟩
  · rcases h4 b hb with e | e | e
    · exact .inl e
    · exact .inr e
    · cases e
  · rw [hw]; exact (Upd.of_below hb).trans (withMap_upd _ bm _ _) (fun c _ e => (h.fp c).2 (.inr (.inl e)))
/-- Behind an append onto a file's bytes, stored. -/
theorem append_put {w w3 : World} {p : Nat} {D : Hw.HDisk} {F : Nat → Prop} {bm clock : Nat} {Fs : List FE} {n : Int} {x : FE} {f : Hw.HFile} {sv v1 : Value} {bs : Hw.Bytes} (h : DiskAt w p D F bm clock Fs) (hx : x ∈ Fs) (hxn : x.name = n) (hxf : x.file = f) (hf : D.find n = some f)
    (hroom : D.used + bs.length ≤ D.room) (hsv : w.cell? ⟨x.bf, 0, none⟩ = some sv) (o1 : w3.ownsRow 0 5 1 v1 (f.bytes.length + bs.length) (u8s f.bytes ++ u8s bs)) (g1 : w.grownBy w3 sv.ownBlock) (a1 : v1.ownBlock = sv.ownBlock ∨ v1.ownBlock = some w.heap.size) :
    ∃ F', DiskAt (w3.setCell ⟨x.bf, 0, none⟩ v1) p (D.put n ⟨f.bytes ++ bs, f.safe⟩) F' bm clock (Fs.map (reF n ⟨f.bytes ++ bs, f.safe⟩ x.bf v1.ownBlock)) ∧ (∀ b, F' b → F b ∨ w.heap.size ≤ b) ∧ Upd F w (w3.setCell ⟨x.bf, 0, none⟩ v1) := by
  have hfx := h.each x hx
  rw [hxf] at hfx
  obtain ⟨sv', k1, k2, k3⟩ := hfx
  have hfx := h.each x hx
  have e : sv' = sv := by simp [World.cell?, k1] at hsv; exact hsv
  subst e
  have hbf : x.bf < w.heap.size := blk_lt k1
  have k1' : w3.heap[x.bf]? = some (.cells #[sv', .int .i64 (f.safe : Int)] 69 (0, 0)) := (g1.block x.bf hbf (fun e => hfx.row_cells (k2.symm.trans e.symm) k1 (by decide) rfl)).trans k1
  have hus : Upd (fun b => b = x.bf ∨ x.row = some b) w (w3.setCell ⟨x.bf, 0, none⟩ v1) :=
    ((Upd.of_grown g1).mono (fun b _ e => .inr (k2.symm.trans e))).trans ((Upd.refl (fun b => b = x.bf) w3).setCell (p := ⟨x.bf, 0, none⟩) (.inl rfl) v1) (fun b _ e => .inl e)
  have hfile : FileAt (w3.setCell ⟨x.bf, 0, none⟩ v1) x.bf v1.ownBlock ⟨f.bytes ++ bs, f.safe⟩ := by
    refine ⟨v1, by rw [blk_set k1']; rfl, rfl, ?_⟩
    have := own_upd o1 ((Upd.refl (fun b => b = x.bf) w3).setCell (p := ⟨x.bf, 0, none⟩) (.inl rfl) v1) (fun k hk e => by
      rcases a1 with a | a
      · exact hfx.row_cells (k2.symm.trans (a.symm.trans hk)) k1 (by decide) e.symm
      · rw [a] at hk; cases hk; omega)
    rw [u8s_append, List.length_append]; exact this
  have hwf : Hw.HDisk.WF (D.put n ⟨f.bytes ++ bs, f.safe⟩) := by
    have hsf := h.wf.safe n f hf
    refine h.wf.put _ _ (by simp; omega) ?_
    have := Hw.HDisk.len_some hf
    show D.used + (f.bytes ++ bs).length ≤ _
    rw [List.length_append]; omega
  obtain ⟨F', h2, h3⟩ := h.put hx hxn hus hfile (by
    rcases a1 with a | a
    · exact .inl (a.trans k2)
    · exact .inr (.inr ⟨_, a, Nat.le_refl _⟩)) hwf
  exact ⟨F', h2, h3, hus.mono (fun b _ hb => (h.fp b).2 (.inr (.inr ⟨x, hx, hb⟩)))⟩
theorem store_at {w w3 : World} {p : Nat} {D : Hw.HDisk} {F : Nat → Prop} {bm clock : Nat} {Fs : List FE} {x : FE} {sv : Value} (h : DiskAt w p D F bm clock Fs) (hx : x ∈ Fs)
    (hsv : w.cell? ⟨x.bf, 0, none⟩ = some sv) (g1 : w.grownBy w3 sv.ownBlock) : w3.cell? ⟨x.bf, 0, none⟩ = some sv ∧ w3.frozen? ⟨x.bf, 0, none⟩ = false := by
  have hfx := h.each x hx
  obtain ⟨sv', k1, k2, k3⟩ := hfx
  have hfx := h.each x hx
  have e : sv' = sv := by simp [World.cell?, k1] at hsv; exact hsv
  subst e
  have k1' : w3.heap[x.bf]? = some (.cells #[sv', .int .i64 (x.file.safe : Int)] 69 (0, 0)) := (g1.block x.bf (blk_lt k1) (fun e => hfx.row_cells (k2.symm.trans e.symm) k1 (by decide) rfl)).trans k1
  exact ⟨by simp [World.cell?, k1'], by simp [World.frozen?, k1']⟩
def Fresh (w3 : World) (p n0 : Nat) (D : Hw.HDisk) (F : Nat → Prop) (bm : Nat) (n : Int) (w : World) : Prop :=
  ∃ c' Fs' F' x, DiskAt w3 p (D.put n ⟨[], 0⟩) F' bm c' Fs' ∧ (∀ b, F' b → F b ∨ b = n0) ∧ x ∈ Fs' ∧ x.name = n ∧ x.bf = n0 ∧ x.row = none ∧ x.file = ⟨[], 0⟩ ∧ Upd F w w3
theorem fresh_cells {w w3 : World} {p n0 : Nat} {D : Hw.HDisk} {F : Nat → Prop} {bm : Nat} {n : Int} (h : Fresh w3 p n0 D F bm n w) : w3.cell? ⟨n0, 0, none⟩ = some (.slice none 0 0) ∧ w3.frozen? ⟨n0, 0, none⟩ = false := by
  obtain ⟨c', Fs', F', x, h1, _, h3, _, h5, h6, h7, _⟩ := h
  obtain ⟨sv, k1, k2, k3⟩ := h1.each x h3
  rw [h5] at k1
  rw [h7] at k3
  have : sv = .slice none 0 0 := by
    rcases k3.2 with ⟨e, _⟩ | ⟨g, cap, cur, e, _⟩
    · exact e
    · rw [h6, e] at k2; cases k2
  exact ⟨by simp [World.cell?, k1, this], by simp [World.frozen?, k1]⟩
theorem fresh_src {w w2 w3 : World} {p n0 : Nat} {D : Hw.HDisk} {F M : Nat → Prop} {bm : Nat} {n : Int} {v : Value} {bs : Hw.Bytes} (hv : RdB M w v bs) (hM : ∀ b, F b → M b) (hu : Upd F w w2) (h : Fresh w3 p n0 D F bm n w2) : RdB M w3 v bs := by
  obtain ⟨c', Fs', F', x, _, _, _, _, _, _, _, h8⟩ := h
  exact hv.upd (hu.trans h8 (fun _ _ h => h)) (fun n h => .inl (hM n h)) (fun _ h => .inl h)
theorem fresh_store {w w3 w4 : World} {p n0 : Nat} {D : Hw.HDisk} {F : Nat → Prop} {bm : Nat} {n : Int} (h : Fresh w3 p n0 D F bm n w) (g1 : w3.grownBy w4 (Value.slice none 0 0).ownBlock) : w4.cell? ⟨n0, 0, none⟩ = some (.slice none 0 0) ∧ w4.frozen? ⟨n0, 0, none⟩ = false := by
  have hc := fresh_cells h
  obtain ⟨c', Fs', F', x, h1, _, h3, _, h5, _⟩ := h
  subst h5
  exact store_at h1 h3 hc.1 g1
theorem fresh_put {w w3 w4 : World} {p : Nat} {D : Hw.HDisk} {F F0 : Nat → Prop} {bm bm0 clock : Nat} {Fs : List FE} {n : Int} {v1 : Value} {bs : Hw.Bytes} (h0 : DiskAt w p D F0 bm0 clock Fs) (hf : D.find n = none) (h : Fresh w3 p w.heap.size D F bm n w)
    (hroom : D.used + bs.length ≤ D.room) (o1 : w4.ownsRow 0 5 1 v1 bs.length (u8s bs)) (g1 : w3.grownBy w4 (Value.slice none 0 0).ownBlock) (a1 : v1.ownBlock = (Value.slice none 0 0).ownBlock ∨ v1.ownBlock = some w3.heap.size) :
    ∃ D' bm' c' Fs' F', DiskAt (w4.setCell ⟨w.heap.size, 0, none⟩ v1) p D' F' bm' c' Fs' ∧ (∀ b, F' b → F b ∨ w.heap.size ≤ b) ∧ Upd F w (w4.setCell ⟨w.heap.size, 0, none⟩ v1) ∧ D' = D.put n ⟨bs, 0⟩ := by
  have hc := fresh_cells h
  obtain ⟨c', Fs', F', x, h1, h2, h3, h4, h5, h6, h7, h8⟩ := h
  have hu := Hw.HDisk.used_put D n ⟨[], 0⟩
  rw [Hw.HDisk.len_none hf] at hu
  have hs := h8.size
  obtain ⟨F2, q1, q2, q3⟩ := append_put (f := ⟨[], 0⟩) (bs := bs) (n := n) (sv := .slice none 0 0) h1 h3 h4 h7 (Hw.HDisk.find_put_same _ _ _) (by simp only [Hw.HDisk.room_put]; simp at hu; omega) (by rw [h5]; exact hc.1) (by simpa [u8s] using o1) g1 a1
  rw [h5] at q1 q3
  refine ⟨_, _, _, _, F2, q1, fun b hb => ?_, h8.trans q3 (fun b hb hF => ?_), by rw [put_put]; rfl⟩
  · rcases q2 b hb with e | e
    · rcases h2 b e with e | e
      · exact .inl e
      · exact .inr (by omega)
    · exact .inr (by omega)
  · rcases h2 b hF with e | e
    · exact e
    · omega
theorem append_end {w w2 w4 : World} {p : Nat} {d D' : Hw.HDisk} {F F' F2 : Nat → Prop} {bm clock : Nat} {Fs : List FE} (e : Int) (h : DiskAt w4 p D' F' bm clock Fs) (h2 : ∀ b, F' b → F2 b ∨ w2.heap.size ≤ b) (h3 : ∀ b, F2 b → F b ∨ w.heap.size ≤ b) (hs : w.heap.size ≤ w2.heap.size)
    (hu2 : Upd F w w2) (hu4 : Upd F2 w2 w4) (hd : D' = d) : DiskRet p (e, d) F w (.returned (errV e)) w4 := by
  subst hd
  refine DiskRet.of e h (fun b hb => ?_) (hu2.trans hu4 (fun b hb hF => ?_))
  · rcases h2 b hb with h | h
    · exact h3 b h
    · exact .inr (by omega)
  · rcases h3 b hF with h | h
    · exact h
    · omega
set_option maxRecDepth 100000 in
set_option maxHeartbeats 2000000 in
theorem disk_Append (p : Nat) (d : Hw.HDisk) (F M : Nat → Prop) (n : Int) (v : Value) (bs : Hw.Bytes) (w : World) (h : IsDisk w p d F) (hv : RdB M w v bs) (hM : ∀ b, F b → M b) (hbl : bs.length ≤ 1000000000000000) :
    Calls Tryd.prog 10 #[.pointer (some ⟨p, 0, none⟩), .int .i64 n, v] w (DiskRet p (d.append n bs) F w) := by
  obtain ⟨i0, hi, hz0, hz1, hz2⟩ := info_parts u8row
  obtain ⟨bm, clock, Fs, h⟩ := h
  obtain ⟨A, c, rfl, l1, l2⟩ := hv.len
  have HV := Lib.hid (And.intro hv hM); clear hv hM
  unfold maxLen at l2
  have c0 : w.cell? ⟨p, 0, none⟩ = some (.map (some bm)) := h.cell0
  have c1 : w.cell? ⟨p, 1, none⟩ = some (.int .i64 (d.room : Int)) := h.cell1
  have c3 : w.cell? ⟨p, 3, none⟩ = some (.bool d.stopped) := h.cell3
  have hp : p < w.heap.size := blk_lt h.top
  have H := Lib.hid h
  unfold Hw.HDisk.append
  by_cases hst : d.stopped = true
  · rw [if_pos hst]
    rw [hst] at c3
    clear h hst
    go_enter Tryd.func10, Tryd.ntmps10
    go_wp2
    go_ret
    exact DiskRet.same ⟨bm, clock, Fs, H.out⟩ 12 (Below.refl _ _)
  · rw [if_neg hst]
    have hst' : d.stopped = false := by simpa using hst
    rw [hst'] at c3
    have hroom := h.wf.room
    have hmost := h.wf.most
    have hwsum : IntKind.i64.wrap ((d.used : Int) + (bs.length : Int)) = (d.used : Int) + (bs.length : Int) := by rw [IntKind.wrap_i64]; omega
    clear hst h hst'
    by_cases hful : d.room < d.used + bs.length
    · rw [if_pos hful]
      have hfu : (d.room : Int) < (d.used : Int) + (bs.length : Int) := by omega
      go_enter Tryd.func10, Tryd.ntmps10
      go_wp2_with fail
      go_region_held3 (fun w' => w'.cell? ⟨p, 1, none⟩ = some (.int .i64 (d.room : Int)) ∧ Below w.heap.size w w')
        (first | exact ⟨c1, (Below.refl _ _).drew⟩ | exact ⟨(‹Below w.heap.size w _›.cell (p := ⟨p, 1, none⟩) hp).trans c1, ‹_›⟩)
        ((go_at_call 13; refine (used_at H.out (And.right ‹_›)).mono ?_; rintro e w1 ⟨rfl, hb1⟩))
      have HB := Lib.hid (And.right ‹_ ∧ Below w.heap.size w _›)
      clear ‹_ ∧ Below w.heap.size w _›
      go_wp2_with fail
      go_ret
      exact DiskRet.same ⟨bm, clock, Fs, H.out⟩ 8 HB.out
    · rw [if_neg hful]
      have hfu : (d.used : Int) + (bs.length : Int) ≤ (d.room : Int) := by omega
      have hroom' : d.used + bs.length ≤ d.room := by omega
      clear hful
      cases hf : d.find n with
      | some f =>
        obtain ⟨x, hx, hxn, hxf, hl⟩ := H.out.find_some hf
        have HX := Lib.hid (And.intro hx (And.intro hxn (And.intro hxf hf)))
        have hlen : f.bytes.length ≤ 262144 := by
          have := Hw.HDisk.len_le d n
          rw [Hw.HDisk.len_some hf] at this; omega
        simp only [Option.getD_some]
        clear hf hx hxn hxf
        have hwb : ∃ b, d.works.stopped = b := ⟨_, rfl⟩
        obtain ⟨b, hwb⟩ := hwb
        have HW := Lib.hid hwb
        rw [hwb]
        cases b
        all_goals
          go_enter Tryd.func10, Tryd.ntmps10
          go_wp2_with fail
          go_region_held3 (fun w' => w'.cell? ⟨p, 1, none⟩ = some (.int .i64 (d.room : Int)) ∧ Below w.heap.size w w')
            (first | exact ⟨c1, (Below.refl _ _).drew⟩ | exact ⟨(‹Below w.heap.size w _›.cell (p := ⟨p, 1, none⟩) hp).trans c1, ‹_›⟩)
            ((go_at_call 13; refine (used_at H.out (And.right ‹_›)).mono ?_; rintro e w1 ⟨rfl, hb1⟩))
          have HB := Lib.hid (And.right ‹_ ∧ Below w.heap.size w _›)
          clear ‹_ ∧ Below w.heap.size w _›
          have H1 := Lib.hid (H.out.upd (G := fun _ => False) (Upd.of_below HB.out) (fun _ _ h => h))
          go_wp2_with (first
            | (go_at_call 32; refine (disk_works p d F bm clock Fs _ H1.out).mono ?_; rintro e w2 ⟨rfl, hd, hu⟩; have k0 := hd.cell0; obtain ⟨A', c', k10, _, _, _⟩ := (hd.each x HX.out.1).cells; rw [HX.out.2.2.1] at k10; have hus2 := (Upd.of_below (F := F) HB.out).trans (H1.out.fpU hu) (fun _ _ h => h); have HD := Lib.hid (And.intro hd (And.intro hus2 (HV.out.1.upd hus2 (M' := M) (fun n h => .inl (HV.out.2 n h)) (fun _ h => .inl h)))); have HK := Lib.hid k10; have HF := Lib.hid (FileAt.slice_at (hd.each x HX.out.1) HX.out.2.2.1 k10); have hfz : w2.frozen? ⟨x.bf, 0, none⟩ = false := (hd.each x HX.out.1).unfrozen 0; clear hd hu hus2)
            | (at_lookup; refine wpLookup rfl _ _ rfl dmap dint dptr HD.out.1.mp rfl rfl ?_)
            | (at_builtin; refine wpAppend _ rfl _ _ 22 rfl 0 5 i0 (.int .u8 0) 1 1 u8slice hi hz0 hz1 hz2 rfl (by decide) _ _ _ rfl HF.out M _ bs.length (u8s bs) rfl HD.out.2.2 ?_ ?_ ?_ ?_ ?_))
          · exact u8s_one _
          · unfold maxLen; omega
          · omega
          · exact Nat.zero_le _
          · intro v1 w3 o1 g1 a1
            obtain ⟨A1, c1, rfl⟩ := own_form o1
            have AP := append_put HD.out.1 HX.out.1 HX.out.2.1 HX.out.2.2.1 HX.out.2.2.2 hroom' HK.out o1 g1 a1
            have hst := store_at HD.out.1 HX.out.1 HK.out g1
            obtain ⟨hst1, hst2⟩ := hst
            have HA := Lib.hid AP
            clear AP o1 g1 a1
            go_wp2_with fail
            go_ret
            obtain ⟨F', q1, q2, q3⟩ := HA.out
            exact append_end _ q1 q2 (fun _ h => .inl h) HD.out.2.1.size HD.out.2.1 q3 rfl
      | none =>
        have hl := H.out.find_none hf
        have HFN := Lib.hid hf
        simp only [Option.getD_none, List.nil_append]
        clear hf
        have hwb : ∃ b, d.works.stopped = b := ⟨_, rfl⟩
        obtain ⟨b, hwb⟩ := hwb
        have HW := Lib.hid hwb
        rw [hwb]
        cases b
        all_goals
          go_enter Tryd.func10, Tryd.ntmps10
          go_wp2_with fail
          go_region_held3 (fun w' => w'.cell? ⟨p, 1, none⟩ = some (.int .i64 (d.room : Int)) ∧ Below w.heap.size w w')
            (first | exact ⟨c1, (Below.refl _ _).drew⟩ | exact ⟨(‹Below w.heap.size w _›.cell (p := ⟨p, 1, none⟩) hp).trans c1, ‹_›⟩)
            ((go_at_call 13; refine (used_at H.out (And.right ‹_›)).mono ?_; rintro e w1 ⟨rfl, hb1⟩))
          have HB := Lib.hid (And.right ‹_ ∧ Below w.heap.size w _›)
          clear ‹_ ∧ Below w.heap.size w _›
          have H1 := Lib.hid (H.out.upd (G := fun _ => False) (Upd.of_below HB.out) (fun _ _ h => h))
          go_wp2_with (first
            | (go_at_call 32; refine (disk_works p d F bm clock Fs _ H1.out).mono ?_; rintro e w2 ⟨rfl, hd, hu⟩; have k0 := hd.cell0; have hpl : p < w2.heap.size := blk_lt hd.top; have hus2 := (Upd.of_below (F := F) HB.out).trans (H1.out.fpU hu) (fun _ _ h => h); have HD := Lib.hid (And.intro hd hus2); clear hd hu hus2)
            | (at_lookup; refine wpLookup rfl _ _ rfl dmap dint dptr HD.out.1.mp rfl rfl ?_)
            | (at_mapUpdate; refine wpUpdate rfl _ _ _ rfl dmap dint (HD.out.1.mp.below' (below_new _ _)) rfl rfl rfl ?_; intro w3 hw3; have hfr := HD.out.1.fresh (n := n) HFN.out hw3.out; have HFR := Lib.hid hfr; obtain ⟨hst1, hst2⟩ := fresh_cells hfr; have hv3 := fresh_src HV.out.1 HV.out.2 HD.out.2 hfr; have HV3 := Lib.hid hv3; clear hfr hv3)
            | (at_builtin; refine wpAppend _ rfl _ _ 22 rfl 0 5 i0 (.int .u8 0) 1 1 u8slice hi hz0 hz1 hz2 rfl (by decide) _ 0 [] rfl (World.ownsRow_nil _ _ _ _) M _ bs.length (u8s bs) rfl HV3.out ?_ ?_ ?_ ?_ ?_))
          · exact u8s_one _
          · unfold maxLen; omega
          · omega
          · exact Nat.zero_le _
          · intro v1 w4 o1 g1 a1
            obtain ⟨A1, c1, rfl⟩ := own_form o1
            have AP := fresh_put HD.out.1 HFN.out HFR.out hroom' o1 g1 a1
            obtain ⟨hst3, hst4⟩ := fresh_store HFR.out g1
            have HA := Lib.hid AP
            clear AP o1 g1 a1 hst1 hst2
            go_wp2_with fail
            go_ret
            obtain ⟨D', bm', c', Fs', F', q1, q2, q3, q4⟩ := HA.out
            exact append_end _ q1 q2 (fun _ h => .inl h) HD.out.2.size HD.out.2 q3 q4
end Go.Proofs.YtihncdlbbhmglaaDoor
