/- Walks: disk: Cut. -/
import Derived.Test.YtihncdlbbhmglaaDoorWm
namespace Go.Proofs.YtihncdlbbhmglaaDoor
open Go.RowKit
theorem own_take {w : World} {base n c m : Nat} {e : TypeId} {A : Option Addr} {xs : List Value} (h : w.ownsRow base e 1 (.slice A n c) n xs) (hm : m ≤ n) : w.ownsRow base e 1 (.slice A m c) m (xs.take m) := by
  have hl := h.1
  refine ⟨by simp; omega, ?_⟩
  rcases h.2 with ⟨hv, hn⟩ | ⟨g, cap, cur, hv, h1, h2, h3, h4, h5, h6⟩
  · cases hv
    have hm0 : m = 0 := by omega
    subst hm0
    exact .inl ⟨rfl, rfl⟩
  · cases hv; right
    refine ⟨g, c, cur, rfl, h1, h2, by omega, h4, h5, ?_⟩
    rw [← h6, List.take_take]; congr 1; omega
theorem FileAt.slice {w : World} {bf : Nat} {row : Option Nat} {f : Hw.HFile} (h : FileAt w bf row f) : ∃ A c, w.heap[bf]? = some (.cells #[.slice A f.bytes.length c, .int .i64 (f.safe : Int)] 69 (0, 0)) ∧ (Value.slice A f.bytes.length c).ownBlock = row ∧ w.ownsRow 0 5 1 (.slice A f.bytes.length c) f.bytes.length (u8s f.bytes) ∧ f.bytes.length ≤ c ∧ c ≤ maxLen := by
  obtain ⟨sv, g1, g2, g3⟩ := h
  obtain ⟨A, c, rfl, h1, h2⟩ := RdB.len (RdB.of_own (M := fun _ => False) g3 (fun _ _ h => h))
  exact ⟨A, c, g1, g2, g3, h1, h2⟩
theorem FileAt.slice_at {w : World} {bf : Nat} {row : Option Nat} {f f' : Hw.HFile} {A : Option Addr} {c : Nat} (h : FileAt w bf row f) (hf : f = f') (hc : w.cell? ⟨bf, 0, none⟩ = some (.slice A f'.bytes.length c)) :
    w.ownsRow 0 5 1 (.slice A f'.bytes.length c) f'.bytes.length (u8s f'.bytes) := by
  subst hf
  obtain ⟨A', c', g1, _, g3, _⟩ := h.slice
  have e : A' = A ∧ c' = c := by simp [World.cell?, g1] at hc; exact hc
  obtain ⟨rfl, rfl⟩ := e
  exact g3
theorem cut_file {w : World} {bf : Nat} {row : Option Nat} {f : Hw.HFile} {A : Option Addr} {c m : Nat} (h : FileAt w bf row f) (hc : w.cell? ⟨bf, 0, none⟩ = some (.slice A f.bytes.length c)) (hm : m ≤ f.bytes.length) :
    FileAt ((w.setCell ⟨bf, 0, none⟩ (.slice A m c)).setCell ⟨bf, 1, none⟩ (.int .i64 (m : Int))) bf row ⟨f.bytes.take m, m⟩ := by
  obtain ⟨A', c', g1, g2, g3, _, _⟩ := h.slice
  have e : A' = A ∧ c' = c := by simp [World.cell?, g1] at hc; exact hc
  obtain ⟨rfl, rfl⟩ := e
  refine ⟨.slice A' m c', by rw [blk_set (blk_set g1 0 _)]; rfl, ?_, ?_⟩
  · rw [← g2]; cases A' <;> rfl
  · have h1 := own_take g3 hm
    rw [← u8s_take] at h1
    have hu : Upd (fun b => b = bf) w ((w.setCell ⟨bf, 0, none⟩ (.slice A' m c')).setCell ⟨bf, 1, none⟩ (.int .i64 (m : Int))) :=
      ((Upd.refl (fun b => b = bf) w).setCell (p := ⟨bf, 0, none⟩) (.inl rfl) _).setCell (p := ⟨bf, 1, none⟩) (.inl rfl) _
    have := own_upd h1 hu (fun k hk e => h.row_cells (by rw [← g2]; cases A' <;> exact hk) g1 (by decide) e.symm)
    show World.ownsRow _ 0 _ 1 _ (f.bytes.take m).length _
    rw [show (f.bytes.take m).length = m by simp; omega]; exact this
theorem cut_end {w w1 : World} {p : Nat} {d : Hw.HDisk} {F : Nat → Prop} {bm clock : Nat} {Fs : List FE} {n : Int} {m : Nat} {f : Hw.HFile} {x : FE} {A : Option Addr} {c : Nat} (h : DiskAt w p d F bm clock Fs) (h1 : DiskAt w1 p d.works F bm clock Fs) (hu : Upd (fun b => b = p) w w1)
    (hx : x ∈ Fs) (hxn : x.name = n) (hxf : x.file = f) (hf : d.find n = some f) (hc : w1.cell? ⟨x.bf, 0, none⟩ = some (.slice A f.bytes.length c)) (hm : m ≤ f.bytes.length) :
    DiskRet p (0, d.works.put n ⟨f.bytes.take m, m⟩) F w (.returned .nilIface) ((w1.setCell ⟨x.bf, 0, none⟩ (.slice A m c)).setCell ⟨x.bf, 1, none⟩ (.int .i64 (m : Int))) := by
  have hus : Upd (fun b => b = x.bf ∨ x.row = some b) w1 ((w1.setCell ⟨x.bf, 0, none⟩ (.slice A m c)).setCell ⟨x.bf, 1, none⟩ (.int .i64 (m : Int))) :=
    ((Upd.refl (fun b => b = x.bf ∨ x.row = some b) w1).setCell (p := ⟨x.bf, 0, none⟩) (.inl (.inl rfl)) _).setCell (p := ⟨x.bf, 1, none⟩) (.inl (.inl rfl)) _
  have hfile := h1.each x hx
  rw [hxf] at hfile
  have hwf : Hw.HDisk.WF (d.works.put n ⟨f.bytes.take m, m⟩) := by
    refine h1.wf.put _ _ (by simp; omega) ?_
    have := Hw.HDisk.len_some (d := d.works) (n := n) hf
    have := h1.wf.room
    show d.works.used + (f.bytes.take m).length ≤ _
    rw [List.length_take]; omega
  obtain ⟨F', h2, h3⟩ := h1.put hx hxn hus (cut_file hfile hc hm) (.inl rfl) hwf
  refine DiskRet.of (0 : Int) h2 (fun b hb => ?_) ((h.fpU hu).trans hus (fun b _ hb => ?_))
  · rcases h3 b hb with h | h'
    · exact .inl h
    · have := hu.size; exact .inr (by omega)
  · exact (h.fp b).2 (.inr (.inr ⟨x, hx, hb⟩))
set_option maxRecDepth 100000 in
set_option maxHeartbeats 800000 in
theorem disk_Cut (p : Nat) (d : Hw.HDisk) (F : Nat → Prop) (n m : Int) (w : World) (h : IsDisk w p d F) :
    Calls Tryd.prog 42 #[.pointer (some ⟨p, 0, none⟩), .int .i64 n, .int .i64 m] w (DiskRet p (d.cut n m) F w) := by
  obtain ⟨bm, clock, Fs, h⟩ := h
  have c0 : w.cell? ⟨p, 0, none⟩ = some (.map (some bm)) := h.cell0
  have c3 : w.cell? ⟨p, 3, none⟩ = some (.bool d.stopped) := h.cell3
  have H := Lib.hid h
  unfold Hw.HDisk.cut
  by_cases hst : d.stopped = true
  · rw [if_pos hst]
    rw [hst] at c3
    clear h hst
    go_enter Tryd.func42, Tryd.ntmps42
    go_wp2_with (at_lookup; refine wpLookup rfl _ _ rfl dmap dint dptr H.out.mp rfl rfl ?_)
    all_goals
      go_ret
      exact DiskRet.same ⟨bm, clock, Fs, H.out⟩ 12 (Below.refl _ _)
  · rw [if_neg hst]
    have hst' : d.stopped = false := by simpa using hst
    rw [hst'] at c3
    clear hst
    cases hf : d.find n with
    | none =>
      have hl := h.find_none hf
      clear h hf hst'
      go_enter Tryd.func42, Tryd.ntmps42
      go_wp2_with (at_lookup; refine wpLookup rfl _ _ rfl dmap dint dptr H.out.mp rfl rfl ?_)
      go_ret
      exact DiskRet.same ⟨bm, clock, Fs, H.out⟩ 2 (Below.refl _ _)
    | some f =>
      obtain ⟨x, hx, hxn, hxf, hl⟩ := h.find_some hf
      have HX := Lib.hid (And.intro hx (And.intro hxn (And.intro hxf hf)))
      obtain ⟨A, c, k0, k1, k2, k3⟩ := (h.each x hx).cells
      rw [hxf] at k0 k2
      simp only
      clear h hf hst' hx hxn hxf k1
      unfold maxLen at k3
      by_cases hbad : m < 0 ∨ (f.bytes.length : Int) < m
      · rw [if_pos hbad]
        go_enter Tryd.func42, Tryd.ntmps42
        go_wp2_with (at_lookup; refine wpLookup rfl _ _ rfl dmap dint dptr H.out.mp rfl rfl ?_)
        all_goals
          go_ret
          exact DiskRet.same ⟨bm, clock, Fs, H.out⟩ 13 (Below.refl _ _)
      · rw [if_neg hbad]
        obtain ⟨k, rfl⟩ := Int.eq_ofNat_of_zero_le (show 0 ≤ m by omega)
        have hk : k ≤ f.bytes.length := by omega
        clear hbad
        rw [Int.toNat_natCast]
        by_cases hws : d.works.stopped = true
        · rw [if_pos hws]
          go_enter Tryd.func42, Tryd.ntmps42
          go_wp2_with (first
            | (at_lookup; refine wpLookup rfl _ _ rfl dmap dint dptr H.out.mp rfl rfl ?_)
            | (go_at_call 32; refine (disk_works p d F bm clock Fs _ H.out).mono ?_; rintro e w1 ⟨rfl, hd, hu⟩; have HD := Lib.hid (And.intro hd hu); clear hd hu))
          go_ret
          exact DiskRet.of 12 HD.out.1 (fun _ h => .inl h) (H.out.fpU HD.out.2)
        · rw [if_neg hws]
          have hws' : d.works.stopped = false := by simpa using hws
          clear hws
          go_enter Tryd.func42, Tryd.ntmps42
          go_wp2_with (first
            | (at_lookup; refine wpLookup rfl _ _ rfl dmap dint dptr H.out.mp rfl rfl ?_)
            | (go_at_call 32; refine (disk_works p d F bm clock Fs _ H.out).mono ?_; rintro e w1 ⟨rfl, hd, hu⟩; have k10 : w1.cell? ⟨x.bf, 0, none⟩ = some (.slice A f.bytes.length c) := works_cell H.out hu HX.out.1 k0; obtain ⟨A', c', _, k11, _, _⟩ := (hd.each x HX.out.1).cells; have k4 : w1.frozen? ⟨x.bf, 0, none⟩ = false := (hd.each x HX.out.1).unfrozen 0; have k5 : w1.frozen? ⟨x.bf, 1, none⟩ = false := (hd.each x HX.out.1).unfrozen 1; have HD := Lib.hid (And.intro hd hu); clear hd hu))
          go_ret
          exact cut_end H.out HD.out.1 HD.out.2 HX.out.1 HX.out.2.1 HX.out.2.2.1 HX.out.2.2.2 k10 hk
end Go.Proofs.YtihncdlbbhmglaaDoor
