/- hawalalaw05.DiskRoom: the walk. The door's seat. -/
import Derived.Test.YtihncdlbbhmglaaDoorRb
import Derived.Test.YtihncdlbbhmglaaDoorNb
namespace Go.Proofs.YtihncdlbbhmglaaDoor
open Go.RowKit

theorem room_new (n : Int) : max 0 (min n 262144) = ((Hw.HDisk.new n).room : Int) := by simp only [Hw.HDisk.new]; omega
theorem room_le (n : Int) : (Hw.HDisk.new n).room ≤ 262144 := (Hw.HDisk.WF.new n).most
theorem room_fit {n : Int} {b : Hw.Bytes} (h : b.length ≤ (Hw.HDisk.new n).room) : ∃ d1, (Hw.HDisk.new n).append 1 b = (0, d1) ∧ d1.used = b.length ∧ d1.room = (Hw.HDisk.new n).room ∧ d1.stopped = false ∧ d1.left = -1 := by
  have h0 : ¬ ((Hw.HDisk.new n).room < (Hw.HDisk.new n).used + b.length) := by simp [Hw.HDisk.new, Hw.HDisk.used] at h ⊢; omega
  refine ⟨((Hw.HDisk.new n).append 1 b).2, ?_, ?_, ?_, ?_, ?_⟩ <;> (unfold Hw.HDisk.append; rw [if_neg (by simp [Hw.HDisk.new]), if_neg h0]) <;> simp [Hw.HDisk.new, Hw.HDisk.works, Hw.HDisk.find, Hw.HDisk.used, Hw.HDisk.put, Hw.HDisk.setAt]
theorem room_not {n : Int} {b : Hw.Bytes} (h : ¬ b.length ≤ (Hw.HDisk.new n).room) : (Hw.HDisk.new n).append 1 b = (8, Hw.HDisk.new n) := by
  have h0 : (Hw.HDisk.new n).room < (Hw.HDisk.new n).used + b.length := by omega
  unfold Hw.HDisk.append; rw [if_neg (by simp [Hw.HDisk.new]), if_pos h0]
theorem room_fit2 {d : Hw.HDisk} {c : Hw.Bytes} (hs : d.stopped = false) (hl : d.left = -1) (hw : Hw.HDisk.WF d) (h : d.used + c.length ≤ d.room) : ∃ d2, d.append 2 c = (0, d2) ∧ d2.used ≤ d.room := by
  have hW := hw.append 2 c
  have h1 : d.append 2 c = (0, (d.append 2 c).2) ∧ (d.append 2 c).2.room = d.room := by
    unfold Hw.HDisk.append; rw [if_neg (by simp [hs]), if_neg (by omega)]
    simp [Hw.HDisk.works, hs, hl]
  exact ⟨_, h1.1, h1.2 ▸ hW.room⟩
theorem room_not2 {d : Hw.HDisk} {c : Hw.Bytes} (hs : d.stopped = false) (h : ¬ d.used + c.length ≤ d.room) : d.append 2 c = (8, d) := by
  unfold Hw.HDisk.append; rw [if_neg (by simp [hs]), if_pos (by omega)]
theorem errV8 : errV 8 = .iface 29 (.int .i64 8) := rfl
def NamesLen (B : Nat) (w0 : World) (p : Nat) (d : Hw.HDisk) (F : Nat → Prop) (w : World) (e : Ending) (w' : World) : Prop :=
  ∃ A c, e = .returned (.slice A d.files.length c) ∧ DD B w0 w' p d F ∧ Upd (fun _ => False) w w'
theorem names_len (d : Hw.HDisk) : d.names.length = d.files.length := by
  have := (Hw.HDisk.perm_sortInts (d.files.map (·.1))).length_eq
  simpa [Hw.HDisk.names] using this
theorem dd_NamesLen {B : Nat} {w0 w : World} {p : Nat} {d : Hw.HDisk} {F : Nat → Prop} (h : DD B w0 w p d F) (hl : d.files.length ≤ 1000000000) :
    Calls Tryd.prog 12 #[.pointer (some ⟨p, 0, none⟩)] w (NamesLen B w0 p d F w) :=
  (disk_Names p d F w h.disk hl).mono fun e w' hr => by
    obtain ⟨v, rfl, ho, hb⟩ := hr
    obtain ⟨A, c, rfl, _⟩ := (RdC.of_own (M := fun _ => False) ho (fun _ _ h => h)).len
    exact ⟨A, c, by rw [names_len], h.below hb, Upd.of_below hb⟩
theorem ErrT.of {B : Nat} {w w' : World} (h : ErrT w) (hb : Below B w w') (hB : 0 < B) : ErrT w' := (hb.cell (p := ⟨0, 0, none⟩) hB).trans h
theorem ErrT.pos {w : World} (h : ErrT w) : 0 < w.heap.size := by
  unfold ErrT at h
  rcases Nat.eq_zero_or_pos w.heap.size with h0 | h1
  · simp [World.cell?, h0] at h
  · exact h1
set_option maxRecDepth 100000 in
set_option maxHeartbeats 2000000 in
theorem diskRoom_walk (room : Int) (v1 v2 : Value) (b c : Hw.Bytes) (w : World) (hb : RdB (fun k => w.heap.size ≤ k) w v1 b) (hc : RdB (fun k => w.heap.size ≤ k) w v2 c) (bl : b.length ≤ 1000000000000000) (cl : c.length ≤ 1000000000000000) (hg : ErrT w) :
    Calls Tryd.prog 3 #[.int .i64 room, v1, v2] w (AwakeRet w) := by
  have hpos := hg.pos
  obtain ⟨A1, c1, rfl, l1, l2⟩ := hb.len
  obtain ⟨A2, c2, rfl, k1, k2⟩ := hc.len
  clear l1 l2 k1 k2
  have hm := room_new room
  have hrl := room_le room
  obtain ⟨R, hR⟩ : ∃ R, (Hw.HDisk.new room).room = R := ⟨_, rfl⟩
  rw [hR] at hm hrl
  have HB := Lib.hid hb; clear hb
  have HC := Lib.hid hc; clear hc
  have HG := Lib.hid hg; clear hg
  have HR := Lib.hid hR; clear hR
  go_enter Tryd.func3, Tryd.ntmps3
  go_wp2_with (first
    | (go_at_call 8; refine (awake05 _).mono ?_; rintro e w1 ⟨rfl, hb1⟩)
    | (go_at_call 9; refine (disk_Of room _).mono ?_; intro e w2 hr; obtain ⟨p, F, rfl, h2, hb2⟩ := DD.of hb1 hr; clear hr; have H2 := Lib.hid h2; clear h2; clear hb2; clear hb1))
  have HVB := Lib.hid ((HB.out.below H2.out.bel).mono H2.out.own)
  by_cases hfit : b.length ≤ R
  · obtain ⟨d1, e1, e2, e3, e4, e5⟩ := room_fit (n := room) (b := b) (by rw [HR.out]; exact hfit)
    rw [HR.out] at e3
    have E1 := Lib.hid e1; clear e1
    have E3 := Lib.hid e3; clear e3
    have E4 := Lib.hid e4; clear e4
    have E5 := Lib.hid e5; clear e5
    have hfi : (b.length : Int) ≤ (R : Int) := by omega
    have hwrap : IntKind.i64.wrap ((b.length : Int) + (c.length : Int)) = (b.length : Int) + (c.length : Int) := by rw [IntKind.wrap_i64]; omega
    go_wp2_with (go_at_call 10; refine (dd_Append H2.out HVB.out bl E1.out errV0).mono ?_; rintro e w3 ⟨rfl, F3, h3, hf3, u3⟩; have H3 := Lib.hid h3; clear h3; clear hf3; clear u3)
    go_wp2_with (go_at_call 13; refine (dd_Used H3.out).mono ?_; rintro e w4 ⟨rfl, h4, u4⟩; have H4 := Lib.hid h4; clear h4; clear u4)
    have HVC := Lib.hid ((HC.out.below H4.out.bel).mono H4.out.own)
    by_cases hfit2 : b.length + c.length ≤ R
    · obtain ⟨d2, g1, g2⟩ := room_fit2 (c := c) E4.out E5.out H4.out.disk.wf (by rw [E3.out, e2]; exact hfit2)
      rw [E3.out] at g2
      have hg2 : (d2.used : Int) ≤ (R : Int) := by omega
      have hfi2 : (b.length : Int) + (c.length : Int) ≤ (R : Int) := by omega
      have G1 := Lib.hid g1; clear g1
      go_wp2_with (first
        | (go_at_call 10; refine (dd_Append H4.out HVC.out cl G1.out errV0).mono ?_; rintro e w5 ⟨rfl, F5, h5, hf5, u5⟩; have H5 := Lib.hid h5; clear h5; clear hf5; clear u5)
        | (go_at_call 13; refine (dd_Used H5.out).mono ?_; rintro e w6 ⟨rfl, h6, u6⟩; have H6 := Lib.hid h6; clear h6; clear u6))
      go_ret
      exact ⟨rfl, H6.out.bel⟩
    · have hfi2 : ¬ ((b.length : Int) + (c.length : Int) ≤ (R : Int)) := by omega
      have G1 := Lib.hid (room_not2 (c := c) E4.out (by rw [E3.out, e2]; exact hfit2))
      go_wp2_with (first
        | (go_at_call 10; refine (dd_Append H4.out HVC.out cl G1.out errV8).mono ?_; rintro e w5 ⟨rfl, F5, h5, hf5, u5⟩; have H5 := Lib.hid h5; clear h5; clear hf5; clear u5)
        | (go_at_call 13; refine (dd_Used H6.out).mono ?_; rintro e w7 ⟨rfl, h7, u7⟩; have H7 := Lib.hid h7; clear h7; clear u7)
        | (go_at_call 13; refine (dd_Used H5.out).mono ?_; rintro e w6 ⟨rfl, h6, u6⟩; have H6 := Lib.hid h6; clear h6; clear u6))
      go_ret
      exact ⟨by simp [hfi2], by first | exact H7.out.bel | exact H6.out.bel⟩
  · have hfi : ¬ ((b.length : Int) ≤ (R : Int)) := by omega
    have E1 := Lib.hid (room_not (n := room) (b := b) (by rw [HR.out]; exact hfit))
    have num8 : ∀ w, ErrT w → Calls Tryd.prog 11 #[.iface 29 (.int .i64 8)] w (NumRet 8 w) := fun w h => number_hit 8 w h
    have NUM := Lib.hid num8; clear num8
    go_wp2_with (first
      | (go_at_call 10; refine (dd_Append H2.out HVB.out bl E1.out errV8).mono ?_; rintro e w3 ⟨rfl, F3, h3, hf3, u3⟩; have HG3 := Lib.hid (HG.out.of h3.bel hpos); have H3 := Lib.hid h3; clear h3; clear hf3; clear u3)
      | (go_at_call 11; refine (NUM.out _ HG3.out).mono ?_; rintro e w4 ⟨rfl, u4⟩; have H4 := Lib.hid (H3.out.new u4); clear u4)
      | (go_at_call 12; refine (dd_NamesLen H4.out (by simp [Hw.HDisk.new])).mono ?_; rintro e w5 ⟨A5, c5, rfl, h5, u5⟩; have H5 := Lib.hid h5; clear h5; clear u5))
    have hu0 : (Hw.HDisk.new room).used = 0 := rfl
    have hwrap0 : IntKind.i64.wrap (c.length : Int) = (c.length : Int) := by rw [IntKind.wrap_i64]; omega
    go_wp2_with (go_at_call 13; refine (dd_Used H5.out).mono ?_; rintro e w6 ⟨rfl, h6, u6⟩; have H6 := Lib.hid h6; clear h6; clear u6)
    have HVC := Lib.hid ((HC.out.below H6.out.bel).mono H6.out.own)
    by_cases hfit2 : c.length ≤ R
    · obtain ⟨d2, g1, g2⟩ := room_fit2 (d := Hw.HDisk.new room) (c := c) rfl rfl H6.out.disk.wf (by rw [HR.out, hu0]; omega)
      rw [HR.out] at g2
      have hg2 : (d2.used : Int) ≤ (R : Int) := by omega
      have hfi2 : (c.length : Int) ≤ (R : Int) := by omega
      have G1 := Lib.hid g1; clear g1
      go_wp2_with (first
        | (go_at_call 10; refine (dd_Append H6.out HVC.out cl G1.out errV0).mono ?_; rintro e w7 ⟨rfl, F7, h7, hf7, u7⟩; have H7 := Lib.hid h7; clear h7; clear hf7; clear u7)
        | (go_at_call 13; refine (dd_Used H7.out).mono ?_; rintro e w8 ⟨rfl, h8, u8⟩; have H8 := Lib.hid h8; clear h8; clear u8))
      go_ret
      exact ⟨by simp [hfi2], H8.out.bel⟩
    · have hfi2 : ¬ ((c.length : Int) ≤ (R : Int)) := by omega
      have hR0 : (0 : Int) ≤ (R : Int) := by omega
      have G1 := Lib.hid (room_not2 (d := Hw.HDisk.new room) (c := c) rfl (by rw [HR.out, hu0]; omega))
      go_wp2_with (first
        | (go_at_call 10; refine (dd_Append H6.out HVC.out cl G1.out errV8).mono ?_; rintro e w7 ⟨rfl, F7, h7, hf7, u7⟩; have H7 := Lib.hid h7; clear h7; clear hf7; clear u7)
        | (go_at_call 13; refine (dd_Used H8.out).mono ?_; rintro e w9 ⟨rfl, h9, u9⟩; have H9 := Lib.hid h9; clear h9; clear u9)
        | (go_at_call 13; refine (dd_Used H7.out).mono ?_; rintro e w8 ⟨rfl, h8, u8⟩; have H8 := Lib.hid h8; clear h8; clear u8))
      go_ret
      exact ⟨by simp [hfi2], by first | exact H9.out.bel | exact H8.out.bel⟩
end Go.Proofs.YtihncdlbbhmglaaDoor
