/- Walks: crc. -/
import Derived.Test.YtihncdlbbhmglaaDoorLa
namespace Go.Proofs.YtihncdlbbhmglaaDoor
open Go.RowKit

theorem crc_next {n z y : Nat} (hn : n < 8) (hi : Hw.crcIter (8 - n) z = Hw.crcIter 8 y) : Hw.crcIter (8 - (n + 1)) (Hw.crcRound z) = Hw.crcIter 8 y := by
  rw [show 8 - n = (8 - (n + 1)) + 1 by omega] at hi; exact hi
theorem crc_odd {z : Nat} (hz : z < 4294967296) (h : ((z : Int) % 2 == 1) = true) : bits .xor .u32 ((z : Int) / 2) 3988292384 = ((Hw.crcRound z : Nat) : Int) := by
  have h' : z % 2 = 1 := by simp at h; omega
  rw [Hw.crcRound, if_pos h']
  exact u32_xor_nat (z / 2) 3988292384 (by omega) (by omega)
theorem crc_even {z : Nat} (h : ((z : Int) % 2 == 1) = false) : (z : Int) / 2 = ((Hw.crcRound z : Nat) : Int) := by
  have h' : ¬ z % 2 = 1 := by simp at h; omega
  rw [Hw.crcRound, if_neg h']; rfl
set_option maxHeartbeats 400000 in
theorem crc_step (r c : Nat) (w : World) (hr : r < 4294967296) (hc : c < 256) :
    Calls Tryd.prog 51 #[.int .u32 r, .int .u8 c] w fun e w' => e = .returned (.int .u32 (Hw.crcStep r c : Nat)) ∧ w = w' := by
  have hx : bits .xor .u32 (r : Int) (c : Int) = ((r ^^^ c : Nat) : Int) := u32_xor_nat r c hr (by omega)
  have hxl : r ^^^ c < 4294967296 := Nat.xor_lt_two_pow (n := 32) (by omega) (by omega)
  unfold Hw.crcStep
  generalize hy : r ^^^ c = y at *
  go_enter Tryd.func51, Tryd.ntmps51
  go_wp2
  go_loop [0, 10] (fun r k => ∃ (n z : Nat) , n ≤ 8 ∧ k = .int .i64 n ∧ r = .int .u32 z ∧ z < 4294967296 ∧ Hw.crcIter (8 - n) z = Hw.crcIter 8 y) (fun _ k => (8 - intOf k).toNat)
  case atStart => exact ⟨0, y, by omega, rfl, rfl, hxl, rfl⟩
  case round =>
    obtain ⟨n, z, hn, rfl, rfl, hz, hi⟩ := hrel
    have HI := Lib.hid hi; clear hi hx
    have ha : bits .and .u32 (z : Int) 1 = ((z % 2 : Nat) : Int) := by
      have := u32_and_nat z 1 hz (by omega); rw [Nat.and_one_is_mod] at this; exact this
    go_wp2
    · go_round
      case rel => exact ⟨n + 1, Hw.crcRound z, by omega, by go_num, by rw [crc_odd hz ‹_›], Hw.crcRound_lt hz, crc_next (by omega) HI.out⟩
      case measure => simp [intOf]; omega
    · go_round
      case rel => exact ⟨n + 1, Hw.crcRound z, by omega, by go_num, by rw [crc_even ‹_›], Hw.crcRound_lt hz, crc_next (by omega) HI.out⟩
      case measure => simp [intOf]; omega
    · go_ret
      have hn : n = 8 := by omega
      subst hn
      exact ⟨by rw [← HI.out]; rfl, rfl⟩

theorem crc_snoc (bs : Hw.Bytes) (k : Nat) (x : UInt8) (h : bs[k]? = some x) (r : Nat) : Hw.crcFrom r (bs.take (k + 1)) = Hw.crcStep (Hw.crcFrom r (bs.take k)) x.toNat := by
  rw [List.take_add_one, h]; simp [Hw.crcFrom]
theorem not32 (z : Nat) (hz : z < 4294967296) : bits .xor .u32 IntKind.u32.max (z : Int) = ((4294967295 - z : Nat) : Int) := by
  have h1 := u32_xor_nat 4294967295 z (by omega) hz
  have h2 : 4294967295 ^^^ z = 4294967295 - z := by
    have := congrArg BitVec.toNat (BitVec.allOnes_xor (x := BitVec.ofNat 32 z))
    rw [BitVec.toNat_xor, BitVec.toNat_not, BitVec.toNat_ofNat, Nat.mod_eq_of_lt (by omega)] at this
    simpa using this
  rw [h2] at h1; exact h1
set_option maxHeartbeats 400000 in
theorem crc_Sum (M : Nat → Prop) (v : Value) (bs : Hw.Bytes) (w : World) (h : RdB M w v bs) :
    Calls Tryd.prog 38 #[v] w fun e w' => e = .returned (.int .u32 (Hw.crcSum bs : Nat)) ∧ w = w' := by
  obtain ⟨A, c, rfl, h1, h2⟩ := h.len
  unfold maxLen at h2
  go_enter Tryd.func38, Tryd.ntmps38
  go_wp2
  go_loop [3, 8] (fun r k => ∃ (n : Nat) , n ≤ bs.length ∧ k = .int .i64 n ∧ r = .int .u32 (Hw.crcFrom 4294967295 (bs.take n) : Nat)) (fun _ k => (bs.length - intOf k).toNat)
  case atStart => exact ⟨0, by omega, rfl, rfl⟩
  case round =>
    obtain ⟨n, hn, rfl, rfl⟩ := hrel
    have hz : Hw.crcFrom 4294967295 (bs.take n) < 4294967296 := Hw.crcFrom_lt _ (by omega)
    by_cases hlt : n < bs.length
    · obtain ⟨x, hx⟩ : ∃ x, bs[n]? = some x := ⟨bs[n], List.getElem?_eq_getElem hlt⟩
      have hs := Lib.hid (crc_snoc bs n x hx 4294967295)
      obtain ⟨b, o, c', hv, _, _, _, _, g4⟩ := h.at (by omega)
      cases hv
      have hc := g4 n x hx
      clear g4 hx h
      have hxt := x.toNat_lt
      generalize Hw.crcFrom 4294967295 (bs.take n) = z at *
      go_wp2_with (go_at_call 51; refine (crc_step _ _ _ hz hxt).mono ?_; rintro e w' ⟨rfl, rfl⟩)
      go_round
      case rel => exact ⟨n + 1, by omega, by go_num, by rw [hs.out]⟩
      case measure => simp [intOf]; omega
    · have hn : n = bs.length := by omega
      subst hn
      clear h
      rw [List.take_length] at hz
      have hw := not32 _ hz
      go_wp2
      go_ret
      exact ⟨rfl, rfl⟩
end Go.Proofs.YtihncdlbbhmglaaDoor
