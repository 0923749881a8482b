/- Walks: frame.One, its end. -/
import Derived.Test.YtihncdlbbhmglaaDoorWe
namespace Go.Proofs.YtihncdlbbhmglaaDoor
open Go.RowKit
theorem or_u32 {a b : Nat} (k : Nat) (ha : a % 2 ^ k = 0) (hb : b < 2 ^ k) (hs : a + b < 4294967296) : bits .or .u32 (a : Int) (b : Int) = ((a + b : Nat) : Int) := by
  have h : a + b = a ||| b := by
    have := Nat.two_pow_add_eq_or_of_lt (i := k) hb (a / 2 ^ k)
    rw [Nat.mul_div_cancel' (Nat.dvd_of_mod_eq_zero ha)] at this; exact this
  rw [h]; exact u32_or_nat a b (by omega) (by omega)
theorem or_1 {x y : Nat} (hx : x < 256) (hy : y < 256) : bits .or .u32 ((x : Int) * 16777216) ((y : Int) * 65536) = (x : Int) * 16777216 + (y : Int) * 65536 := by
  have := or_u32 (a := x * 16777216) (b := y * 65536) 24 (by omega) (by omega) (by omega)
  simpa using this
theorem or_2 {x y z : Nat} (hx : x < 256) (hy : y < 256) (hz : z < 256) : bits .or .u32 ((x : Int) * 16777216 + (y : Int) * 65536) ((z : Int) * 256) = (x : Int) * 16777216 + (y : Int) * 65536 + (z : Int) * 256 := by
  have := or_u32 (a := x * 16777216 + y * 65536) (b := z * 256) 16 (by omega) (by omega) (by omega)
  simpa using this
theorem or_3 {x y z u : Nat} (hx : x < 256) (hy : y < 256) (hz : z < 256) (hu : u < 256) : bits .or .u32 ((x : Int) * 16777216 + (y : Int) * 65536 + (z : Int) * 256) (u : Int) = ((x * 16777216 + y * 65536 + z * 256 + u : Nat) : Int) := by
  have := or_u32 (a := x * 16777216 + y * 65536 + z * 256) (b := u) 8 (by omega) (by omega) (by omega)
  simpa using this
set_option maxRecDepth 100000 in
set_option maxHeartbeats 1000000 in
theorem frame_One_tail (M : Nat → Prop) (b o o' len c c' x0 x1 x2 x3 x4 x5 N S : Nat) (body : Hw.Bytes) (w : World) (hc0 : w.cell? ⟨b, o, none⟩ = some (.int .u8 x0)) (hc1 : w.cell? ⟨b, o + 1, none⟩ = some (.int .u8 x1))
    (hc2 : w.cell? ⟨b, o + 2, none⟩ = some (.int .u8 x2)) (hc3 : w.cell? ⟨b, o + 3, none⟩ = some (.int .u8 x3)) (hc4 : w.cell? ⟨b, o + 4, none⟩ = some (.int .u8 x4)) (hc5 : w.cell? ⟨b, o + 5, none⟩ = some (.int .u8 x5))
    (l0 : x0 < 256) (l1 : x1 < 256) (l2 : x2 < 256) (l3 : x3 < 256) (l4 : x4 < 256) (l5 : x5 < 256) (hN : x0 * 256 + x1 = N) (hS : x2 * 16777216 + x3 * 65536 + x4 * 256 + x5 = S)
    (hN1 : N ≤ 16384) (hN2 : 6 + N ≤ len) (hlc : len ≤ c) (hc : c ≤ 9223372036854775807) (hbl : body.length = N) (hcc : (c = 6 ∧ o' = o ∧ c' = 0) ∨ (c ≠ 6 ∧ o' = o + 6 ∧ c' = c - 6)) (hb : RdB M w (.slice (some ⟨b, o', none⟩) N c') body) :
    Calls Tryd.prog 17 #[.slice (some ⟨b, o, none⟩) len c] w (OneRet (if Hw.crcSum body = S then some (body, 6 + N) else none) w) := by
  obtain ⟨i0, hi, hz0, hz1, hz2⟩ := info_parts u8row
  have e16 := or_i64 l0 l1
  rw [hN] at e16
  have o1 := or_1 l2 l3
  have o2 := or_2 l2 l3 l4
  have o3 := or_3 l2 l3 l4 l5
  rw [hS] at o3
  clear hN hS
  have h6 : ¬ len < 6 := by omega
  have H := Lib.hid hb; clear hb
  subst hbl
  rcases hcc with ⟨rfl, rfl, rfl⟩ | ⟨hc6, rfl, rfl⟩
  all_goals
    by_cases heq : Hw.crcSum body = S
    · rw [if_pos heq]
      have hne : ((Hw.crcSum body : Int) != (S : Int)) = false := by simp; omega
      clear heq
      go_enter Tryd.func17, Tryd.ntmps17
      go_wp2_with fail
      go_quiet (fail)
      go_wp2_with fail
      go_quiet (fail)
      go_wp2_with (first
        | (go_at_call 38; refine (crc_Sum M _ body _ (RdC.below H.out (bel_drewN (Below.refl _ _) _))).mono ?_; rintro e w' ⟨rfl, rfl⟩)
        | (at_builtin; refine wpAppend _ rfl _ _ 22 rfl w.heap.size 5 i0 (.int .u8 0) 1 1 u8slice hi hz0 hz1 hz2 rfl (by decide) _ 0 _ rfl (World.ownsRow_nil _ _ _ _) M _ body.length (u8s body) rfl (RdC.below H.out (bel_drewN (Below.refl _ _) _)) ?_ ?_ ?_ ?_ ?_))
      · exact u8s_one body
      · unfold maxLen; omega
      · omega
      · exact Nat.le_refl _
      · intro v1 w1 q1 g1 a1
        have HO := Lib.hid q1
        have HB := Lib.hid (Below.trans (bel_drewN (Below.refl w.heap.size w) _) ((Below.refl _ _).grown g1 (B := w.heap.size) (Nat.le_refl _) (by intro k hk; cases hk)))
        clear q1 g1 a1
        go_wp2_with fail
        go_ret3
        exact ⟨HB.out, _, rfl, by have := HO.out; simpa using this⟩
    · rw [if_neg heq]
      have hne : ((Hw.crcSum body : Int) != (S : Int)) = true := by simp; omega
      clear heq
      go_enter Tryd.func17, Tryd.ntmps17
      go_wp2_with fail
      go_quiet (fail)
      go_wp2_with fail
      go_quiet (fail)
      go_wp2_with (go_at_call 38; refine (crc_Sum M _ body _ (RdC.below H.out (bel_drewN (Below.refl _ _) _))).mono ?_; rintro e w' ⟨rfl, rfl⟩)
      go_ret3
      exact ⟨bel_drewN (Below.refl _ _) _, rfl⟩
end Go.Proofs.YtihncdlbbhmglaaDoor
