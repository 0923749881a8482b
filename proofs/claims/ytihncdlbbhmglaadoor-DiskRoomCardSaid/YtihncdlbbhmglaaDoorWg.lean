/- Walks: frame.One whole. -/
import Derived.Test.YtihncdlbbhmglaaDoorWf
namespace Go.Proofs.YtihncdlbbhmglaaDoor
open Go.RowKit
theorem get_toNat (bs : Hw.Bytes) (i : Nat) (h : i < bs.length) : bs[i]? = some bs[i] := List.getElem?_eq_getElem h
theorem getD_toNat (bs : Hw.Bytes) (i : Nat) (h : i < bs.length) : bs.getD i 0 = bs[i] := by simp [h]
theorem frame_One (M : Nat → Prop) (v : Value) (bs : Hw.Bytes) (w : World) (h : RdB M w v bs) :
    Calls Tryd.prog 17 #[v] w (OneRet (Hw.frameOne bs) w) := by
  by_cases h6 : bs.length < 6
  · have hr : Hw.frameOne bs = none := by unfold Hw.frameOne; rw [if_pos h6]
    rw [hr]
    exact (frame_One_short M v bs w h h6).mono fun e w' ⟨h1, h2⟩ => ⟨by subst h1; exact Below.refl _ _, h2⟩
  · obtain ⟨b, o, c, rfl, h1, h2, hM, hb, hc⟩ := h.at (by omega)
    have hc0 := hc 0 _ (get_toNat bs 0 (by omega))
    have hc1 := hc 1 _ (get_toNat bs 1 (by omega))
    have hc2 := hc 2 _ (get_toNat bs 2 (by omega))
    have hc3 := hc 3 _ (get_toNat bs 3 (by omega))
    have hc4 := hc 4 _ (get_toNat bs 4 (by omega))
    have hc5 := hc 5 _ (get_toNat bs 5 (by omega))
    rw [Nat.add_zero] at hc0
    have e16 : Hw.nat16 bs = bs[0].toNat * 256 + bs[1].toNat := by unfold Hw.nat16; rw [getD_toNat bs 0 (by omega), getD_toNat bs 1 (by omega)]
    have e32 : Hw.nat32 bs = bs[2].toNat * 16777216 + bs[3].toNat * 65536 + bs[4].toNat * 256 + bs[5].toNat := by
      unfold Hw.nat32; rw [getD_toNat bs 2 (by omega), getD_toNat bs 3 (by omega), getD_toNat bs 4 (by omega), getD_toNat bs 5 (by omega)]
    unfold maxLen at h2
    by_cases hN : 16384 < Hw.nat16 bs ∨ bs.length < 6 + Hw.nat16 bs
    · have hr : Hw.frameOne bs = none := by unfold Hw.frameOne; rw [if_neg h6, if_pos hN]
      rw [hr]
      exact frame_One_long b o bs.length c _ _ w hc0 hc1 (UInt8.toNat_lt _) (UInt8.toNat_lt _) h6 (by omega) (by rw [← e16]; exact hN)
    · have hN' : Hw.nat16 bs ≤ 16384 ∧ 6 + Hw.nat16 bs ≤ bs.length := by omega
      have hr : Hw.frameOne bs = if Hw.crcSum ((bs.drop 6).take (Hw.nat16 bs)) = Hw.nat32 bs then some ((bs.drop 6).take (Hw.nat16 bs), 6 + Hw.nat16 bs) else none := by
        unfold Hw.frameOne; rw [if_neg h6, if_neg hN]
        by_cases he : Hw.crcSum ((bs.drop 6).take (Hw.nat16 bs)) = Hw.nat32 bs
        · rw [if_neg (by simpa using he), if_pos he]
        · rw [if_pos he, if_neg he]
      rw [hr]
      have hsub := RdB.sub h 6 (6 + Hw.nat16 bs) (by omega) hN'.2
      rw [show 6 + Hw.nat16 bs - 6 = Hw.nat16 bs by omega] at hsub
      have hl : ((bs.drop 6).take (Hw.nat16 bs)).length = Hw.nat16 bs := by simp; omega
      by_cases hc6 : c = 6
      · rw [if_pos hc6] at hsub
        exact frame_One_tail M b o o bs.length c 0 _ _ _ _ _ _ _ _ _ w hc0 hc1 hc2 hc3 hc4 hc5 (UInt8.toNat_lt _) (UInt8.toNat_lt _) (UInt8.toNat_lt _) (UInt8.toNat_lt _) (UInt8.toNat_lt _) (UInt8.toNat_lt _) e16.symm e32.symm hN'.1 hN'.2 h1 h2 hl (.inl ⟨hc6, rfl, rfl⟩)
          (by subst hc6; simpa using hsub)
      · rw [if_neg hc6] at hsub
        exact frame_One_tail M b o (o + 6) bs.length c (c - 6) _ _ _ _ _ _ _ _ _ w hc0 hc1 hc2 hc3 hc4 hc5 (UInt8.toNat_lt _) (UInt8.toNat_lt _) (UInt8.toNat_lt _) (UInt8.toNat_lt _) (UInt8.toNat_lt _) (UInt8.toNat_lt _) e16.symm e32.symm hN'.1 hN'.2 h1 h2 hl (.inr ⟨hc6, rfl, rfl⟩)
          (by simpa [Addr.add_lit] using hsub)
end Go.Proofs.YtihncdlbbhmglaaDoor
