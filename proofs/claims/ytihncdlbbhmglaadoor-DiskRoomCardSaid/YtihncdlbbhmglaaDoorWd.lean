/- Walks: frame.Make. -/
import Derived.Test.YtihncdlbbhmglaaDoorWc
namespace Go.Proofs.YtihncdlbbhmglaaDoor
open Go.RowKit
/-- It returns a new slice of these cells, and true. -/
def FreshTrue (e size n : Nat) (xs : List Value) (w : World) (en : Ending) (w' : World) : Prop :=
  ∃ v', en = .returned (.tuple #[v', .bool true]) ∧ w'.ownsRow w.heap.size e size v' n xs ∧ Below w.heap.size w w'
theorem frame_cells (bs : Hw.Bytes) (h : bs.length ≤ 16384) :
    Value.int .u8 ((bs.length : Int) / 256) :: .int .u8 ((bs.length : Int) % 256) :: .int .u8 ((Hw.crcSum bs : Int) / 16777216) :: .int .u8 ((Hw.crcSum bs : Int) / 65536 % 256) :: .int .u8 ((Hw.crcSum bs : Int) / 256 % 256) ::
      .int .u8 ((Hw.crcSum bs : Int) % 256) :: u8s bs = u8s (Hw.frameOf bs) := by
  have := Hw.crcSum_lt bs
  simp only [Hw.frameOf, Hw.be16, Hw.be32, u8s, List.map_append, List.map_cons, List.map_nil, List.cons_append, List.nil_append, List.cons.injEq, Value.int.injEq, true_and, and_true]
  simp only [UInt8.toNat_ofNat']
  refine ⟨?_, ?_, ?_, ?_, ?_, ?_⟩ <;> omega
set_option maxRecDepth 100000 in
set_option maxHeartbeats 400000 in
theorem frame_Make (M : Nat → Prop) (v : Value) (bs : Hw.Bytes) (w : World) (h : RdB M w v bs) (hs : bs.length ≤ 16384) :
    Calls Tryd.prog 15 #[v] w (FreshTrue 5 1 (6 + bs.length) (u8s (Hw.frameOf bs)) w) := by
  obtain ⟨i0, hi, hz0, hz1, hz2⟩ := info_parts u8row
  obtain ⟨A, c, rfl, h1, h2⟩ := h.len
  have hcl := Hw.crcSum_lt bs
  have H := Lib.hid h
  clear h2 h
  go_enter Tryd.func15, Tryd.ntmps15
  go_wp2_with (first
   | (go_at_call 38; refine (crc_Sum M _ bs _ H.out).mono ?_; rintro e w' ⟨rfl, rfl⟩)
   | (at_builtin; refine wpAppend _ rfl _ _ 22 rfl w.heap.size 5 i0 (.int .u8 0) 1 1 u8slice hi hz0 hz1 hz2 rfl (by decide) _ 6 _ rfl (own_made _ _ 1 6 _ _ rfl (by decide) (Nat.le_refl _)) M _ bs.length (u8s bs) rfl (RdC.below H.out (below_new _ _)) ?_ ?_ ?_ ?_ ?_))
  · exact u8s_one bs
  · unfold maxLen; omega
  · omega
  · simp
  · intro v1 w1 o1 g1 a1
    have HO := Lib.hid o1
    have HB := Lib.hid (Below.trans (below_new w _) ((Below.refl _ _).grown g1 (B := w.heap.size) (by simp) (by intro k hk; cases hk; exact Nat.le_refl _)))
    clear o1 g1 a1
    go_wp2
    go_ret2
    exact ⟨_, rfl, by rw [← frame_cells bs hs]; exact HO.out, HB.out⟩
theorem frame_Make_long (M : Nat → Prop) (v : Value) (bs : Hw.Bytes) (w : World) (h : RdB M w v bs) (hs : 16384 < bs.length) :
    Calls Tryd.prog 15 #[v] w fun e w' => e = .returned (.tuple #[.slice none 0 0, .bool false]) ∧ w = w' := by
  obtain ⟨A, c, rfl, h1, h2⟩ := h.len
  clear h2 h
  go_enter Tryd.func15, Tryd.ntmps15
  go_wp2
  go_ret2
  exact ⟨rfl, rfl⟩
end Go.Proofs.YtihncdlbbhmglaaDoor
