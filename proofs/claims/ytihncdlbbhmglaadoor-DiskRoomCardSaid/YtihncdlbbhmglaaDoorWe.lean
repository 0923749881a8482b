/- Walks: frame.One. -/
import Derived.Test.YtihncdlbbhmglaaDoorWd
namespace Go.Proofs.YtihncdlbbhmglaaDoor
open Go.RowKit
def OneRet (r : Option (Hw.Bytes × Nat)) (w : World) (e : Ending) (w' : World) : Prop :=
  Below w.heap.size w w' ∧ match r with
    | none => e = .returned (.tuple #[.slice none 0 0, .int .i64 0, .bool false])
    | some (x, n) => ∃ v', e = .returned (.tuple #[v', .int .i64 n, .bool true]) ∧ w'.ownsRow w.heap.size 5 1 v' x.length (u8s x)
theorem or_i64 {x y : Nat} (hx : x < 256) (hy : y < 256) : bits .or .i64 ((x : Int) * 256) (y : Int) = ((x * 256 + y : Nat) : Int) := by
  have h : x * 256 + y = x * 256 ||| y := by
    have := Nat.two_pow_add_eq_or_of_lt (i := 8) (b := y) (by omega) x
    rw [Nat.mul_comm] at this; exact this
  show IntKind.i64.wrap ((BitVec.ofInt 64 ((x : Int) * 256) ||| BitVec.ofInt 64 (y : Int)).toNat : Int) = _
  have e1 : BitVec.ofInt 64 ((x : Int) * 256) = BitVec.ofNat 64 (x * 256) := by rw [← BitVec.ofInt_natCast]; congr 1
  have e2 : BitVec.ofInt 64 (y : Int) = BitVec.ofNat 64 y := by rw [← BitVec.ofInt_natCast]
  rw [e1, e2, BitVec.toNat_or, BitVec.toNat_ofNat, BitVec.toNat_ofNat, Nat.mod_eq_of_lt (by omega), Nat.mod_eq_of_lt (by omega), ← h]
  simp [IntKind.wrap, IntKind.bits, IntKind.signed]; omega
set_option maxRecDepth 100000 in
set_option maxHeartbeats 400000 in
theorem frame_One_short (M : Nat → Prop) (v : Value) (bs : Hw.Bytes) (w : World) (h : RdB M w v bs) (h6 : bs.length < 6) :
    Calls Tryd.prog 17 #[v] w fun e w' => w = w' ∧ e = .returned (.tuple #[.slice none 0 0, .int .i64 0, .bool false]) := by
  obtain ⟨A, c, rfl, h1, h2⟩ := h.len
  clear h2 h
  go_enter Tryd.func17, Tryd.ntmps17
  go_wp2
  go_ret3
  exact ⟨rfl, rfl⟩
set_option maxRecDepth 100000 in
set_option maxHeartbeats 400000 in
theorem frame_One_long (b o len c x0 x1 : Nat) (w : World) (hc0 : w.cell? ⟨b, o, none⟩ = some (.int .u8 x0)) (hc1 : w.cell? ⟨b, o + 1, none⟩ = some (.int .u8 x1)) (l0 : x0 < 256) (l1 : x1 < 256)
    (h6 : ¬ len < 6) (hl : len ≤ 9223372036854775807) (hn : 16384 < x0 * 256 + x1 ∨ len < 6 + (x0 * 256 + x1)) :
    Calls Tryd.prog 17 #[.slice (some ⟨b, o, none⟩) len c] w fun e w' => Below w.heap.size w w' ∧ e = .returned (.tuple #[.slice none 0 0, .int .i64 0, .bool false]) := by
  have e16 := or_i64 l0 l1
  generalize hN : x0 * 256 + x1 = N at *
  have hN2 : N < 65536 := by omega
  clear hN
  by_cases hN3 : 16384 < N
  all_goals
    go_enter Tryd.func17, Tryd.ntmps17
    go_wp2_with fail
    go_quiet (fail)
    go_wp2_with fail
    go_ret3
    exact ⟨bel_drewN (Below.refl _ _) _, rfl⟩
end Go.Proofs.YtihncdlbbhmglaaDoor
