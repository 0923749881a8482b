/- api.Number: what an error's number is. The door's seat alone. -/
import Derived.Test.YtihncdlbbhmglaaDoorNa
namespace Go.Proofs.YtihncdlbbhmglaaDoor
open Go.RowKit

def NumRet (n : Int) (w : World) (e : Ending) (w' : World) : Prop := e = .returned (.int .i64 n) ∧ Upd (fun _ => False) w w'
set_option maxHeartbeats 1000000 in
theorem number_nil (w : World) : Calls Tryd.prog 11 #[.nilIface] w (NumRet 0 w) := by
  go_enter Tryd.func11, Tryd.ntmps11
  go_wp2_with (go_at_call 33; refine (as_nil _ _).mono ?_; rintro e w1 ⟨rfl, rfl⟩)
  go_ret
  exact ⟨rfl, (Upd.refl _ _).alloc _⟩
set_option maxHeartbeats 4000000 in
theorem number_hit (n : Int) (w : World) (hg : ErrT w) : Calls Tryd.prog 11 #[.iface 29 (.int .i64 n)] w (NumRet n w) := by
  have hlt : 0 < w.heap.size := by
    unfold ErrT at hg
    rcases Nat.eq_zero_or_pos w.heap.size with h0 | h
    · simp [World.cell?, h0] at hg
    · exact h
  have hg1 : ErrT (w.alloc (.cells #[.int .i64 0] 29)) := (World.cell?_alloc_lt _ _ ⟨0, 0, none⟩ hlt).trans hg
  have HG := Lib.hid hg1
  clear hg hg1
  go_enter Tryd.func11, Tryd.ntmps11
  go_wp2_with (go_at_call 33; refine (as_hit n ⟨w.heap.size, 0, none⟩ (.int .i64 0) _ HG.out (by simp) (by simp)).mono ?_; rintro e w1 ⟨rfl, rfl⟩)
  go_ret
  exact ⟨rfl, (((((Upd.refl _ _).alloc _).alloc _).alloc _).alloc _).alloc _⟩
theorem api_Number (n : Int) (w : World) (hg : ErrT w) : Calls Tryd.prog 11 #[errV n] w (NumRet n w) := by
  unfold errV
  split
  · next h => subst h; exact number_nil w
  · exact number_hit n w hg
end Go.Proofs.YtihncdlbbhmglaaDoor
