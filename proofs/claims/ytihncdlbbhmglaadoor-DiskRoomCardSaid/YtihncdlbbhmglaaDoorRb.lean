/- hawalalaw05.awake. The door's seat. -/
import Derived.Test.YtihncdlbbhmglaaDoorRa
namespace Go.Proofs.YtihncdlbbhmglaaDoor
open Go.RowKit

def aw1 : Hw.HDisk := ((Hw.HDisk.new 100).append 7 [97, 98, 99]).2
def aw2 : Hw.HDisk := (aw1.sync 7).2
def aw3 : Hw.HDisk := (aw2.append 7 [100, 101]).2
theorem aw1_eq : (Hw.HDisk.new 100).append 7 [97, 98, 99] = (0, aw1) := by decide
theorem aw2_eq : aw1.sync 7 = (0, aw2) := by decide
theorem aw3_eq : aw2.append 7 [100, 101] = (0, aw3) := by decide
theorem aw4_eq : (aw3.restart 1).read 7 = some [97, 98, 99, 100] := by decide
theorem aw_lit3 (w : World) (F : Nat → Prop) (h : ¬ F w.heap.size) : RdB F (w.alloc (.cells #[.int .u8 97, .int .u8 98, .int .u8 99] 5 (3, 4))) (.slice (some ⟨w.heap.size, 0, none⟩) 3 3) [97, 98, 99] :=
  RdB.lit F w [97, 98, 99] _ (3, 4) h (by simp [maxLen])
theorem aw_lit2 (w : World) (F : Nat → Prop) (h : ¬ F w.heap.size) : RdB F (w.alloc (.cells #[.int .u8 100, .int .u8 101] 5 (2, 3))) (.slice (some ⟨w.heap.size, 0, none⟩) 2 2) [100, 101] :=
  RdB.lit F w [100, 101] _ (2, 3) h (by simp [maxLen])
theorem errV0 : errV 0 = .nilIface := rfl
theorem DD.not {B : Nat} {w0 w : World} {p : Nat} {d : Hw.HDisk} {F : Nat → Prop} (h : DD B w0 w p d F) : ¬ F w.heap.size := fun hm => Nat.lt_irrefl _ (h.disk.lt hm)
theorem DD.al {B : Nat} {w0 w : World} {p : Nat} {d : Hw.HDisk} {F : Nat → Prop} (h : DD B w0 w p d F) (o : Obj) : DD B w0 (w.alloc o) p d F := h.new ((Upd.refl _ _).alloc _)
theorem dd_lit3 {B : Nat} {w0 w : World} {p : Nat} {F : Nat → Prop} (h : DD B w0 w p (Hw.HDisk.new 100) F) :
    Calls Tryd.prog 10 #[.pointer (some ⟨p, 0, none⟩), .int .i64 7, .slice (some ⟨w.heap.size, 0, none⟩) 3 3] (w.alloc (.cells #[.int .u8 97, .int .u8 98, .int .u8 99] 5 (3, 4)))
      (DRet B w0 p F (w.alloc (.cells #[.int .u8 97, .int .u8 98, .int .u8 99] 5 (3, 4))) .nilIface aw1) :=
  dd_Append (h.al _) (aw_lit3 w F h.not) (by simp) aw1_eq errV0
theorem dd_lit2 {B : Nat} {w0 w : World} {p : Nat} {F : Nat → Prop} (h : DD B w0 w p aw2 F) :
    Calls Tryd.prog 10 #[.pointer (some ⟨p, 0, none⟩), .int .i64 7, .slice (some ⟨w.heap.size, 0, none⟩) 2 2] (w.alloc (.cells #[.int .u8 100, .int .u8 101] 5 (2, 3)))
      (DRet B w0 p F (w.alloc (.cells #[.int .u8 100, .int .u8 101] 5 (2, 3))) .nilIface aw3) :=
  dd_Append (h.al _) (aw_lit2 w F h.not) (by simp) aw3_eq errV0
theorem dd_re {B : Nat} {w0 w : World} {p : Nat} {F : Nat → Prop} (h : DD B w0 w p aw3 F) :
    Calls Tryd.prog 28 #[.pointer (some ⟨p, 0, none⟩), .int .i64 1] w (fun e w' => e = .returned (.tuple #[]) ∧ DD B w0 w' p (aw3.restart 1) F ∧ Upd F w w') := dd_Restart h rfl
def AwRead (B : Nat) (w0 : World) (e : Ending) (w' : World) : Prop :=
  ∃ A c, e = .returned (.tuple #[.slice A 4 c, .bool true]) ∧ Below B w0 w' ∧ (convert 22 9 (.slice A 4 c)).run Tryd.prog w' = .ok (.string (strB [97, 98, 99, 100])) w'
theorem dd_read {B : Nat} {w0 w : World} {p : Nat} {F : Nat → Prop} (h : DD B w0 w p (aw3.restart 1) F) :
    Calls Tryd.prog 31 #[.pointer (some ⟨p, 0, none⟩), .int .i64 7] w (AwRead B w0) :=
  (disk_Read p _ F 7 w h.disk).mono fun e w' hr => by
    rw [aw4_eq] at hr
    obtain ⟨hb, v, rfl, ho⟩ := hr
    have hR := RdB.of_own (M := fun _ => False) ho (fun _ _ h => h)
    have hs := hR.str
    obtain ⟨A, c, rfl, _⟩ := hR.len
    exact ⟨A, c, rfl, (h.below hb).bel, hs⟩
theorem aw_str : strB [97, 98, 99, 100] = ⟨#[97, 98, 99, 100]⟩ := rfl
def AwakeRet (w : World) (e : Ending) (w' : World) : Prop := e = .returned (.bool true) ∧ Below w.heap.size w w'
set_option maxRecDepth 100000 in
set_option maxHeartbeats 2000000 in
theorem awake05 (w : World) : Calls Tryd.prog 8 #[] w (AwakeRet w) := by
  have kc := litc
  go_enter Tryd.func8, Tryd.ntmps8
  go_wp2_with (first
    | (go_at_call 9; refine (disk_Of 100 _).mono ?_; intro e w1 hr; obtain ⟨p, F, rfl, h1, hb1⟩ := DD.of (Below.refl _ _) hr; clear hr; have H1 := Lib.hid h1; clear h1; clear hb1))
  go_wp2_with (go_at_call 10; refine (dd_lit3 H1.out).mono ?_; rintro e w2 ⟨rfl, F2, h2, hf2, u2⟩; have H2 := Lib.hid h2; clear h2; clear hf2; clear u2)
  go_wp2_with (go_at_call 30; refine (dd_Sync H2.out aw2_eq errV0).mono ?_; rintro e w3 ⟨rfl, F3, h3, hf3, u3⟩; have H3 := Lib.hid h3; clear h3; clear hf3; clear u3)
  go_wp2_with (go_at_call 10; refine (dd_lit2 H3.out).mono ?_; rintro e w4 ⟨rfl, F4, h4, hf4, u4⟩; have H4 := Lib.hid h4; clear h4; clear hf4; clear u4)
  go_wp2_with (first
    | (go_at_call 28; refine (dd_re H4.out).mono ?_; rintro e w5 ⟨rfl, h5, u5⟩; have H5 := Lib.hid h5; clear h5; clear u5)
    | (go_at_call 31; refine (dd_read H5.out).mono ?_; rintro e w6 ⟨A6, c6, rfl, hb6, hs⟩; rw [aw_str] at hs; have HB := Lib.hid hb6; clear hb6))
  go_ret
  exact ⟨rfl, HB.out⟩
end Go.Proofs.YtihncdlbbhmglaaDoor
