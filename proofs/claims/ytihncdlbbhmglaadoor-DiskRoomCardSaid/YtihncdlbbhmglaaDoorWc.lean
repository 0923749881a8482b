/- Walks: varint.All, frame.Make. -/
import Derived.Test.YtihncdlbbhmglaaDoorWb
namespace Go.Proofs.YtihncdlbbhmglaaDoor
open Go.RowKit
def i64s (ns : List Int) : List Value := ns.map fun n => .int .i64 n
theorem i64s_length (ns : List Int) : (i64s ns).length = ns.length := by simp [i64s]
def In64 (ns : List Int) : Prop := ∀ n ∈ ns, -9223372036854775808 ≤ n ∧ n ≤ 9223372036854775807
/-- It returns a new slice of these cells; of what was there nothing has turned. -/
def FreshRet (e size n : Nat) (xs : List Value) (w : World) (en : Ending) (w' : World) : Prop :=
  ∃ v', en = .returned v' ∧ w'.ownsRow w.heap.size e size v' n xs ∧ Below w.heap.size w w'
theorem varAll_len {ns : List Int} (h : In64 ns) : (Hw.varAll ns).length ≤ 10 * ns.length := by
  induction ns with
  | nil => simp [Hw.varAll]
  | cons n ns ih =>
    have h1 := Hw.varPut_len (h n (by simp)).1 (h n (by simp)).2
    have h2 := ih (fun m hm => h m (by simp [hm]))
    simp only [Hw.varAll, List.flatMap_cons, List.length_append, List.length_cons] at h2 ⊢; omega
theorem varAll_snoc (ns : List Int) (k : Nat) (x : Int) (h : ns[k]? = some x) : Hw.varAll (ns.take (k + 1)) = Hw.varAll (ns.take k) ++ Hw.varPut x := by
  rw [List.take_add_one, h]; simp [Hw.varAll]
def AllRel (ns : List Int) (w : World) (k : Nat) (t3 : Value) (wr : World) : Prop :=
  wr.ownsRow w.heap.size 5 1 t3 (Hw.varAll (ns.take k)).length (u8s (Hw.varAll (ns.take k))) ∧ Below w.heap.size w wr
theorem AllRel.next {ns : List Int} {w wr w1 : World} {k : Nat} {t3 v1 : Value} {x : Int} (h : AllRel ns w k t3 wr) (hx : ns[k]? = some x)
    (h1 : w1.ownsRow w.heap.size 5 1 v1 ((Hw.varAll (ns.take k)).length + (Hw.varPut x).length) (u8s (Hw.varAll (ns.take k)) ++ u8s (Hw.varPut x))) (hg : wr.grownBy w1 t3.ownBlock) : AllRel ns w (k + 1) v1 w1 := by
  obtain ⟨h2, h3⟩ := h
  refine ⟨?_, h3.grown hg (h3.size) (fun k hk => (h2.lt k hk).1)⟩
  rw [varAll_snoc ns k x hx, List.length_append, u8s_append]; exact h1
set_option maxRecDepth 100000 in
set_option maxHeartbeats 400000 in
theorem varint_All (M : Nat → Prop) (v : Value) (ns : List Int) (w : World) (h : RdC M w 1 v ns.length (i64s ns)) (hin : In64 ns) (hn : ns.length ≤ 100000000) :
    Calls Tryd.prog 16 #[v] w (FreshRet 5 1 (Hw.varAll ns).length (u8s (Hw.varAll ns)) w) := by
  obtain ⟨A, c, rfl, h1, h2⟩ := h.len
  clear h2
  go_enter Tryd.func16, Tryd.ntmps16
  go_wp2
  go_loopw [3, 8] (fun t3 t8 wr => ∃ k : Nat, k ≤ ns.length ∧ t8 = .int .i64 k ∧ AllRel ns w k t3 wr) (fun _ k _ => (ns.length - intOf k).toNat)
  case atStart => exact ⟨0, by omega, rfl, by simpa [AllRel, Hw.varAll, u8s] using ⟨World.ownsRow_nil w w.heap.size 5 1, Below.refl _ _⟩⟩
  case round =>
    obtain ⟨k, hk, rfl, hr⟩ := hrel
    by_cases hlt : k < ns.length
    · obtain ⟨x, hx⟩ : ∃ x, ns[k]? = some x := ⟨ns[k], List.getElem?_eq_getElem hlt⟩
      have hxm : x ∈ ns := List.mem_of_getElem? hx
      have hb := hin x hxm
      have HB := Lib.hid hb; clear hb
      obtain ⟨b, o, c', hv, _, _, _, _, hbl, g4⟩ := h.at (by omega)
      cases hv
      have hc : ‹World›.cell? ⟨b, o + k, none⟩ = some (.int .i64 x) := (hr.2.cell (p := ⟨b, o + k, none⟩) hbl).trans (g4 k (.int .i64 x) (by simp [i64s, hx]))
      have hl := varAll_len (ns := ns.take k) (fun m hm => hin m (List.mem_of_mem_take hm))
      rw [List.length_take] at hl
      have hl' : (Hw.varAll (ns.take k)).length ≤ 1000000000000 := by omega
      have HX := Lib.hid hx
      clear g4 hx h hin hxm hl
      have HR := Lib.hid hr; clear hr
      have hsz := HR.out.2.size
      go_wp2_with (go_at_call 39; refine (varint_Put w.heap.size _ _ _ _ _ HR.out.1 HR.out.2.size hl' HB.out.1 HB.out.2).mono ?_; rintro e w1 ⟨v1, rfl, o1, g1, _⟩; have HN := Lib.hid (HR.out.next HX.out o1 g1); clear o1 g1)
      go_roundw
      case rel => exact ⟨k + 1, by omega, by go_num, HN.out⟩
      case measure => simp [intOf]; omega
    · have hk : k = ns.length := by omega
      subst hk
      have HR := Lib.hid hr; clear hr h hin
      go_wp2
      go_ret
      have := HR.out
      rw [AllRel, List.take_length] at this
      exact ⟨_, rfl, this⟩
end Go.Proofs.YtihncdlbbhmglaaDoor
