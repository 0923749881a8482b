/- Texts that build together: Re Rk. -/
import Derived.WalkKit
import Derived.ProofKit
import Derived.OpenShut
import Derived.RowKit
import Derived.Deep.Matrix
import Derived.ShutString
import Derived.ChangeOld
import Derived.Below
import Derived.Test.YtihncdlbbhmglaaQ3
set_option linter.unusedVariables false
set_option linter.unusedSimpArgs false
/- Arguments: rows of bytes. -/
namespace Go.Proofs.Ytihncdlbbhmglaa
open Go.ChangeShapes Go.WideShapes Go.ChangeAt Go.RowKit Go.Deep

def u8of (zs : List Int) : Hw.Bytes := zs.map fun n => UInt8.ofNat n.toNat
/-- Numbers in cells read as bytes. -/
theorem rdB_row {W : World} {M : Nat → Prop} {A : Option Addr} {L C : Nat} {zs : List Int} (hM : ∀ b, b < W.heap.size → ¬ M b) (h1 : L ≤ C) (h2 : C ≤ maxLen) (h3 : zs.length = C) (hw : ∀ n ∈ zs, (Lit.int .u8 n).wf = true) (h4 : A = none → C = 0)
    (h5 : ∀ a', A = some a' → ∀ c, c < C → W.cell? (a'.add c) = some (.int .u8 (zs.getD c 0))) : RdB M W (.slice A L C) (u8of (zs.take L)) := by
  have hlen : (u8of (zs.take L)).length = L := by simp [u8of]; omega
  refine ⟨A, C, by rw [hlen], by simp [u8s_length], by omega, h2, h4, fun ad hA hc => ?_⟩
  have hcell := h5 ad hA
  have h0 := hcell 0 hc
  have hsp : ad.spot = none := by
    have : ad.add 0 = ad := by cases ad; rfl
    rw [this] at h0
    cases ad; exact World.cell?_spot h0
  have ha : ∀ i, ad.add i = ⟨ad.block, ad.off + i, none⟩ := by
    intro i
    have : ad = ⟨ad.block, ad.off, none⟩ := by cases ad; simp_all
    rw [this]; exact Addr.add_lit _ _ _
  have hlt : ad.block < W.heap.size := by
    rw [ha 0] at h0
    have h6 := World.block_lt_of_cell? W _ h0
    exact h6
  refine ⟨hsp, hM _ hlt, hlt, fun i y hy => ?_⟩
  have hi : i < L := by
    have := (List.getElem?_eq_some_iff.1 hy).1
    rw [u8s_length, hlen] at this; exact this
  have hc := hcell i (by omega)
  rw [ha i] at hc
  rw [hc]
  have hzi : zs[i]? = some zs[i] := List.getElem?_eq_getElem (by omega)
  have hw := hw zs[i] (List.getElem_mem _)
  have hb := bounds_u8 hw
  rw [← hy]
  simp only [u8s, u8of, List.map_map, List.getElem?_map, List.getElem?_take, if_pos hi, hzi, Option.map_some, Function.comp, List.getD, Option.getD_some]
  congr 2
  simp
  omega
theorem RdRows.of_map {M : Nat → Prop} {w : World} {α : Type} (f : α → Value) (g : α → Hw.Bytes) : ∀ (l : List α), (∀ x ∈ l, RdB M w (f x) (g x)) → RdRows M w (l.map f) (l.map g)
  | [], _ => trivial
  | x :: l, h => ⟨h x (by simp), RdRows.of_map f g l (fun y hy => h y (by simp [hy]))⟩
theorem cells_u8 : Try.prog.cellsOf 5 = 1 := by kernel_rfl
theorem cells_bytes : Try.prog.cellsOf 23 = 1 := by kernel_rfl
/-- Rows in cells. -/
theorem rdRows_cells {H : Type} {enc : TypeId × Value → H} {W : World} {base fuel : Nat} {v : Value} {x : DataW H × List MemPlace} (hv : ∃ A n c, v = .slice A n c) (hf : DataW.trod enc Try.prog W base (fun _ => true) true fuel 22 [v] = some x) (M : Nat → Prop) (hM : ∀ b, b < W.heap.size → ¬ M b) :
    ∃ (rs : List Hw.Bytes) (us : List Value), RdC M W 1 v rs.length us ∧ RdRows M W us rs := by
  rcases open_int_rows Try.underlying22 Try.underlying23 Try.underlying5 cells_bytes cells_u8 hf with ⟨hcs, _⟩ | ⟨a, len, cap, A, L, C, Z, hcs, _, hl, hm, _, hr⟩
  · obtain rfl : v = .slice none 0 0 := by simpa using hcs
    exact ⟨[], [], RdC.nil _ _ _, trivial⟩
  · obtain rfl : v = .slice (some a) len cap := by simpa using hcs
    refine ⟨(List.range len).map fun r => u8of ((Z r).take (L r)), (List.range len).map fun r => .slice (A r) (L r) (C r), ⟨some a, cap, by simp, by simp, by simpa using hl, hm, (fun h => by cases h), fun ad hA hc => ?_⟩, RdRows.of_map _ _ _ (fun r hr' => ?_)⟩
    · cases hA
      have h0 := (hr 0 hc).1
      have hsp : a.spot = none := by
        have : a.add 0 = a := by cases a; rfl
        rw [this] at h0
        cases a; exact World.cell?_spot h0
      have ha : ∀ i, a.add i = ⟨a.block, a.off + i, none⟩ := by
        intro i
        have : a = ⟨a.block, a.off, none⟩ := by cases a; simp_all
        rw [this]; exact Addr.add_lit _ _ _
      have hlt : a.block < W.heap.size := by
        rw [ha 0] at h0
        have h6 := World.block_lt_of_cell? W _ h0
        exact h6
      refine ⟨hsp, hM _ hlt, hlt, fun i y hy => ?_⟩
      have hi : i < len := by simpa using (List.getElem?_eq_some_iff.1 hy).1
      have := (hr i (by omega)).1
      rw [ha i] at this
      rw [this, ← hy]; simp [hi]
    · have hlt := hr r (by have := List.mem_range.1 hr'; omega)
      obtain ⟨_, q1, q2, q3, q4, q5, q6⟩ := hlt
      exact rdB_row hM q1 q2 q3 q4 q5 (fun a' h c hc => (q6 a' h).2 c hc)
set_option maxRecDepth 100000 in
theorem argRows {H : Type} {enc : TypeId × Value → H} {W : World} {base : Nat} {v : Value} {d : DataW H} {p : List MemPlace} (hval : Value.okWide Try.prog W .any base 22 v)
    (h : DataW.Trod enc Try.prog W 0 (fun _ => true) true 22 v d p) : ∃ (rs : List Hw.Bytes) (us : List Value), RdC (fun k => W.heap.size ≤ k) W 1 v rs.length us ∧ RdRows (fun k => W.heap.size ≤ k) W us rs := by
  obtain ⟨a, len, cap, rfl⟩ := okWide_slice Try.underlying22 hval
  obtain ⟨fuel, hf⟩ := h
  exact rdRows_cells ⟨_, _, _, rfl⟩ (by simpa [Value.cells] using hf) _ (fun b hb => by omega)
end Go.Proofs.Ytihncdlbbhmglaa

/- Arguments: bytes; acts. -/
namespace Go.Proofs.Ytihncdlbbhmglaa
open Go.ChangeShapes Go.WideShapes Go.ChangeAt Go.RowKit Go.Deep

theorem bytes_cells {H : Type} {enc : TypeId × Value → H} {W : World} {base fuel : Nat} {v : Value} {x : DataW H × List MemPlace} (hf : DataW.trod enc Try.prog W base (fun _ => true) true fuel 23 [v] = some x) (M : Nat → Prop) (hM : ∀ b, b < W.heap.size → ¬ M b) :
    ∃ bs : Hw.Bytes, RdB M W v bs := by
  rcases open_ints Try.underlying23 Try.underlying5 cells_u8 hf with ⟨hcs, _⟩ | ⟨a, len, cap, zs, hcs, _, hl, hm, hz, _, hcell, hwz⟩
  · obtain rfl : v = .slice none 0 0 := by simpa using hcs
    exact ⟨[], RdB.nil _ _⟩
  · obtain rfl : v = .slice (some a) len cap := by simpa using hcs
    simp only [if_true] at hz
    exact ⟨_, rdB_row hM hl hm hz hwz (fun h => by cases h) (fun a' h c hc => by cases h; exact hcell c (by omega))⟩
set_option maxRecDepth 100000 in
theorem argBytes {H : Type} {enc : TypeId × Value → H} {W : World} {base : Nat} {v : Value} {d : DataW H} {p : List MemPlace} (hval : Value.okWide Try.prog W .any base 23 v)
    (h : DataW.Trod enc Try.prog W 0 (fun _ => true) true 23 v d p) : ∃ bs : Hw.Bytes, RdB (fun k => W.heap.size ≤ k) W v bs := by
  obtain ⟨a, len, cap, rfl⟩ := okWide_slice Try.underlying23 hval
  obtain ⟨fuel, hf⟩ := h
  exact bytes_cells (by simpa [Value.cells] using hf) _ (fun b hb => by omega)
end Go.Proofs.Ytihncdlbbhmglaa
