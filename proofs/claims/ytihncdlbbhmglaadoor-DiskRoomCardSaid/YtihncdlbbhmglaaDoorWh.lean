/- Walks: frame.Scan. -/
import Derived.Test.YtihncdlbbhmglaaDoorWg
namespace Go.Proofs.YtihncdlbbhmglaaDoor
open Go.RowKit
theorem rowsrow : (Tryd.prog.info? 22).map (fun i => (i.zero, i.size, i.bytes)) = some (some (.slice none 0 0), 1, 24) := by kernel_rfl
theorem rowsslice : Tryd.prog.underlying 47 = some (.slice 22) := by kernel_rfl
/-- v is an owned slice of rows that read as these, each in a block of its own from base on. -/
def OwnRows (base : Nat) (w : World) (v : Value) (rs : List Hw.Bytes) : Prop :=
  ∃ vs, w.ownsRow base 22 1 v rs.length vs ∧ RdRows (fun b => b < base ∨ v.ownBlock = some b) w vs rs
theorem OwnRows.nil (base : Nat) (w : World) : OwnRows base w (.slice none 0 0) [] := ⟨[], World.ownsRow_nil _ _ _ _, trivial⟩
/-- One row more: behind the append. -/
theorem OwnRows.snoc {base : Nat} {w w1 : World} {v v1 vx : Value} {rs : List Hw.Bytes} {vs : List Value} {r : Hw.Bytes} (hr : RdRows (fun b => b < base ∨ v.ownBlock = some b) w vs rs) (hx : RdB (fun b => b < base ∨ v.ownBlock = some b) w vx r)
    (o1 : w1.ownsRow base 22 1 v1 (rs.length + 1) (vs ++ [vx])) (g1 : w.grownBy w1 v.ownBlock) (a1 : v1.ownBlock = v.ownBlock ∨ ∃ b, v1.ownBlock = some b ∧ w.heap.size ≤ b) : OwnRows base w1 v1 (rs ++ [r]) := by
  have hM : ∀ n, (n < base ∨ v1.ownBlock = some n) → (n < base ∨ v.ownBlock = some n) ∨ w.heap.size ≤ n := by
    intro n hn
    rcases hn with h | h
    · exact .inl (.inl h)
    · rcases a1 with a | ⟨b, a, hb⟩
      · exact .inl (.inr (by rw [← a]; exact h))
      · rw [a] at h; cases h; exact .inr hb
  have hF : ∀ n, v.ownBlock = some n → (n < base ∨ v.ownBlock = some n) ∨ w.heap.size ≤ n := fun n h => .inl (.inr h)
  refine ⟨vs ++ [vx], by simpa using o1, (hr.upd (Upd.of_grown g1) hF hM).append ⟨hx.upd (Upd.of_grown g1) hF hM, trivial⟩⟩
def ScanRet (r : List Hw.Bytes × Nat) (w : World) (e : Ending) (w' : World) : Prop :=
  Below w.heap.size w w' ∧ ∃ v', e = .returned (.tuple #[v', .int .i64 r.2]) ∧ OwnRows w.heap.size w' v' r.1
def ScanRel (bs : Hw.Bytes) (w : World) (k : Nat) (t4 : Value) (wr : World) : Prop :=
  Below w.heap.size w wr ∧ ∃ rs f, bs.length - k < f ∧ Hw.frameScan bs = (rs ++ (Hw.scanGo f (bs.drop k)).1, k + (Hw.scanGo f (bs.drop k)).2) ∧ rs.length ≤ k ∧ OwnRows w.heap.size wr t4 rs
theorem ScanRel.done {bs : Hw.Bytes} {w wr : World} {k : Nat} {t4 : Value} (h : ScanRel bs w k t4 wr) (hn : Hw.frameOne (bs.drop k) = none) {w1 : World} (hb : Below wr.heap.size wr w1) :
    ScanRet (Hw.frameScan bs) w (.returned (.tuple #[t4, .int .i64 k])) w1 := by
  obtain ⟨h1, rs, f, hf, he, _, vs, ho, hr⟩ := h
  obtain ⟨f, rfl⟩ : ∃ g, f = g + 1 := ⟨f - 1, by omega⟩
  simp only [Hw.scanGo, hn, List.append_nil, Nat.add_zero] at he
  rw [he]
  refine ⟨h1.trans (hb.mono h1.size), t4, rfl, vs, own_upd ho (Upd.of_below (F := fun _ => False) hb) (fun _ _ h => h), hr.upd (Upd.of_below (F := fun _ => False) hb) (fun _ h => h.elim) (fun _ h => .inl h)⟩
theorem ScanRel.next {bs x : Hw.Bytes} {w wr wo w1 : World} {k n f : Nat} {t4 v1 vx : Value} {rs : List Hw.Bytes} {vs : List Value} (p1 : Below w.heap.size w wr) (hf : bs.length - k < f) (he : Hw.frameScan bs = (rs ++ (Hw.scanGo f (bs.drop k)).1, k + (Hw.scanGo f (bs.drop k)).2)) (hle : rs.length ≤ k)
    (ho : wr.ownsRow w.heap.size 22 1 t4 rs.length vs) (hr : RdRows (fun b => b < w.heap.size ∨ t4.ownBlock = some b) wr vs rs) (hk : k ≤ bs.length) (hs : Hw.frameOne (bs.drop k) = some (x, n)) (hb : Below wr.heap.size wr wo)
    (hx : wo.ownsRow wr.heap.size 5 1 vx x.length (u8s x)) (o : Obj)
    (ho1 : w1.ownsRow w.heap.size 22 1 v1 (rs.length + 1) (vs ++ [vx])) (g1 : (wo.alloc o).grownBy w1 t4.ownBlock) (a1 : v1.ownBlock = t4.ownBlock ∨ v1.ownBlock = some (wo.heap.size + 1)) :
    ScanRel bs w (k + n) v1 w1 ∧ k + n ≤ bs.length ∧ 6 ≤ n := by
  obtain ⟨q1, q2, q3, q4⟩ := Hw.frameOne_some hs
  obtain ⟨f, rfl⟩ : ∃ g, f = g + 1 := ⟨f - 1, by omega⟩
  simp only [Hw.scanGo, hs, List.drop_drop] at he
  simp only [List.length_drop] at q4
  have hle' := ho.1
  have hvl : vs.length = rs.length := by omega
  have hwo := hb.size
  have hbk : ∀ b, t4.ownBlock = some b → w.heap.size ≤ b ∧ b < wr.heap.size := fun b hb => ho.lt b hb
  have hx' : RdB (fun b => b < w.heap.size ∨ t4.ownBlock = some b) wo vx x := RdB.of_own hx (fun b hb hM => by
    have := (hx.lt b hb).1
    have := p1.size
    rcases hM with h | h
    · omega
    · have := (hbk b h).2; omega)
  have hr' := hr.upd (M' := fun b => b < w.heap.size ∨ t4.ownBlock = some b) (Upd.of_below (F := fun _ => False) hb) (fun _ h => h.elim) (fun _ h => .inl h)
  have hua := Upd.of_below (F := fun _ => False) (below_new wo o)
  have hsn := OwnRows.snoc (v1 := v1) (hr'.upd (M' := fun b => b < w.heap.size ∨ t4.ownBlock = some b) hua (fun _ h => h.elim) (fun _ h => .inl h)) (hx'.upd (M' := fun b => b < w.heap.size ∨ t4.ownBlock = some b) hua (fun _ h => h.elim) (fun _ h => .inl h))
    ho1 g1 (by
      rcases a1 with a | a
      · exact .inl a
      · exact .inr ⟨_, a, by simp⟩)
  refine ⟨⟨?_, rs ++ [x], f, by omega, ?_, by simp; omega, hsn⟩, by omega, by omega⟩
  · refine (p1.trans (hb.mono p1.size)).trans (((below_new wo o).mono (by have := p1.size; omega)).trans ?_)
    exact (Below.refl _ _).grown g1 (by have := p1.size; simp; omega) (fun b hb => (hbk b hb).1)
  · rw [he]; simp [Nat.add_assoc]
set_option maxRecDepth 100000 in
set_option maxHeartbeats 1000000 in
theorem frame_Scan (M : Nat → Prop) (v : Value) (bs : Hw.Bytes) (w : World) (h : RdB M w v bs) (hl : bs.length ≤ 1000000000000) :
    Calls Tryd.prog 41 #[v] w (ScanRet (Hw.frameScan bs) w) := by
  obtain ⟨i0, hi, hz0, hz1, hz2⟩ := info_parts rowsrow
  obtain ⟨A, c, rfl, h1, h2⟩ := h.len
  unfold maxLen at h2
  have H := Lib.hid h; clear h
  go_enter Tryd.func41, Tryd.ntmps41
  go_wp2
  go_loopw [4, 5] (fun t4 t5 wr => ∃ k : Nat, k ≤ bs.length ∧ t5 = .int .i64 k ∧ ScanRel bs w k t4 wr) (fun _ k _ => (bs.length - intOf k).toNat)
  case atStart => exact ⟨0, by omega, rfl, Below.refl _ _, [], bs.length + 1, by omega, by simp [Hw.frameScan], by simp, OwnRows.nil _ _⟩
  case round =>
    obtain ⟨k, hk, rfl, hrel⟩ := hrel
    have HR := Lib.hid hrel
    have hB := hrel.1.size
    have hfrom := RdB.from (RdC.below H.out hrel.1) k hk
    clear hrel
    by_cases hck : c = k
    · rw [if_pos hck] at hfrom
      have HF := Lib.hid hfrom; clear hfrom
      have hlk : bs.length = k := by omega
      have HLK := Lib.hid hlk; clear hlk
      obtain rfl := hck
      have hdr : bs.drop c = [] := List.drop_eq_nil_of_le (by have := HLK.out; omega)
      have hs : Hw.frameOne (bs.drop c) = none := by rw [hdr]; exact Hw.frameOne_nil
      have C := frame_One M (.slice A 0 0) (bs.drop c) _ (by have := HF.out; simpa [HLK.out] using this)
      rw [hs] at C
      have HS := Lib.hid hs
      have HC := Lib.hid C; clear C hs hdr
      go_wp2_with (go_at_call 17; refine HC.out.mono ?_; rintro e w1 ⟨hb1, rfl⟩; have HB1 := Lib.hid hb1; clear hb1)
      go_ret2
      exact HR.out.done HS.out HB1.out
    · rw [if_neg hck] at hfrom
      cases A with
      | none => obtain ⟨A', c', hv, _, _, _, h3, _⟩ := H.out; cases hv; have := h3 rfl; omega
      | some ad =>
        simp only [Option.map_some] at hfrom
        have C := frame_One M _ (bs.drop k) _ hfrom
        clear hfrom
        cases hs : Hw.frameOne (bs.drop k) with
        | none =>
          rw [hs] at C
          have HS := Lib.hid hs
          have HC := Lib.hid C; clear C hs
          go_wp2_with (go_at_call 17; refine HC.out.mono ?_; rintro e w1 ⟨hb1, rfl⟩; have HB1 := Lib.hid hb1; clear hb1)
          go_ret2
          exact HR.out.done HS.out HB1.out
        | some p =>
          obtain ⟨x, n⟩ := p
          rw [hs] at C
          have HS := Lib.hid hs
          have HC := Lib.hid C; clear C hs
          obtain ⟨hP, rs, f, hf, he, hle, vs, ho, hr⟩ := HR.out
          obtain ⟨hxl, _⟩ := Hw.frameOne_some HS.out
          have HP := Lib.hid (And.intro hP (And.intro hf he))
          have HQ := Lib.hid (And.intro ho hr)
          clear hP hf he ho hr HR
          go_wp2_with (first
            | (go_at_call 17; refine HC.out.mono ?_; rintro e w1 ⟨hb1, vx, rfl, hx1⟩; obtain ⟨A1, c1, rfl, _, _⟩ := RdB.len (RdB.of_own (M := fun _ => False) hx1 (fun _ _ h => h)); have HB1 := Lib.hid hb1; have hsz := hb1.size; have HX1 := Lib.hid hx1; clear hb1 hx1)
            | (at_builtin; refine wpAppend _ rfl _ _ 47 rfl w.heap.size 22 i0 (.slice none 0 0) 1 24 rowsslice hi hz0 hz1 hz2 rfl (by decide) _ _ _ rfl ((own_upd HQ.out.1 (Upd.of_below (F := fun _ => False) HB1.out) (fun _ _ h => h)).alloc _) (fun _ => False) _ 1 _ rfl (RdC.made _ 1 1 _ _ rfl (by decide) (fun h => h)) ?_ ?_ ?_ ?_ ?_))
          · simp [Value.oneCell']
          · unfold maxLen; omega
          · omega
          · simp; omega
          · intro v1 w2 o1 g1 a1
            have hn := ScanRel.next HP.out.1 HP.out.2.1 HP.out.2.2 hle HQ.out.1 HQ.out.2 hk HS.out HB1.out HX1.out _ o1 g1 (by simpa using a1)
            have HN := Lib.hid hn.1
            have hn2 := hn.2
            clear o1 g1 a1 hn
            go_wp2
            go_roundw
            case rel => exact ⟨k + n, hn2.1, by go_num, HN.out⟩
            case measure => simp [intOf]; omega
end Go.Proofs.YtihncdlbbhmglaaDoor
