/- PROVED HERE: hawalalaw06.JournalForm returns true for every input, and each argument reads behind the call as it read before; no condition beyond the statement's own cells (errors.errorType is laid as the program's text lays it: the card ties it). -/
import Derived.Deep.CutBlock
import Derived.SevenTiedAt
import Derived.Test.YtihncdlbbhmglaaDoorQ5
import Derived.Test.YtihncdlbbhmglaaDoorQ4
import Derived.Test.YtihncdlbbhmglaaDoorCards
import Derived.Test.YtihncdlbbhmglaaDoorTie
set_option linter.unusedVariables false
set_option linter.unusedSimpArgs false
/- hawalalaw06.JournalForm: the walk. The door's seat. -/
namespace Go.Proofs.YtihncdlbbhmglaaDoor
open Go.RowKit

/-- Behind Open that told an error. -/
theorem open_no {B : Nat} {w0 w : World} {p : Nat} {d d' : Hw.HDisk} {F : Nat → Prop} {j : Hw.HJ} {k : Int} (h : DD B w0 w p d F) (hf : d.files.length ≤ 1000) (hr : Hw.HJ.openD d = (k, j, d')) (hk : k ≠ 0) :
    Calls Tryd.prog 18 #[.pointer (some ⟨p, 0, none⟩)] w (fun e w' => e = .returned (.tuple #[.pointer none, .iface 29 (.int .i64 k)]) ∧ ∃ q F' G' j1, JS B w0 p q F (fun _ => False) w d' j1 w' F' G') :=
  (journal_Open h (by omega) hr).mono fun e w' hh => by
    rcases hh with ⟨h0, _⟩ | ⟨_, q, F', G', j1, e1, hh⟩
    · exact absurd h0 hk
    · exact ⟨e1, q, F', G', j1, hh⟩
structure FormX (wA : World) (p : Nat) (x : Hw.Bytes) (v : Value) (F : Nat → Prop) (wx : World) : Prop where
  dd : DD wA.heap.size wA wx p (Hw.HDisk.new 262144) F
  rd : RdB F wx v x
  len : x.length ≤ 1000
theorem FormX.made {wA w w1 : World} {p : Nat} {x : Hw.Bytes} {v : Value} {F : Nat → Prop} (h : DD wA.heap.size wA w p (Hw.HDisk.new 262144) F) (hb : Below w.heap.size w w1) (hx : x.length ≤ 1000) (o : w1.ownsRow w.heap.size 5 1 v x.length (u8s x)) : FormX wA p x v F w1 :=
  ⟨h.below hb, RdB.of_own o (fun k hk hm => by have := own_lt o hk; have := (o.lt k hk).1; have := h.disk.lt hm; omega), hx⟩
theorem form_frame (t : Int) (ht : Hw.Small t ∨ True) {b : Hw.Bytes} (hb : b.length ≤ 500) (h1 : -9223372036854775808 ≤ t) (h2 : t ≤ 9223372036854775807) : (Hw.frameOf (Hw.varAll [t] ++ b)).length ≤ 1000 ∧ (Hw.varAll [t] ++ b).length ≤ 16384 ∧ (Hw.varAll [t]).length ≤ 10 := by
  have h := Hw.varPut_len h1 h2
  have e : Hw.varAll [t] = Hw.varPut t := by simp [Hw.varAll]
  rw [e, Hw.frameOf_length, List.length_append]; omega
theorem form_row {w : World} {B : Nat} {v : Value} {a b : Hw.Bytes} (o : w.ownsRow B 5 1 v (a.length + b.length) (u8s a ++ u8s b)) : w.ownsRow B 5 1 v (a ++ b).length (u8s (a ++ b)) := by
  rw [List.length_append, u8s_append]; exact o
theorem FormX.framed {wA w2 w4 w5 : World} {p : Nat} {y : Hw.Bytes} {A : Option Addr} {c : Nat} {F : Nat → Prop} (h : DD wA.heap.size wA w2 p (Hw.HDisk.new 262144) F) (b4 : Below w2.heap.size w2 w4) (b5 : Below w4.heap.size w4 w5) (hx : (Hw.frameOf y).length ≤ 1000)
    (o : w5.ownsRow w4.heap.size 5 1 (.slice A (6 + y.length) c) (6 + y.length) (u8s (Hw.frameOf y))) : FormX wA p (Hw.frameOf y) (.slice A (6 + y.length) c) F w5 :=
  have o2 : w5.ownsRow w4.heap.size 5 1 (.slice A (6 + y.length) c) (Hw.frameOf y).length (u8s (Hw.frameOf y)) := by rw [Hw.frameOf_length]; exact o
  ⟨(h.below b4).below b5, RdB.of_own o2 (fun k hk hm => by have := (o.lt k hk).1; have := h.disk.lt hm; have := b4.size; omega), hx⟩
set_option maxRecDepth 100000 in
set_option maxHeartbeats 4000000 in
theorem journalForm_walk (v0 : Value) (b0 : Hw.Bytes) (T : Int) (v2 : Value) (b2 : Hw.Bytes) (ex : Bool) (W : World) (hb0 : RdB (fun k => W.heap.size ≤ k) W v0 b0) (hT0 : -9223372036854775808 ≤ T) (hT1 : T ≤ 9223372036854775807) (hb2 : RdB (fun k => W.heap.size ≤ k) W v2 b2) (hg : ErrT W) :
    Calls Tryd.prog 4 #[v0, .int .i64 T, v2, .bool ex] W (TrueRet W) := by
  obtain ⟨i0, hi, hy0, hy1, hy2⟩ := info_parts u8row
  obtain ⟨A0, c0, rfl, l0, l0'⟩ := hb0.len
  obtain ⟨A2, c2, rfl, l2, l2'⟩ := hb2.len
  unfold maxLen at l0' l2'
  have hpos := hg.pos
  obtain ⟨m0, hm0⟩ : ∃ m : Nat, m = min b0.length 500 := ⟨_, rfl⟩
  have hmi0 : min (b0.length : Int) 500 = (m0 : Int) := by omega
  have hm0a : (0 : Int) ≤ (m0 : Int) := by omega
  have hm0b : (m0 : Int) ≤ (c0 : Int) := by omega
  have hm0c : m0 ≤ 500 := by omega
  obtain ⟨m2, hm2⟩ : ∃ m : Nat, m = min b2.length 500 := ⟨_, rfl⟩
  have hmi2 : min (b2.length : Int) 500 = (m2 : Int) := by omega
  have hm2a : (0 : Int) ≤ (m2 : Int) := by omega
  have hm2b : (m2 : Int) ≤ (c2 : Int) := by omega
  have hm2c : m2 ≤ 500 := by omega
  have HB0 := Lib.hid (hb0.to500 hm0)
  have HB2 := Lib.hid (hb2.to500 hm2)
  have hl0 : (b0.take 500).length = m0 := by rw [List.length_take]; omega
  have hl2 : (b2.take 500).length = m2 := by rw [List.length_take]; omega
  have HG := Lib.hid hg
  have HT := Lib.hid (And.intro hT0 hT1)
  clear hb0 hb2 hm0 hm2 hg hT0 hT1
  go_enter Tryd.func4, Tryd.ntmps4
  go_upto_region 3 with ((go_at_call 14; refine (awake06 _).mono ?_; rintro e w1 ⟨rfl, hb1⟩; have hz1 := hb1))
  go_cut [0, 2] (fun s0 s2 wx => s0 = .slice A0 m0 c0 ∧ s2 = .slice A2 m2 c2 ∧ ∃ (wx' : World), wx' = wx ∧ Below W.heap.size W wx')
  case first =>
    go_region_held3 (fun w' => Below W.heap.size W w')
      (first | exact hz1.drew | exact hz1)
      (fail)
    all_goals
      go_wp2_with fail
      go_meet
      first | exact ⟨rfl, rfl, _, rfl, hz1⟩ | exact ⟨rfl, rfl, _, rfl, hz1.drew⟩
  case rest =>
    obtain ⟨rfl, rfl, wA, rfl, hfa⟩ := hcut
    have hsA := hfa.size
    have HBB0 := Lib.hid (RdC.mono (M' := fun k => wA.heap.size ≤ k) (RdC.below HB0.out hfa) (fun k hk => Nat.le_trans hsA hk))
    have HBB2 := Lib.hid (RdC.mono (M' := fun k => wA.heap.size ≤ k) (RdC.below HB2.out hfa) (fun k hk => Nat.le_trans hsA hk))
    have HBA := Lib.hid hfa
    have HGA := Lib.hid (HG.out.of hfa hpos)
    have hposA : 0 < wA.heap.size := Nat.lt_of_lt_of_le hpos hsA
    clear hfa
    generalize hx0 : b0.take 500 = x0 at *
    generalize hx2 : b2.take 500 = x2 at *
    subst hl0
    subst hl2
    clear hx0 hx2
    go_upto_if 33 with ((go_at_call 9; refine (disk_Of 262144 _).mono ?_; intro e w2 hr; obtain ⟨p, F, rfl, h2, hb2⟩ := DD.of (Below.refl _ _) hr; clear hr; have H2 := Lib.hid h2; have hs2 := h2.size; have HZ2 := Lib.hid hb2; clear h2 hb2))
    go_cut [10] (fun s10 wx => ∃ (x : Hw.Bytes) (Ax : Option Addr) (cx : Nat) (wx' : World), wx' = wx ∧ s10 = .slice Ax x.length cx ∧ FormX wA p x (.slice Ax x.length cx) F wx')
    case first =>
      have hff := form_frame T (.inr trivial) (b := x2) (by omega) HT.out.1 HT.out.2
      obtain ⟨hff1, hff2, hff3⟩ := hff
      cases ex
      · go_wp2_with fail
        go_meet
        exact ⟨x0, A0, c0, _, rfl, rfl, ⟨H2.out, RdC.mono (RdC.below HBB0.out HZ2.out) (fun k hk => H2.out.own k hk), by omega⟩⟩
      · go_wp2_with (first
          | (go_at_call 16; refine (varint_All (fun _ => False) _ [T] _ (RdC.made _ 1 1 #[.int .i64 T] _ rfl (by decide) (fun h => h)) (by intro n hn; rw [List.mem_singleton.1 hn]; exact HT.out) (by simp)).mono ?_; rintro e w3 ⟨v3, rfl, o3, b3⟩; obtain ⟨A3, c3', rfl⟩ := own_form o3; have hs3 := b3.size; simp at hs3; have HO3 := Lib.hid o3; have HB3 := Lib.hid ((below_new w2 _).trans (b3.mono (by simp))); clear o3 b3)
          | (at_builtin; refine wpAppend _ rfl _ _ 22 rfl _ 5 i0 (.int .u8 0) 1 1 u8slice hi hy0 hy1 hy2 rfl (by decide) _ _ _ rfl HO3.out (fun k => wA.heap.size ≤ k) _ x2.length (u8s x2) rfl (RdC.below (RdC.below HBB2.out HZ2.out) HB3.out) ?_ ?_ ?_ ?_ ?_))
        · exact u8s_one _
        · unfold maxLen; omega
        · omega
        · simp; omega
        · intro v4 w4 o4 g4 a4
          have hb4 : Below w2.heap.size w2 w4 := HB3.out.grown g4 (by omega) (fun k hk => by have := (HO3.out.lt k hk).1; simp at this; omega)
          have HB4 := Lib.hid hb4
          have hs4 := hb4.size
          have HX := Lib.hid (RdB.of_own (M := fun _ => False) (form_row o4) (fun _ _ h => h))
          obtain ⟨A4, c4', rfl⟩ := own_form o4
          clear o4 g4 a4 hb4
          generalize hy : Hw.varAll [T] ++ x2 = y at *
          have hyl : y.length = (Hw.varAll [T]).length + x2.length := by rw [← hy, List.length_append]
          clear hy
          go_wp2_with (go_at_call 15; refine (frame_Make _ _ _ _ HX.out hff2).mono ?_; rintro e w5 ⟨v5, rfl, o5, b5⟩; obtain ⟨A5, c5', rfl⟩ := own_form o5; have h5 := FormX.framed H2.out HB4.out b5 hff1 o5; clear o5 b5)
          go_meet
          exact ⟨Hw.frameOf y, A5, c5', _, rfl, by rw [Hw.frameOf_length, hyl], by rw [Hw.frameOf_length]; exact h5⟩
    case rest =>
      obtain ⟨x, Ax, cx, wx, rfl, rfl, hX⟩ := hcut
      have hlx := hX.len
      have hap := Hw.form_append hlx
      have hop := Hw.form_open x
      have HAP := Lib.hid hap
      have HX := Lib.hid hX
      have hfl : (Hw.formD x).files.length ≤ 1000 := by simp [Hw.formD]
      have HFL := Lib.hid hfl
      clear hap hX hfl
      rcases hfo : Hw.frameOne x with _ | ⟨y, n⟩
      · rw [hfo] at hop
        have HFO := Lib.hid hfo
        have HOP := Lib.hid hop
        clear hfo hop
        go_wp2_with (first
          | (go_at_call 10; refine (dd_Append HX.out.dd HX.out.rd (by omega) HAP.out errV_0).mono ?_; rintro e w3 ⟨rfl, F3, h3, f3, u3⟩; have H3 := Lib.hid h3; have X3 := Lib.hid (HX.out.rd.upd u3 (M' := fun k => wx.heap.size ≤ k ∧ False) (fun _ h => .inl h) (fun _ h => h.2.elim)); clear h3 u3)
          | (go_at_call 17; refine (frame_One _ _ _ _ X3.out).mono ?_; rintro e w4 ⟨b4, he⟩; rw [HFO.out] at he; obtain rfl := he; have H4 := Lib.hid (H3.out.below b4); clear b4)
          | (go_at_call 18; refine (open_no H4.out HFL.out HOP.out (by decide)).mono ?_; rintro e w5 ⟨rfl, q5, F5, G5, j5, h5⟩; have H5 := Lib.hid h5; clear h5)
          | (go_at_call 11; refine (number_hit 11 _ (HGA.out.of H5.out.bel hposA)).mono ?_; rintro e w6 ⟨rfl, u6⟩; have H6 := Lib.hid (H5.out.new u6); clear u6))
        go_ret
        exact ⟨rfl, HBA.out.trans (H6.out.bel.mono hsA)⟩
      · rw [hfo] at hop
        have HFO := Lib.hid hfo
        by_cases hn : n = x.length
        · subst hn
          rcases hvg : Hw.varGet y with _ | ⟨t, lf⟩
          · simp only [hvg, ne_eq, not_true_eq_false, if_false] at hop
            have HVG := Lib.hid hvg
            have HOP := Lib.hid hop
            clear hfo hop hvg
            go_wp2_with (first
              | (go_at_call 10; refine (dd_Append HX.out.dd HX.out.rd (by omega) HAP.out errV_0).mono ?_; rintro e w3 ⟨rfl, F3, h3, f3, u3⟩; have H3 := Lib.hid h3; have X3 := Lib.hid (HX.out.rd.upd u3 (M' := fun k => wx.heap.size ≤ k ∧ False) (fun _ h => .inl h) (fun _ h => h.2.elim)); clear h3 u3)
              | (go_at_call 17; refine (frame_One _ _ _ _ X3.out).mono ?_; rintro e w4 ⟨b4, he⟩; rw [HFO.out] at he; obtain ⟨v4, rfl, o4⟩ := he; obtain ⟨A4, c4, rfl⟩ := own_form o4; have H4 := Lib.hid (H3.out.below b4); have Y4 := Lib.hid (RdB.of_own (M := fun k => F3 k ∨ False) o4 (fun k hk hm => by have := (o4.lt k hk).1; have := H3.out.disk.lt (hm.elim id False.elim); omega)); clear b4 o4)
              | (go_at_call 18; refine (open_no H4.out HFL.out HOP.out (by decide)).mono ?_; rintro e w5 ⟨rfl, q5, F5, G5, j5, h5⟩; have H5 := Lib.hid h5; have Y5 := Lib.hid (h5.rd Y4.out); clear h5)
              | (go_at_call 19; refine (varint_Get _ _ _ _ Y5.out).mono ?_; intro e w6 hr6; rw [HVG.out] at hr6; obtain ⟨⟨n6, hw6⟩, rfl⟩ := hr6; have H6 := Lib.hid (H5.out.below (w2 := w6) (by rw [hw6]; exact bel_drewN (Below.refl _ _) _)); clear hw6)
              | (go_at_call 11; refine (number_hit 11 _ (HGA.out.of H6.out.bel hposA)).mono ?_; rintro e w7 ⟨rfl, u7⟩; have H7 := Lib.hid (H6.out.new u7); clear u7))
            go_ret
            exact ⟨rfl, HBA.out.trans (H7.out.bel.mono hsA)⟩
          · have hvl := Hw.varGet_lt hvg
            by_cases ht : t < 1
            · simp only [hvg, ne_eq, not_true_eq_false, if_false, ht, if_true] at hop
              have HVG := Lib.hid hvg
              have HOP := Lib.hid hop
              clear hfo hop hvg
              go_wp2_with (first
                | (go_at_call 10; refine (dd_Append HX.out.dd HX.out.rd (by omega) HAP.out errV_0).mono ?_; rintro e w3 ⟨rfl, F3, h3, f3, u3⟩; have H3 := Lib.hid h3; have X3 := Lib.hid (HX.out.rd.upd u3 (M' := fun k => wx.heap.size ≤ k ∧ False) (fun _ h => .inl h) (fun _ h => h.2.elim)); clear h3 u3)
                | (go_at_call 17; refine (frame_One _ _ _ _ X3.out).mono ?_; rintro e w4 ⟨b4, he⟩; rw [HFO.out] at he; obtain ⟨v4, rfl, o4⟩ := he; obtain ⟨A4, c4, rfl⟩ := own_form o4; have H4 := Lib.hid (H3.out.below b4); have Y4 := Lib.hid (RdB.of_own (M := fun k => F3 k ∨ False) o4 (fun k hk hm => by have := (o4.lt k hk).1; have := H3.out.disk.lt (hm.elim id False.elim); omega)); clear b4 o4)
                | (go_at_call 18; refine (open_no H4.out HFL.out HOP.out (by decide)).mono ?_; rintro e w5 ⟨rfl, q5, F5, G5, j5, h5⟩; have H5 := Lib.hid h5; have Y5 := Lib.hid (h5.rd Y4.out); clear h5)
                | (go_at_call 19; refine (varint_Get _ _ _ _ Y5.out).mono ?_; intro e w6 hr6; rw [HVG.out] at hr6; obtain ⟨⟨n6, hw6⟩, v6, rfl, h6⟩ := hr6; obtain ⟨A6, c6, rfl, _, _⟩ := h6.len; have H6 := Lib.hid (H5.out.below (w2 := w6) (by rw [hw6]; exact bel_drewN (Below.refl _ _) _)); clear hw6 h6)
                | (go_at_call 11; refine (number_hit 11 _ (HGA.out.of H6.out.bel hposA)).mono ?_; rintro e w7 ⟨rfl, u7⟩; have H7 := Lib.hid (H6.out.new u7); clear u7))
              go_ret
              exact ⟨rfl, HBA.out.trans (H7.out.bel.mono hsA)⟩
            · simp only [hvg, ne_eq, not_true_eq_false, if_false, ht] at hop
              have HVG := Lib.hid hvg
              have HOP := Lib.hid hop
              clear hfo hop hvg
              go_wp2_with (first
                | (go_at_call 10; refine (dd_Append HX.out.dd HX.out.rd (by omega) HAP.out errV_0).mono ?_; rintro e w3 ⟨rfl, F3, h3, f3, u3⟩; have H3 := Lib.hid h3; have X3 := Lib.hid (HX.out.rd.upd u3 (M' := fun k => wx.heap.size ≤ k ∧ False) (fun _ h => .inl h) (fun _ h => h.2.elim)); clear h3 u3)
                | (go_at_call 17; refine (frame_One _ _ _ _ X3.out).mono ?_; rintro e w4 ⟨b4, he⟩; rw [HFO.out] at he; obtain ⟨v4, rfl, o4⟩ := he; obtain ⟨A4, c4, rfl⟩ := own_form o4; have H4 := Lib.hid (H3.out.below b4); have Y4 := Lib.hid (RdB.of_own (M := fun k => F3 k ∨ False) o4 (fun k hk hm => by have := (o4.lt k hk).1; have := H3.out.disk.lt (hm.elim id False.elim); omega)); clear b4 o4)
                | (go_at_call 18; refine (open_ok H4.out HFL.out HOP.out).mono ?_; rintro e w5 ⟨q5, F5, G5, rfl, h5⟩; have H5 := Lib.hid h5; have Y5 := Lib.hid (h5.rd Y4.out); clear h5)
                | (go_at_call 19; refine (varint_Get _ _ _ _ Y5.out).mono ?_; intro e w6 hr6; rw [HVG.out] at hr6; obtain ⟨⟨n6, hw6⟩, v6, rfl, h6⟩ := hr6; obtain ⟨A6, c6, rfl, _, _⟩ := h6.len; have hb6 : Below w5.heap.size w5 w6 := (by rw [hw6]; exact bel_drewN (Below.refl _ _) _); have H6 := Lib.hid (H5.out.below hb6); have hsb : (convert 22 9 (.slice A6 lf.length c6)).run Tryd.prog w6 = .ok (.string (strB lf)) w6 := RdB.str (RdC.below h6 hb6); clear hw6 h6)
                | (go_at_call 20; refine (lc_Shows (M := fun _ => False) H6.out.jj (by simp) (RdC.nil _ _ _) rfl).mono ?_; rintro e w7 ⟨rfl, h7, _⟩; have H7 := Lib.hid h7; clear h7))
              go_ret
              exact ⟨rfl, HBA.out.trans (H7.out.dd.bel.mono hsA)⟩
        · simp only [ne_eq, hn, not_false_eq_true, if_true] at hop
          have hni : ¬ ((n : Int) = (x.length : Int)) := by omega
          have HOP := Lib.hid hop
          clear hfo hop
          go_wp2_with (first
            | (go_at_call 10; refine (dd_Append HX.out.dd HX.out.rd (by omega) HAP.out errV_0).mono ?_; rintro e w3 ⟨rfl, F3, h3, f3, u3⟩; have H3 := Lib.hid h3; have X3 := Lib.hid (HX.out.rd.upd u3 (M' := fun k => wx.heap.size ≤ k ∧ False) (fun _ h => .inl h) (fun _ h => h.2.elim)); clear h3 u3)
            | (go_at_call 17; refine (frame_One _ _ _ _ X3.out).mono ?_; rintro e w4 ⟨b4, he⟩; rw [HFO.out] at he; obtain ⟨v4, rfl, o4⟩ := he; have H4 := Lib.hid (H3.out.below b4); clear b4 o4)
            | (go_at_call 18; refine (open_no H4.out HFL.out HOP.out (by decide)).mono ?_; rintro e w5 ⟨rfl, q5, F5, G5, j5, h5⟩; have H5 := Lib.hid h5; clear h5)
            | (go_at_call 11; refine (number_hit 11 _ (HGA.out.of H5.out.bel hposA)).mono ?_; rintro e w6 ⟨rfl, u6⟩; have H6 := Lib.hid (H5.out.new u6); clear u6))
          go_ret
          exact ⟨rfl, HBA.out.trans (H6.out.bel.mono hsA)⟩
end Go.Proofs.YtihncdlbbhmglaaDoor


namespace Go.Proofs.YtihncdlbbhmglaaDoor
open Go.ChangeShapes Go.WideShapes Go.ChangeAt Go.RowKit

set_option maxRecDepth 100000 in
theorem journalForm_lifted (os : Os) (started : os.Started) (H : Type) (enc : TypeId × Value → H) :
    ReturnsInHanded {} Tryd.checked os 4 .any (fun w args => (Rows.journalFormSpec.pre enc Tryd.prog Tryd.f4 [] false w args ∧ laidMetH Tryd.prog [("errors.errorType", Rows.laid_errors_errorType)] w) ∧ sizedMet enc Tryd.prog Tryd.f4 (OpenSpec.ofChange Rows.journalFormSpec) false w args)
      (Rows.journalFormSpec.post enc Tryd.prog Tryd.f4 false true false false) := by
  refine returnsInHanded_of_change_and (C := Tryd.checked) (X := fun w _ => laidMetH Tryd.prog [("errors.errorType", Rows.laid_errors_errorType)] w) (fun _ _ _ hh h => h.of_heap hh) own started (by kernel_rfl) Tryd.func4
    (ChangeSpec.witness_at (enc := enc) (C := Tryd.checked) (os := os) (X := fun w _ => laidMetH Tryd.prog [("errors.errorType", Rows.laid_errors_errorType)] w) false (laidWorld os) #[.slice none 0 0, .int .i64 0, .slice none 0 0, .bool false] 8 rfl (by kernel_rfl) (by kernel_rfl) (by kernel_rfl) (by kernel_rfl) (by kernel_rfl) (laidWorld_met os _)) ?_
  intro W base args ds gs before hval0 hW _ hsz0 hL _
  have hval : ∀ (j : Nat) t v, Tryd.f4.params[j]? = some t → args[j]? = some v → Value.okWide Tryd.prog W .any base t v := hval0
  have hsz : (DataW.weightsEach Tryd.prog (Tryd.f4.params.toList ++ Rows.journalFormSpec.plain.varTypes Tryd.prog) (ds ++ gs)).all (· ≤ reachBytes) = true := hsz0
  have hW' := hW
  obtain ⟨p, q, hA0, hV, rfl, hfz, hnd⟩ := hW
  have hA : DataW.TrodAll enc Tryd.prog W 0 (fun _ => true) true Tryd.f4.params.toList args.toList ds p := hA0
  rw [Tryd.params4] at hA hval hsz
  obtain ⟨v0, v1, v2, v3, d0, d1, d2, d3, p0, p1, p2, p3, rfl, rfl, rfl, h0, h1, h2, h3⟩ := trodAll_four hA
  obtain ⟨rfl, rfl⟩ := trodVars_none hV
  have lt0 : ∀ x ∈ p0, x.block < W.heap.size := by obtain ⟨m, hm⟩ := h0; exact DataW.trod_lt m _ _ _ hm
  obtain ⟨b0, hb0, bl0⟩ := argB (hval 0 22 v0 rfl rfl) h0 (fun elems spare hd => sized_slice hsz (j := 0) (t := 22) (e := 5) rfl (by rw [hd]; rfl) Tryd.underlying22)
  obtain ⟨a1, rfl, rfl, rfl, w1⟩ := open_int Tryd.underlying3 (hval 1 3 v1 rfl rfl) h1
  have lt2 : ∀ x ∈ p2, x.block < W.heap.size := by obtain ⟨m, hm⟩ := h2; exact DataW.trod_lt m _ _ _ hm
  obtain ⟨b2, hb2, bl2⟩ := argB (hval 2 22 v2 rfl rfl) h2 (fun elems spare hd => sized_slice hsz (j := 2) (t := 22) (e := 5) rfl (by rw [hd]; rfl) Tryd.underlying22)
  obtain ⟨a3, rfl, rfl, rfl⟩ := open_bool Tryd.underlying4 (hval 3 4 v3 rfl rfl) h3
  have hg := errT_of_laid hL
  clear hA0 hval0 hsz0
  have bd1 := bounds_i64 w1
  have wk := journalForm_walk v0 b0 a1 v2 b2 a3 W hb0 bd1.1 bd1.2 hb2 hg
  refine wk.mono fun e W' ⟨he, bel⟩ => ?_
  subst he
  exact ⟨_, rfl, _, _, _, [], _, [], hW', trodAll_mk1 (shut_bool Tryd.underlying4 _), (trodAll_cons_mk (Below.trod laidOut (by kernel_rfl) (of_decide_eq_true (by kernel_rfl)) h0 bel lt0) (trodAll_cons_mk (shut_int Tryd.underlying3 w1) (trodAll_cons_mk (Below.trod laidOut (by kernel_rfl) (of_decide_eq_true (by kernel_rfl)) h2 bel lt2) (trodAll_cons_mk (shut_bool Tryd.underlying4 _) trodAll_mk0)))), rfl, bel.frame _, fun h => by cases h⟩
theorem journalForm_said : Rows.JournalFormSaid :=
  OpenClaim.holds_of_wide 4 Tryd.f4 rfl rfl rfl rfl rfl rfl rfl ⟨rfl, rfl, rfl, rfl, rfl⟩ rfl rfl rfl rfl rfl (by kernel_rfl) Tryd.func4 (by kernel_rfl)
    (of_decide_eq_true (by kernel_rfl)) (by unfold Func.isWrapper; rw [if_neg (of_decide_eq_false (by kernel_rfl))]; exact ⟨rfl, rfl⟩)
    (fun os started H enc _ => journalForm_lifted os started H enc)
theorem journalForm_holds : Rows.JournalFormCardSaid :=
  Claim7.holds_tied_plain_at .later [] [.handle] true (true, "1a8187ac55167dc82cdbe393873134255bf336f2d7630db256f2748c83fa5d63") true
    journalForm_said (fun _ h => by cases h) (by kernel_rfl) (fun _ h => by cases h) journalForm_row_tie rfl ⟨rfl, rfl⟩ (by kernel_rfl) rfl
    (fun f fn hf hfn => by
      obtain rfl : f = 4 := Option.some.inj ((show Tryd.prog.funcNamed "hawala/hawalalaw06.JournalForm" = some 4 by kernel_rfl).symm.trans hf) |>.symm
      obtain rfl : fn = Tryd.f4 := (Option.some.inj (Tryd.func4.symm.trans hfn)).symm
      exact ⟨by kernel_rfl, fun j t ht => by
        rw [Tryd.params4] at ht
        rcases j with _ | _ | _ | _ | j
        · obtain rfl : t = 22 := by simpa using ht.symm
          exact (show Tryd.prog.wantsStandIn 22 = false by kernel_rfl)
        · obtain rfl : t = 3 := by simpa using ht.symm
          exact (show Tryd.prog.wantsStandIn 3 = false by kernel_rfl)
        · obtain rfl : t = 22 := by simpa using ht.symm
          exact (show Tryd.prog.wantsStandIn 22 = false by kernel_rfl)
        · obtain rfl : t = 4 := by simpa using ht.symm
          exact (show Tryd.prog.wantsStandIn 4 = false by kernel_rfl)
        · simp at ht⟩)
    (by kernel_rfl)
#print axioms journalForm_holds
end Go.Proofs.YtihncdlbbhmglaaDoor
