/- PROVED HERE: hawalalaw06.JournalTorn returns true for every input, and each argument reads behind the call as it read before; no condition beyond the statement's own cells. -/
import Derived.WalkKit
import Derived.ProofKit
import Derived.OpenShut
import Derived.ShutString
import Derived.ChangeOld
import Derived.Below
import Derived.Test.YtihncdlbbhmglaaQ3
import Derived.Test.YtihncdlbbhmglaaQ4
import Derived.Test.YtihncdlbbhmglaaRows
set_option linter.unusedVariables false
set_option linter.unusedSimpArgs false
/- hawalalaw06.JournalTorn: the walk. -/
namespace Go.Proofs.Ytihncdlbbhmglaa
open Go.RowKit

theorem few_half {M : Nat → Prop} {w : World} {b : Hw.Bytes} {A : Option Addr} {m c : Nat} (h : RdB M w (.slice A b.length c) b) (hm : m = min b.length 500) : RdB M w (.slice A m c) (b.take 500) := h.to500 hm
structure FewAt (W : World) (rs : List Hw.Bytes) (s0 : Value) (us : List Value) (wx : World) : Prop where
  row : RdC (fun k => wx.heap.size ≤ k) wx 1 s0 (Hw.few rs).length us
  rows : RdRows (fun k => W.heap.size ≤ k) wx us (Hw.few rs)
  bel : Below W.heap.size W wx
theorem FewAt.of {W w1 wA : World} {rs : List Hw.Bytes} {v : Value} {us : List Value} (h1 : Below W.heap.size W w1) (o : wA.ownsRow w1.heap.size 23 1 v (Hw.few rs).length us) (r : RdRows (fun k => W.heap.size ≤ k) wA us (Hw.few rs)) (b : Below w1.heap.size w1 wA) : FewAt W rs v us wA :=
  ⟨RdC.of_own o (fun k hk hm => by have := own_lt o hk; omega), r, h1.trans (b.mono h1.size)⟩
theorem FewAt.drew {W wx : World} {rs : List Hw.Bytes} {v : Value} {us : List Value} (h : FewAt W rs v us wx) : FewAt W rs v us wx.drew :=
  ⟨h.row.upd (F := fun _ => False) (Upd.refl _ wx).drew (fun _ h => h.elim) (fun _ h => .inl h), h.rows.upd (F := fun _ => False) (Upd.refl _ wx).drew (fun _ h => h.elim) (fun _ h => .inl h), h.bel.drew⟩
/-- Blocks beside those from B1 to B2. -/
def Out (B1 B2 : Nat) (F : Nat → Prop) : Prop := ∀ b, F b → b < B1 ∨ B2 ≤ b
theorem Out.no (B1 B2 : Nat) : Out B1 B2 (fun _ => False) := fun _ h => h.elim
theorem JS.out {B : Nat} {w0 w w' : World} {p q : Nat} {d : Hw.HDisk} {F G F' G' : Nat → Prop} {j : Hw.HJ} {B1 B2 : Nat} (h : JS B w0 p q F G w d j w' F' G') (hF : Out B1 B2 F) (hG : Out B1 B2 G) (hs : B2 ≤ w.heap.size) : Out B1 B2 F' ∧ Out B1 B2 G' := by
  refine ⟨fun b hb => ?_, fun b hb => ?_⟩
  · rcases h.f b hb with e | e
    · exact hF b e
    · exact .inr (by omega)
  · rcases h.g b hb with e | e
    · exact hG b e
    · exact .inr (by omega)
theorem OwnStrs.keep {B1 B2 : Nat} {w w' : World} {v : Value} {rs : List Hw.Bytes} {F G : Nat → Prop} (h : OwnStrs B1 w v rs) (hlt : ∀ k, v.ownBlock = some k → k < B2) (u : Upd (fun b => F b ∨ G b) w w') (hF : Out B1 B2 F) (hG : Out B1 B2 G) : OwnStrs B1 w' v rs :=
  own_upd h u (fun k hk hm => by
    have h1 := (h.lt k hk).1
    have h2 := hlt k hk
    rcases hm with e | e
    · rcases hF k e with h | h <;> omega
    · rcases hG k e with h | h <;> omega)
theorem OwnStrs.rd {B1 : Nat} {w : World} {v : Value} {rs : List Hw.Bytes} (h : OwnStrs B1 w v rs) : RdC (fun _ => False) w 1 v rs.length (strs rs) := RdC.of_own h (fun _ _ h => h)
/-- An owned slice of strings beside a disk and a journal. -/
structure Keep (B1 B2 : Nat) (w : World) (v : Value) (rs : List Hw.Bytes) (F G : Nat → Prop) : Prop where
  own : OwnStrs B1 w v rs
  lt : ∀ k, v.ownBlock = some k → k < B2
  f : Out B1 B2 F
  g : Out B1 B2 G
  sz : B2 ≤ w.heap.size
theorem Keep.js {B1 B2 : Nat} {w w' : World} {v : Value} {rs : List Hw.Bytes} {F G F' G' : Nat → Prop} {B : Nat} {w0 : World} {p q : Nat} {d : Hw.HDisk} {j : Hw.HJ} (h : Keep B1 B2 w v rs F G) (k : JS B w0 p q F G w d j w' F' G') : Keep B1 B2 w' v rs F' G' :=
  ⟨h.own.keep h.lt k.u h.f h.g, h.lt, (k.out h.f h.g h.sz).1, (k.out h.f h.g h.sz).2, Nat.le_trans h.sz k.u.size⟩
theorem Keep.below {B1 B2 : Nat} {w w' : World} {v : Value} {rs : List Hw.Bytes} {F G : Nat → Prop} (h : Keep B1 B2 w v rs F G) (hb : Below w.heap.size w w') : Keep B1 B2 w' v rs F G := ⟨h.own.below hb, h.lt, h.f, h.g, Nat.le_trans h.sz hb.size⟩
theorem Keep.noG {B1 B2 : Nat} {w : World} {v : Value} {rs : List Hw.Bytes} {F G : Nat → Prop} (h : Keep B1 B2 w v rs F G) : Keep B1 B2 w v rs F (fun _ => False) := ⟨h.own, h.lt, h.f, Out.no _ _, h.sz⟩
theorem JJ.grown {B B1 B2 : Nat} {w0 w w' : World} {p q : Nat} {d : Hw.HDisk} {F G : Nat → Prop} {j : Hw.HJ} {v : Value} {rs : List Hw.Bytes} (h : JJ B w0 w p d F q j G) (k : Keep B1 B2 w v rs F G) (hB : B ≤ B1) (g : w.grownBy w' v.ownBlock) : JJ B w0 w' p d F q j G :=
  h.upd (Upd.of_grown g) (fun b hb => by
    have h1 := (k.own.lt b hb).1
    have h2 := k.lt b hb
    refine ⟨by omega, fun hf => ?_, fun hg => ?_⟩
    · rcases k.f b hf with e | e <;> omega
    · rcases k.g b hg with e | e <;> omega)
theorem RdRows.below {M : Nat → Prop} {w w' : World} {us : List Value} {rs : List Hw.Bytes} {B : Nat} (h : RdRows M w us rs) (hb : Below B w w') (hM : ∀ b, B ≤ b → M b) : RdRows M w' us rs :=
  h.upd (F := fun b => B ≤ b) ⟨hb.os, hb.tape, hb.output, hb.size, fun k _ hk => hb.block k (by omega)⟩ (fun n hn => .inl (hM n hn)) (fun _ h => .inl h)
set_option maxRecDepth 100000 in
set_option maxHeartbeats 4000000 in
theorem journalTorn_walk (v0 : Value) (rs : List Hw.Bytes) (us : List Value) (v1 : Value) (tl : Hw.Bytes) (v2 : Value) (mo : Hw.Bytes) (W : World) (hr : RdC (fun k => W.heap.size ≤ k) W 1 v0 rs.length us) (hrr : RdRows (fun k => W.heap.size ≤ k) W us rs)
    (hb1 : RdB (fun k => W.heap.size ≤ k) W v1 tl) (hb2 : RdB (fun k => W.heap.size ≤ k) W v2 mo) :
    Calls Try.prog 3 #[v0, v1, v2] W (TrueRet W) := by
  obtain ⟨i0, hi, hy0, hy1, hy2⟩ := info_parts strrow
  obtain ⟨A1, c1, rfl, l1, l1'⟩ := hb1.len
  obtain ⟨A2, c2, rfl, l2, l2'⟩ := hb2.len
  unfold maxLen at l1' l2'
  obtain ⟨m1, hm1⟩ : ∃ m : Nat, m = min tl.length 500 := ⟨_, rfl⟩
  have hmi1 : min (tl.length : Int) 500 = (m1 : Int) := by omega
  have hm1a : (0 : Int) ≤ (m1 : Int) := by omega
  have hm1b : (m1 : Int) ≤ (c1 : Int) := by omega
  have hm1c : m1 ≤ 500 := by omega
  obtain ⟨m2, hm2⟩ : ∃ m : Nat, m = min mo.length 500 := ⟨_, rfl⟩
  have hmi2 : min (mo.length : Int) 500 = (m2 : Int) := by omega
  have hm2a : (0 : Int) ≤ (m2 : Int) := by omega
  have hm2b : (m2 : Int) ≤ (c2 : Int) := by omega
  have hm2c : m2 ≤ 500 := by omega
  have HT := Lib.hid (hb1.to500 hm1)
  have HM := Lib.hid (hb2.to500 hm2)
  have HR := Lib.hid (And.intro hr hrr)
  have HL1 := Lib.hid (show (tl.take 500).length = m1 by rw [List.length_take]; omega)
  have HL2 := Lib.hid (show (mo.take 500).length = m2 by rw [List.length_take]; omega)
  clear hb1 hb2 hr hrr hm1 hm2
  go_enter Try.func3, Try.ntmps3
  go_upto_region 3 with ((go_at_call 5; refine (awake06 _).mono ?_; rintro e w1 ⟨rfl, hb1⟩; have hz1 := hb1))
  go_cut [0, 1, 2] (fun s0 s1 s2 wx => s1 = .slice A1 m1 c1 ∧ s2 = .slice A2 m2 c2 ∧ ∃ (ux : List Value) (wx' : World), wx' = wx ∧ FewAt W rs s0 ux wx')
  case first =>
    go_region_held3 (fun w' => Below W.heap.size W w')
      (first | exact hz1.drew | exact hz2)
      ((go_at_call 6; refine (few_walk (M := fun k => W.heap.size ≤ k) (RdC.below HR.out.1 (by first | exact hz1 | exact hz1.drew)) (HR.out.2.upd (Upd.of_below (F := fun _ => False) (by first | exact hz1 | exact hz1.drew)) (fun _ h => h.elim) (fun _ h => .inl h)) (fun b hb => Nat.le_trans (by first | exact hz1.size | exact hz1.drew.size) hb)).mono ?_; rintro e wA ⟨vA, uA, rfl, oA, rA, bA⟩; have hz2 : Below W.heap.size W wA := (by first | exact hz1.trans (bA.mono hz1.size) | exact hz1.drew.trans (bA.mono hz1.drew.size)); have hfa : FewAt W rs vA uA wA := (by first | exact FewAt.of hz1 oA rA bA | exact FewAt.of hz1.drew oA rA bA)))
    all_goals
      go_wp2_with fail
      go_meet
      first | exact ⟨rfl, rfl, _, _, rfl, hfa⟩ | exact ⟨rfl, rfl, _, _, rfl, hfa.drew⟩
  case rest =>
    obtain ⟨rfl, rfl, uA, wA, rfl, hfa⟩ := hcut
    obtain ⟨A0, c0, rfl, k0, k0'⟩ := hfa.row.len
    unfold maxLen at k0'
    have hsA := hfa.bel.size
    have HV := Lib.hid (And.intro hfa.row (hfa.rows.mono (M' := fun k => wA.heap.size ≤ k) (fun k hk => Nat.le_trans hsA hk)))
    have HTA := Lib.hid (RdC.mono (M' := fun k => wA.heap.size ≤ k) (RdC.below HT.out hfa.bel) (fun k hk => Nat.le_trans hsA hk))
    have HMA := Lib.hid (RdC.mono (M' := fun k => wA.heap.size ≤ k) (RdC.below HM.out hfa.bel) (fun k hk => Nat.le_trans hsA hk))
    have HBA := Lib.hid hfa.bel
    have hfl := Hw.few_len rs
    have hff := Hw.few_frames rs
    have HFE := Lib.hid (fun (r : Hw.Bytes) (hr : r ∈ Hw.few rs) => Nat.le_trans (Hw.few_each hr) (show 500 ≤ 16384 by decide))
    clear hfa
    generalize hfr : Hw.few rs = fs at *
    clear hfr
    go_wp2_with (first
      | (go_at_call 7; refine (disk_Of 262144 _).mono ?_; intro e w2 hr; obtain ⟨p, F, rfl, h2, hb2⟩ := DD.of (Below.refl _ _) hr; clear hr; have H2 := Lib.hid h2; clear h2; clear hb2)
      | (go_at_call 8; refine (lc_Open H2.out (Hw.JC.new 262144) rfl).mono ?_; rintro e w3 ⟨q, d3, F3, G3, rfl, h3, jc3, r3⟩; have H3 := Lib.hid h3.jj; have C3 := Lib.hid jc3; have R3 := Lib.hid r3; clear h3 jc3 r3))
    have hu3 : d3.used = 0 := by rw [C3.out.jd.used]; simp [Hw.snapLen, Hw.frames]
    have hR : d3.room = 262144 := by rw [R3.out]; rfl
    have HRU := Lib.hid (And.intro hR hu3)
    clear hR hu3
    go_wp2_with (go_at_call 9; refine (lc_Append (M := fun k => wA.heap.size ≤ k) H3.out C3.out HRU.out.1 (by simp) (RdC.below HV.out.1 H3.out.dd.bel) (HV.out.2.below H3.out.dd.bel (fun _ h => h)) (fun b hb => hb.elim (H3.out.dd.own b) (H3.out.own b)) (by omega) HFE.out (by rw [HRU.out.2]; omega)).mono ?_; rintro e w4 ⟨rfl, d4, F4, G4, h4, jc4, r4⟩; rw [List.nil_append] at h4 jc4; have H4 := Lib.hid h4.jj; have C4 := Lib.hid jc4; have R4 := Lib.hid r4; clear h4 jc4 r4)
    have hu4 : d4.used = (Hw.frames fs).length := by rw [C4.out.jd.used]; simp [Hw.snapLen]
    have HU4 := Lib.hid hu4; clear hu4
    have hT4 := RdC.below HTA.out H4.out.dd.bel
    have HT4 := Lib.hid hT4
    have C := frame_One _ _ (tl.take 500) _ hT4
    clear hT4
    cases hf : Hw.frameOne (tl.take 500) with
    | some y =>
      obtain ⟨y, n⟩ := y
      rw [hf] at C
      have HC := Lib.hid C; clear C hf
      go_wp2_with (go_at_call 10; refine HC.out.mono ?_; rintro e w5 ⟨hb5, v5, rfl, o5⟩; have H5 := Lib.hid (H4.out.below hb5); clear hb5 o5)
      go_ret
      exact ⟨rfl, HBA.out.trans (H5.out.dd.bel.mono hsA)⟩
    | none =>
      rw [hf] at C
      have HC := Lib.hid C; clear C
      obtain ⟨d5, d6, ha5, ho6, jc6, hr6⟩ := C4.out.torn hf (by rw [R4.out, HU4.out, HL1.out]; omega)
      rw [show (2 : Int) + 0 = 2 from rfl] at ha5
      have HA5 := Lib.hid ha5
      have HO6 := Lib.hid ho6
      have C6 := Lib.hid jc6
      have R6 := Lib.hid (hr6.trans R4.out)
      have hfl5 : d5.files.length ≤ 1000 := by
        have h1 := Hw.append_files d4 2 (tl.take 500)
        have h2 := C4.out.jd.files_le
        rw [HA5.out] at h1; simp only at h1; omega
      clear hf ha5 ho6 jc6 hr6
      go_wp2_with (first
        | (go_at_call 10; refine HC.out.mono ?_; rintro e w5 ⟨hb5, rfl⟩; have H5 := Lib.hid (H4.out.below hb5); have HT5 := Lib.hid (jj_rdb (H4.out.below hb5) (RdC.mono (M' := fun k => wA.heap.size ≤ k) (RdC.below HT4.out hb5) (fun _ h => h))); clear hb5)
        | (go_at_call 11; refine (dd_Append H5.out.dd (RdC.mono HT5.out (fun k hk => .inl hk)) (by rw [HL1.out]; omega) HA5.out errV_0).mono ?_; rintro e w6 ⟨rfl, F6, h6, _, _⟩; have H6 := Lib.hid h6; clear h6))
      have hs6 := H6.out.size
      have HV6 := Lib.hid (RdC.below HV.out.1 H6.out.bel)
      have HR6 := Lib.hid (HV.out.2.below H6.out.bel (fun _ h => h))
      go_loopw [13, 68] (fun t13 t68 wr => ∃ (k : Nat) (wr' : World), wr' = wr ∧ k ≤ fs.length ∧ t68 = .int .i64 k ∧ Below w6.heap.size w6 wr' ∧ OwnStrs w6.heap.size wr' t13 (fs.take k)) (fun _ k _ => (fs.length - intOf k).toNat)
      case atStart => exact ⟨0, _, rfl, by omega, rfl, Below.refl _ _, OwnStrs.nil _ _⟩
      case round =>
        obtain ⟨k, wr, rfl, hk, rfl, hbr, hos⟩ := hrel
        by_cases hlt : k < fs.length
        · obtain ⟨x, hx⟩ : ∃ x, fs[k]? = some x := ⟨fs[k], List.getElem?_eq_getElem hlt⟩
          have hr4 := HR6.out.below hbr (fun b hb => Nat.le_trans hs6 hb)
          obtain ⟨u, hu, hux⟩ := hr4.get hx
          obtain ⟨A3, c3, rfl, m1, m2⟩ := hux.len
          obtain ⟨b1, o1, c1', hva, _, _, _, _, hbl, g4⟩ := (RdC.below HV6.out hbr).at (by omega)
          cases hva
          have hc1 := g4 k _ hu
          have hs0 := hux.str
          have hlk : (fs.take k).length = k := by rw [List.length_take]; omega
          have HLK := Lib.hid hlk
          have hsz := hbr.size
          have HB := Lib.hid hbr
          have HXR := Lib.hid hx
          have HOS := Lib.hid hos
          clear hbr hx g4 hu hux hr4 hbl m1 m2 hos hlk
          go_wp2_with (at_builtin; refine wpAppend _ rfl _ _ 37 rfl w6.heap.size 9 i0 (.string ⟨#[]⟩) 1 16 strslice hi hy0 hy1 hy2 rfl (by decide) _ _ _ rfl (HOS.out.alloc _) (fun _ => False) _ 1 _ rfl (RdC.made _ 1 1 #[.string (strB x)] _ rfl (by decide) (fun h => h)) ?_ ?_ ?_ ?_ ?_)
          · simp [Value.oneCell']
          · rw [HLK.out]; unfold maxLen; omega
          · rw [HLK.out]; omega
          · simp; omega
          · intro v6 w7 o7 g7 a7
            have hb7 : Below w6.heap.size w6 w7 := (HB.out.trans ((below_new wr _).mono hsz)).grown g7 (by simp; omega) (fun b hb => (HOS.out.lt b hb).1)
            have HN := Lib.hid (And.intro hb7 (show OwnStrs w6.heap.size w7 v6 (fs.take (k + 1)) by rw [take_snoc' fs k x HXR.out]; exact OwnStrs.snoc (by first | exact o7 | (rw [HLK.out]; exact o7))))
            clear o7 g7 a7 hb7
            go_wp2_with fail
            go_roundw
            case rel => exact ⟨k + 1, _, rfl, by omega, by go_num, HN.out.1, HN.out.2⟩
            case measure => simp [intOf]; omega
        · have hk' : k = fs.length := by omega
          subst hk'
          rw [List.take_length] at hos
          obtain ⟨A9, c9, rfl⟩ := hos.form
          have HOS := Lib.hid hos
          have HB := Lib.hid hbr
          have H9 := Lib.hid (H6.out.below hbr)
          have hsz := hbr.size
          clear hos hbr
          have HK := Lib.hid (Keep.mk HOS.out (fun k hk => own_lt HOS.out hk) (fun b hb => .inl (H6.out.disk.lt hb)) (Out.no w6.heap.size wr.heap.size) (Nat.le_refl _))
          go_wp2_with (first
            | (go_at_call 8; refine (open_ok H9.out hfl5 HO6.out).mono ?_; rintro e w10 ⟨q2, F10, G10, rfl, h10⟩; have H10 := Lib.hid h10.jj; have HK10 := Lib.hid (HK.out.js h10); clear h10)
            | (go_at_call 12; refine (lc_Shows H10.out (by omega) HK10.out.own.rd rfl).mono ?_; rintro e w11 ⟨rfl, h11, hb11⟩; have H11 := Lib.hid h11; have HK11 := Lib.hid ((HK10.out.below hb11).below (below_new w11 (.cells #[.slice A2 m2 c2] 23))); have hrow := row_one (fun k => F10 k ∨ G10 k) w11 (.slice A2 m2 c2) (mo.take 500) 23 (jj_rdb h11 (RdC.below HMA.out h11.dd.bel)) (h11.not (Nat.le_refl _)); have HROW := Lib.hid hrow; clear h11 hb11 hrow))
          have hroom : d6.used + (Hw.frames [mo.take 500]).length ≤ 262144 := by
            rw [C6.out.jd.used]
            have e1 := HL2.out
            simp only [Hw.snapLen, if_true, Hw.frames, List.flatMap_cons, List.flatMap_nil, List.length_append, Hw.frameOf_length, List.length_nil, e1]
            simp only [Hw.frames] at hff; omega
          have HRM := Lib.hid (And.intro hroom (show d6.room = 262144 from R6.out.trans rfl))
          clear hroom
          go_wp2_with (first
            | (go_at_call 9; refine (lc_Append (H11.out.al _) C6.out HRM.out.2 (by omega) HROW.out.1 HROW.out.2 (fun _ h => h) (by simp) (by intro r hr; rw [List.mem_singleton.1 hr, HL2.out]; omega) HRM.out.1).mono ?_; rintro e w12 ⟨rfl, d12, F12, G12, h12, jc12, r12⟩; have H12 := Lib.hid h12.jj; have HK12 := Lib.hid (HK11.out.js h12); have C12 := Lib.hid jc12; have R12 := Lib.hid r12; clear h12 jc12 r12)
            | (go_at_call 8; refine (lc_Open H12.out.dd C12.out R12.out).mono ?_; rintro e w13 ⟨q3, d13, F13, G13, rfl, h13, jc13, r13⟩; have H13 := Lib.hid h13.jj; have HK13 := Lib.hid ((HK12.out.noG.js h13)); have hsm : (convert 23 9 (.slice A2 m2 c2)).run Try.prog w13 = .ok (.string (strB (mo.take 500))) w13 := RdB.str (M := fun k => wA.heap.size ≤ k) (RdC.below HMA.out h13.jj.dd.bel); have HKA := Lib.hid (HK13.out.below (below_new w13 (.cells #[.string (strB (mo.take 500))] 9))); clear h13 jc13 r13)
            | (at_builtin; refine wpAppendG _ (by rfl) _ _ 37 rfl w6.heap.size 9 i0 (.string ⟨#[]⟩) 1 16 strslice hi hy0 hy1 hy2 rfl (by decide) _ _ _ rfl HKA.out.own (fun _ => False) _ 1 _ rfl (RdC.made _ 1 1 #[.string (strB (mo.take 500))] _ rfl (by decide) (fun h => h)) ?_ ?_ ?_ ?_ ?_))
          · simp [Value.oneCell']
          · unfold maxLen; omega
          · omega
          · have := HK13.out.sz; simp; omega
          · intro v14 w14 o14 g14 a14
            have h14 := (H13.out.al (.cells #[.string (strB (mo.take 500))] 9)).grown HKA.out hs6 g14
            have H14 := Lib.hid h14
            have HO14 := Lib.hid (OwnStrs.snoc o14)
            obtain ⟨A14, c14, rfl⟩ := own_form o14
            clear o14 g14 a14 h14
            go_wp2_with (go_at_call 12; refine (lc_Shows H14.out (by simp; omega) HO14.out.rd rfl).mono ?_; rintro e w15 ⟨rfl, h15, _⟩; have H15 := Lib.hid h15; clear h15)
            go_ret
            exact ⟨rfl, HBA.out.trans (H15.out.dd.bel.mono hsA)⟩
end Go.Proofs.Ytihncdlbbhmglaa


namespace Go.Proofs.Ytihncdlbbhmglaa
open Go.ChangeShapes Go.WideShapes Go.ChangeAt Go.RowKit

theorem journalTorn_own : ownKnob Try.prog.godebug = none := by kernel_rfl
theorem journalTorn_laidOut : laidOutB Try.prog = true := by kernel_rfl
set_option maxRecDepth 100000 in
theorem journalTorn_lifted (os : Os) (started : os.Started) (H : Type) (enc : TypeId × Value → H) :
    ReturnsInHanded {} Try.checked os 3 .any (Rows.journalTornSpec.pre6 enc Try.prog Try.f3 Rows.journalTornRow.domain false) (Rows.journalTornSpec.post enc Try.prog Try.f3 false true false false) := by
  refine returnsInHanded_of_change (C := Try.checked) journalTorn_own started (by kernel_rfl) Try.func3
    (ChangeSpec.witness6 (enc := enc) (C := Try.checked) false ⟨#[], #[.slice none 0 0, .slice none 0 0, .slice none 0 0], []⟩ 8 (by kernel_rfl) (by kernel_rfl) (by kernel_rfl) (by kernel_rfl)) ?_
  intro W base args ds gs before hval0 hW hcnd _
  have hval : ∀ (j : Nat) t v, Try.f3.params[j]? = some t → args[j]? = some v → Value.okWide Try.prog W .any base t v := hval0
  have hW' := hW
  obtain ⟨p, q, hA0, hV, rfl, hfz, hnd⟩ := hW
  have hA : DataW.TrodAll enc Try.prog W 0 (fun _ => true) true Try.f3.params.toList args.toList ds p := hA0
  rw [Try.params3] at hA hval
  obtain ⟨v0, vs0, d0, ds0, p0, q0, hargs, rfl, rfl, h0, r0⟩ := trodAll_cons hA
  obtain ⟨v1, vs1, d1, ds1, p1, q1, rfl, rfl, rfl, h1, r1⟩ := trodAll_cons r0
  obtain ⟨v2, vs2, d2, ds2, p2, q2, rfl, rfl, rfl, h2, r2⟩ := trodAll_cons r1
  obtain ⟨rfl, rfl, rfl⟩ := trodAll_nil r2
  obtain rfl : args = #[v0, v1, v2] := by cases args; simp_all
  obtain ⟨rfl, rfl⟩ := trodVars_none hV
  have lt0 : ∀ x ∈ p0, x.block < W.heap.size := by obtain ⟨m, hm⟩ := h0; exact DataW.trod_lt m _ _ _ hm
  obtain ⟨rs0, us0, hr0, hrr0⟩ := argRows (hval 0 22 v0 rfl rfl) h0
  have lt1 : ∀ x ∈ p1, x.block < W.heap.size := by obtain ⟨m, hm⟩ := h1; exact DataW.trod_lt m _ _ _ hm
  obtain ⟨b1, hb1⟩ := argBytes (hval 1 23 v1 rfl rfl) h1
  have lt2 : ∀ x ∈ p2, x.block < W.heap.size := by obtain ⟨m, hm⟩ := h2; exact DataW.trod_lt m _ _ _ hm
  obtain ⟨b2, hb2⟩ := argBytes (hval 2 23 v2 rfl rfl) h2
  clear hA0 hval0
  have wk := journalTorn_walk v0 rs0 us0 v1 b1 v2 b2 W hr0 hrr0 hb1 hb2
  refine wk.mono fun e W' ⟨he, bel⟩ => ?_
  subst he
  exact ⟨_, rfl, _, _, _, [], _, [], hW', trodAll_mk1 (shut_bool Try.underlying4 _), (trodAll_cons_mk (Below.trod journalTorn_laidOut (by kernel_rfl) (of_decide_eq_true (by kernel_rfl)) h0 bel lt0) (trodAll_cons_mk (Below.trod journalTorn_laidOut (by kernel_rfl) (of_decide_eq_true (by kernel_rfl)) h1 bel lt1) (trodAll_cons_mk (Below.trod journalTorn_laidOut (by kernel_rfl) (of_decide_eq_true (by kernel_rfl)) h2 bel lt2) trodAll_mk0))), rfl, bel.frame _, fun h => by cases h⟩
theorem journalTorn_said : Rows.JournalTornSaid :=
  OpenClaim.holds_of_wide 3 Try.f3 rfl rfl rfl rfl rfl rfl rfl ⟨rfl, rfl, rfl, rfl, rfl⟩ rfl rfl rfl rfl rfl (by kernel_rfl) Try.func3 (by kernel_rfl)
    (of_decide_eq_true (by kernel_rfl)) (by unfold Func.isWrapper; rw [if_neg (of_decide_eq_false (by kernel_rfl))]; exact ⟨rfl, rfl⟩)
    (fun os started H enc _ => journalTorn_lifted os started H enc)
#print axioms journalTorn_said
end Go.Proofs.Ytihncdlbbhmglaa
