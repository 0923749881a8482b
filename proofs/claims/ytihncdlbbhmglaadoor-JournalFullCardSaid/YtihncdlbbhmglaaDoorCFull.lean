/- PROVED HERE: hawalalaw06.JournalFull returns true for every input, and each argument reads behind the call as it read before; no condition beyond the statement's own cells (errors.errorType is laid as the program's text lays it: the card ties it). -/
import Derived.Deep.CutBlock
import Derived.SevenTiedAt
import Derived.Test.YtihncdlbbhmglaaDoorQ5
import Derived.Test.YtihncdlbbhmglaaDoorQ4
import Derived.Test.YtihncdlbbhmglaaDoorCards
import Derived.Test.YtihncdlbbhmglaaDoorTie
set_option linter.unusedVariables false
set_option linter.unusedSimpArgs false
/- hawalalaw06.JournalFull: the walk. The door's seat. -/
namespace Go.Proofs.YtihncdlbbhmglaaDoor
open Go.RowKit

structure FewAt (W : World) (rs : List Hw.Bytes) (s0 : Value) (us : List Value) (wx : World) : Prop where
  row : RdC (fun k => wx.heap.size ≤ k) wx 1 s0 (Hw.few rs).length us
  rows : RdRows (fun k => W.heap.size ≤ k) wx us (Hw.few rs)
  bel : Below W.heap.size W wx
theorem FewAt.of {W w1 wA : World} {rs : List Hw.Bytes} {v : Value} {us : List Value} (h1 : Below W.heap.size W w1) (o : wA.ownsRow w1.heap.size 22 1 v (Hw.few rs).length us) (r : RdRows (fun k => W.heap.size ≤ k) wA us (Hw.few rs)) (b : Below w1.heap.size w1 wA) : FewAt W rs v us wA :=
  ⟨RdC.of_own o (fun k hk hm => by have := own_lt o hk; omega), r, h1.trans (b.mono h1.size)⟩
theorem FewAt.drew {W wx : World} {rs : List Hw.Bytes} {v : Value} {us : List Value} (h : FewAt W rs v us wx) : FewAt W rs v us wx.drew :=
  ⟨h.row.upd (F := fun _ => False) (Upd.refl _ wx).drew (fun _ h => h.elim) (fun _ h => .inl h), h.rows.upd (F := fun _ => False) (Upd.refl _ wx).drew (fun _ h => h.elim) (fun _ h => .inl h), h.bel.drew⟩
/-- Another journal has been opened: the one that was there is there still. -/
theorem JJ.reopen {B : Nat} {w0 w w' : World} {p q q2 : Nat} {d d' : Hw.HDisk} {F G F' G2 : Nat → Prop} {j j2 : Hw.HJ} (h : JJ B w0 w p d F q j G) (k : JS B w0 p q2 F (fun _ => False) w d' j2 w' F' G2) : JJ B w0 w' p d' F' q j G := by
  refine ⟨k.jj.dd, h.jat.upd k.u (fun b hb hm => hm.elim (fun hf => h.disj b hf hb) id), h.own, fun b hb hg => ?_⟩
  rcases k.f b hb with e | e
  · exact h.disj b e hg
  · have := h.jat.lt hg; omega
theorem KS.reopen {B1 B : Nat} {w0 w w' : World} {p q2 : Nat} {d' : Hw.HDisk} {F G F' G2 : Nat → Prop} {j2 : Hw.HJ} {v : Value} {rs : List Hw.Bytes} (h : KS B1 w v rs F G) (k : JS B w0 p q2 F (fun _ => False) w d' j2 w' F' G2) : KS B1 w' v rs F' G := by
  refine ⟨own_upd h.own k.u (fun n hn hm => hm.elim (h.no n hn).1 id), fun n hn => ⟨fun hf => ?_, (h.no n hn).2⟩⟩
  have := own_lt h.own hn
  rcases k.f n hf with e | e
  · exact (h.no n hn).1 e
  · omega
theorem num_any {k : Int} {r : Value} (hk : errV k = r) {w : World} (hg : ErrT w) : Calls Tryd.prog 11 #[r] w (NumRet k w) := hk ▸ api_Number k w hg
theorem full_app {d : Hw.HDisk} {t : Int} {b x : Hw.Bytes} {rs : List Hw.Bytes} {R : Nat} (h : Hw.JC d t b rs) (hR : d.room = R) (hx : x.length ≤ 500) :
    ∃ k1 r1 d1, Hw.HJ.append ⟨t, b, rs, false⟩ d [x] = (k1, ⟨t, b, r1, false⟩, d1) ∧ Hw.JC d1 t b r1 ∧ d1.room = R ∧ ((k1 = 0 ∧ r1 = rs ++ [x]) ∨ (k1 = 8 ∧ r1 = rs)) := by
  have hq : ∀ r ∈ [x], r.length ≤ 16384 := fun r hr => by rw [List.mem_singleton.1 hr]; omega
  by_cases hf : d.used + (Hw.frames [x]).length ≤ d.room
  · obtain ⟨d', h1, h2, h3⟩ := h.append hq hf
    exact ⟨0, _, d', h1, h2, h3.trans hR, .inl ⟨rfl, rfl⟩⟩
  · exact ⟨8, rs, d, h.append_full hq (by omega), h, hR, .inr ⟨rfl, rfl⟩⟩
theorem full_save {d : Hw.HDisk} {t : Int} {b c : Hw.Bytes} {rs : List Hw.Bytes} {R : Nat} (h : Hw.JC d t b rs) (hR : d.room = R) (ht : Hw.Small (t + 1)) (hc : c.length ≤ 500) :
    (∃ d1, Hw.HJ.save ⟨t, b, rs, false⟩ d c = (0, ⟨t + 1, c, [], false⟩, d1) ∧ Hw.JC d1 (t + 1) c [] ∧ d1.room = R) ∨ Hw.HJ.save ⟨t, b, rs, false⟩ d c = (8, ⟨t, b, rs, false⟩, d) := by
  have hl : (Hw.varPut (t + 1) ++ c).length ≤ 16384 := by have := Hw.varSmall ht; rw [List.length_append]; omega
  by_cases hf : d.used + (Hw.frameOf (Hw.varPut (t + 1) ++ c)).length ≤ d.room
  · obtain ⟨d', h1, h2, h3⟩ := h.save ht hl hf
    exact .inl ⟨d', h1, h2, h3.trans hR⟩
  · exact .inr (h.save_full hl (by omega))
structure FRel (wA : World) (p q R : Nat) (k : Nat) (s10 : Value) (t : Int) (b : Hw.Bytes) (rs : List Hw.Bytes) (d : Hw.HDisk) (F G : Nat → Prop) (wr : World) : Prop where
  jj : JJ wA.heap.size wA wr p d F q ⟨t, b, rs, false⟩ G
  ks : KS wA.heap.size wr s10 rs F G
  jc : Hw.JC d t b rs
  room : d.room = R
  t0 : 0 ≤ t
  t1 : t ≤ k
  lb : b.length ≤ 500
  lr : rs.length ≤ k
set_option maxRecDepth 100000 in
set_option maxHeartbeats 4000000 in
theorem journalFull_walk (R : Nat) (v0 : Value) (rs : List Hw.Bytes) (us : List Value) (v1 : Value) (bb : Hw.Bytes) (W : World) (hR : R ≤ 255) (hr : RdC (fun k => W.heap.size ≤ k) W 1 v0 rs.length us) (hrr : RdRows (fun k => W.heap.size ≤ k) W us rs)
    (hb : RdB (fun k => W.heap.size ≤ k) W v1 bb) (hg : ErrT W) :
    Calls Tryd.prog 5 #[.int .u8 R, v0, v1] W (TrueRet W) := by
  obtain ⟨i0, hi, hy0, hy1, hy2⟩ := info_parts strrow
  obtain ⟨A2, c2, rfl, l2, l2'⟩ := hb.len
  unfold maxLen at l2'
  have hpos := hg.pos
  obtain ⟨m2, hm2⟩ : ∃ m : Nat, m = min bb.length 500 := ⟨_, rfl⟩
  have hmi2 : min (bb.length : Int) 500 = (m2 : Int) := by omega
  have hm2a : (0 : Int) ≤ (m2 : Int) := by omega
  have hm2b : (m2 : Int) ≤ (c2 : Int) := by omega
  have hm2c : m2 ≤ 500 := by omega
  have HB := Lib.hid (hb.to500 hm2)
  have HR := Lib.hid (And.intro hr hrr)
  have HL2 := Lib.hid (show (bb.take 500).length = m2 by rw [List.length_take]; omega)
  have HG := Lib.hid hg
  clear hb hr hrr hm2 hg
  go_enter Tryd.func5, Tryd.ntmps5
  go_upto_region 3 with ((go_at_call 14; refine (awake06 _).mono ?_; rintro e w1 ⟨rfl, hb1⟩; have hz1 := hb1))
  go_cut [1, 2] (fun s1 s2 wx => s2 = .slice A2 m2 c2 ∧ ∃ (ux : List Value) (wx' : World), wx' = wx ∧ FewAt W rs s1 ux wx')
  case first =>
    go_region_held3 (fun w' => Below W.heap.size W w')
      (first | exact hz1.drew | exact hz2)
      ((go_at_call 21; refine (few_walk (M := fun k => W.heap.size ≤ k) (RdC.below HR.out.1 (by first | exact hz1 | exact hz1.drew)) (HR.out.2.upd (Upd.of_below (F := fun _ => False) (by first | exact hz1 | exact hz1.drew)) (fun _ h => h.elim) (fun _ h => .inl h)) (fun b hb => Nat.le_trans (by first | exact hz1.size | exact hz1.drew.size) hb)).mono ?_; rintro e wA ⟨vA, uA, rfl, oA, rA, bA⟩; have hz2 : Below W.heap.size W wA := (by first | exact hz1.trans (bA.mono hz1.size) | exact hz1.drew.trans (bA.mono hz1.drew.size)); have hfa : FewAt W rs vA uA wA := (by first | exact FewAt.of hz1 oA rA bA | exact FewAt.of hz1.drew oA rA bA)))
    all_goals
      go_wp2_with fail
      go_meet
      first | exact ⟨rfl, _, _, rfl, hfa⟩ | exact ⟨rfl, _, _, rfl, hfa.drew⟩
  case rest =>
    obtain ⟨rfl, uA, wA, rfl, hfa⟩ := hcut
    obtain ⟨A0, c0, rfl, k0, k0'⟩ := hfa.row.len
    unfold maxLen at k0'
    have hsA := hfa.bel.size
    have HV := Lib.hid (And.intro hfa.row (hfa.rows.mono (M' := fun k => wA.heap.size ≤ k) (fun k hk => Nat.le_trans hsA hk)))
    have HBB := Lib.hid (RdC.mono (M' := fun k => wA.heap.size ≤ k) (RdC.below HB.out hfa.bel) (fun k hk => Nat.le_trans hsA hk))
    have HBA := Lib.hid hfa.bel
    have HGA := Lib.hid (HG.out.of hfa.bel hpos)
    have hposA : 0 < wA.heap.size := Nat.lt_of_lt_of_le hpos hsA
    have hfl := Hw.few_len rs
    have HFE := Lib.hid (fun (r : Hw.Bytes) (hr : r ∈ Hw.few rs) => Hw.few_each hr)
    clear hfa
    generalize hfr : Hw.few rs = fs at *
    clear hfr
    go_wp2_with (first
      | (go_at_call 9; refine (disk_Of R _).mono ?_; intro e w2 hr; obtain ⟨p, F, rfl, h2, hb2⟩ := DD.of (Below.refl _ _) hr; clear hr; have H2 := Lib.hid h2; clear h2; clear hb2)
      | (go_at_call 18; refine (lc_Open H2.out (Hw.JC.new R) rfl).mono ?_; rintro e w3 ⟨q, d3, F3, G3, rfl, h3, jc3, r3⟩; have H3 := Lib.hid h3.jj; have C3 := Lib.hid jc3; have R3 := Lib.hid r3; clear h3 jc3 r3))
    have hRR : (Hw.HDisk.new (R : Int)).room = R := by simp only [Hw.HDisk.new]; omega
    have HRR := Lib.hid hRR; clear hRR
    go_loopw [10, 11, 12, 43] (fun s10 s11 s12 s43 wr => ∃ (k : Nat) (t : Int) (b : Hw.Bytes) (rs : List Hw.Bytes) (d : Hw.HDisk) (F G : Nat → Prop) (wr' : World), wr' = wr ∧ k ≤ fs.length ∧ s43 = .int .i64 k ∧ s11 = .string (strB b) ∧ s12 = .int .i64 t ∧ FRel wA p q R k s10 t b rs d F G wr') (fun _ _ _ s43 _ => (fs.length - (intOf s43).toNat))
    case atStart => exact ⟨0, 0, [], [], d3, F3, G3, _, rfl, by omega, rfl, rfl, rfl, ⟨H3.out, KS.nil _ _ _ _, C3.out, R3.out.trans HRR.out, by omega, by omega, by simp, by simp⟩⟩
    case round =>
      clear H3 C3 R3
      obtain ⟨k, t, b, r0, d, F0, G0, wr, rfl, hk, rfl, rfl, rfl, hs⟩ := hrel
      by_cases hlt : k < fs.length
      · obtain ⟨x, hx⟩ : ∃ x, fs[k]? = some x := ⟨fs[k], List.getElem?_eq_getElem hlt⟩
        obtain ⟨u, hu, hux⟩ := HV.out.2.get hx
        obtain ⟨A3, c3, rfl, m1, m2⟩ := hux.len
        obtain ⟨b1, o1, c1', hva, _, _, _, _, hbl, g4⟩ := (RdC.below HV.out.1 hs.jj.dd.bel).at (by omega)
        cases hva
        have hc1 := g4 k _ hu
        have hxl := HFE.out x (List.mem_of_getElem? hx)
        obtain ⟨k1, r1, d1, ha1, jc1, hR1, hcase⟩ := full_app hs.jc hs.room hxl
        have hrow := row_one (fun k => F0 k ∨ G0 k) wr (.slice A3 x.length c3) x 22 (jj_rdb hs.jj (RdC.below hux hs.jj.dd.bel)) (hs.jj.not (Nat.le_refl _))
        have HX := Lib.hid hux
        have HROW := Lib.hid hrow
        have HA1 := Lib.hid ha1
        have HC1 := Lib.hid (And.intro jc1 hR1)
        have HCS := Lib.hid hcase
        have HS := Lib.hid hs
        obtain ⟨e1, he1⟩ : ∃ e1, errV k1 = e1 := ⟨_, rfl⟩
        have HE1 := Lib.hid he1
        have hlr := hs.lr
        have ht0 := hs.t0
        have ht1 := hs.t1
        clear hx g4 hu hux hbl m1 m2 hs ha1 jc1 hR1 hcase hrow he1
        go_upto_block 2 with ((first
          | (go_at_call 22; refine (journal_Append_open (HS.out.jj.al _) rfl (by show r0.length ≤ _; omega) HROW.out.1 HROW.out.2 (fun _ h => .inl h) (fun _ h => .inr h) (by simp) HA1.out HE1.out).mono ?_; rintro e w5 ⟨rfl, F5, G5, h5⟩; have H5 := Lib.hid h5.jj; have K5 := Lib.hid ((HS.out.ks.below (below_new wr (.cells #[.slice A3 x.length c3] 22))).js h5); clear h5)
          | (go_at_call 11; refine (num_any HE1.out (HGA.out.of H5.out.dd.bel hposA)).mono ?_; rintro e w6 ⟨rfl, u6⟩; have H6 := Lib.hid (H5.out.new u6); have K6 := Lib.hid (K5.out.updF (u6.mono (G := F5) (fun _ _ h => h.elim))); clear u6)))
        go_cut [10, 11, 12] (fun s10 s11 s12 wx => ∃ (t' : Int) (b' : Hw.Bytes) (r' : List Hw.Bytes) (d' : Hw.HDisk) (F' G' : Nat → Prop) (wx' : World), wx' = wx ∧ s11 = .string (strB b') ∧ s12 = .int .i64 t' ∧ FRel wA p q R (k + 1) s10 t' b' r' d' F' G' wx')
        case first =>
          have hsx := RdB.str (M := fun k => wA.heap.size ≤ k) (RdC.below HX.out H6.out.dd.bel)
          rcases HCS.out with ⟨rfl, hr1⟩ | ⟨rfl, hr1⟩
          · have hR6 : wA.heap.size ≤ w6.heap.size := H6.out.size
            have hl0 := HS.out.lr
            have HOW := Lib.hid (K6.out.below (below_new w6 (.cells #[.string (strB x)] 9)))
            go_wp2_with (at_builtin; refine wpAppend _ rfl _ _ 49 rfl wA.heap.size 9 i0 (.string ⟨#[]⟩) 1 16 strslice hi hy0 hy1 hy2 rfl (by decide) _ _ _ rfl HOW.out.own (fun _ => False) _ 1 _ rfl (RdC.made _ 1 1 #[.string (strB x)] _ rfl (by decide) (fun h => h)) ?_ ?_ ?_ ?_ ?_)
            · simp [Value.oneCell']
            · unfold maxLen; omega
            · omega
            · first | omega | (simp; omega)
            · intro v7 w7 o7 g7 a7
              have hj7 := H6.out.al (.cells #[.string (strB x)] 9)
              have HN := Lib.hid (show FRel wA p q R (k + 1) v7 t b r1 d1 F5 G5 w7 from by
                subst hr1
                exact ⟨hj7.grow HOW.out (Nat.le_refl _) g7, HOW.out.grown hj7 (OwnStrs.snoc o7) (by simpa using a7), HC1.out.1, HC1.out.2, ht0, by omega, HS.out.lb, by simp; omega⟩)
              clear o7 g7 a7 hj7
              go_wp2_with fail
              go_meet
              exact ⟨t, b, r1, d1, F5, G5, _, rfl, rfl, rfl, HN.out⟩
          · subst hr1
            have HSM := Lib.hid (show Hw.Small (t + 1) from ⟨by omega, by omega⟩)
            by_cases hsh : 0 < x.length ∧ x.length < 3
            · have hx1 : (0 : Int) < (x.length : Int) := by omega
              have hx2 : (x.length : Int) < 3 := by omega
              have hb5 : (bb.take 500).length ≤ 500 := by rw [HL2.out]; exact hm2c
              have HB6 := Lib.hid (jj_rdb H6.out (RdC.below HBB.out H6.out.dd.bel))
              rcases full_save HC1.out.1 HC1.out.2 HSM.out hb5 with ⟨d7, hs7, jc7, hR7⟩ | hs7
              · have HS7 := Lib.hid (And.intro hs7 (And.intro jc7 hR7))
                have HB5 := Lib.hid hb5
                clear hs7 jc7 hR7 hsh hb5
                go_wp2_with (go_at_call 23; refine (journal_Save_open H6.out rfl HB6.out (by rw [HL2.out]; omega) (fun _ h => .inl h) (fun _ h => .inr h) HS7.out.1 errV_0).mono ?_; rintro e w7 ⟨rfl, F7, G7, h7⟩; have H7 := Lib.hid h7.jj; have hsb : (convert 22 9 (.slice A2 m2 c2)).run Tryd.prog w7 = .ok (.string (strB (bb.take 500))) w7 := RdB.str (M := fun k => wA.heap.size ≤ k) (RdC.below HBB.out h7.jj.dd.bel); clear h7)
                go_meet
                exact ⟨t + 1, bb.take 500, [], d7, F7, G7, _, rfl, rfl, rfl, ⟨H7.out, KS.nil _ _ _ _, HS7.out.2.1, HS7.out.2.2, by omega, by omega, HB5.out, by simp⟩⟩
              · have HS7 := Lib.hid hs7
                clear hs7 hsh hb5
                go_wp2_with (go_at_call 23; refine (journal_Save_open H6.out rfl HB6.out (by rw [HL2.out]; omega) (fun _ h => .inl h) (fun _ h => .inr h) HS7.out (r := .iface 29 (.int .i64 8)) rfl).mono ?_; rintro e w7 ⟨rfl, F7, G7, h7⟩; have H7 := Lib.hid h7.jj; have K7 := Lib.hid (K6.out.js h7); clear h7)
                go_meet
                exact ⟨t, b, r1, d1, F7, G7, _, rfl, rfl, rfl, ⟨H7.out, K7.out, HC1.out.1, HC1.out.2, by omega, by omega, HS.out.lb, by omega⟩⟩
            · by_cases hx0 : 0 < x.length
              · have hx1 : (0 : Int) < (x.length : Int) := by omega
                have hx2 : ¬ ((x.length : Int) < 3) := by omega
                clear hsh
                go_wp2_with fail
                go_meet
                exact ⟨t, b, r1, d1, F5, G5, _, rfl, rfl, rfl, ⟨H6.out, K6.out, HC1.out.1, HC1.out.2, by omega, by omega, HS.out.lb, by omega⟩⟩
              · have hx1 : ¬ ((0 : Int) < (x.length : Int)) := by omega
                clear hsh
                go_wp2_with fail
                go_meet
                exact ⟨t, b, r1, d1, F5, G5, _, rfl, rfl, rfl, ⟨H6.out, K6.out, HC1.out.1, HC1.out.2, by omega, by omega, HS.out.lb, by omega⟩⟩
        case rest =>
          obtain ⟨t', b', r', d', F', G', wx, rfl, rfl, rfl, hf⟩ := hcut
          have hR' := hf.room
          have hlr' := hf.lr
          obtain ⟨A9, c9, rfl⟩ := hf.ks.own.form
          have HF := Lib.hid hf
          clear hf
          go_wp2_with (first
            | (go_at_call 18; refine (lc_Open HF.out.jj.dd HF.out.jc HF.out.room).mono ?_; rintro e w8 ⟨q2, d8, F8, G8, rfl, h8, jc8, r8⟩; have H8 := Lib.hid h8.jj; have J8 := Lib.hid (HF.out.jj.reopen h8); have K8 := Lib.hid (HF.out.ks.reopen h8); have C8 := Lib.hid (And.intro jc8 r8); clear h8 jc8 r8)
            | (go_at_call_of 20 (Value.pointer (some ⟨q2, 0, none⟩)); refine (lc_Shows H8.out (by omega) K8.out.rd rfl).mono ?_; rintro e w9 ⟨rfl, _, b9⟩; have J9 := Lib.hid (J8.out.below b9); have K9 := Lib.hid (K8.out.below b9); clear b9)
            | (go_at_call_of 20 (Value.pointer (some ⟨q, 0, none⟩)); refine (lc_Shows J9.out (by omega) K9.out.rd rfl).mono ?_; rintro e w10 ⟨rfl, h10, b10⟩; have J10 := Lib.hid h10; have K10 := Lib.hid (K9.out.below b10); have hru : (d8.used : Int) ≤ (R : Int) := (by have := h10.dd.disk.wf.room; rw [C8.out.2] at this; omega); clear h10 b10)
            | (go_at_call 13; refine (dd_Used J10.out.dd).mono ?_; rintro e w11 ⟨rfl, _, u11⟩; have J11 := Lib.hid (J10.out.new u11); have K11 := Lib.hid (K10.out.updF (u11.mono (G := F8) (fun _ _ h => h.elim))); clear u11))
          go_roundw
          case rel => exact ⟨k + 1, t', b', r', d8, F8, G', _, rfl, by omega, by go_num, rfl, rfl, ⟨J11.out, K11.out, C8.out.1, C8.out.2, HF.out.t0, HF.out.t1, HF.out.lb, HF.out.lr⟩⟩
          case measure => simp [intOf]; omega
      · have HS := Lib.hid hs; clear hs
        go_wp2_with (go_at_call 24; refine (journal_Broken HS.out.jj.jat).mono ?_; rintro e w11 ⟨rfl, rfl⟩)
        go_ret
        exact ⟨rfl, HBA.out.trans (HS.out.jj.dd.bel.mono hsA)⟩
end Go.Proofs.YtihncdlbbhmglaaDoor


namespace Go.Proofs.YtihncdlbbhmglaaDoor
open Go.ChangeShapes Go.WideShapes Go.ChangeAt Go.RowKit

set_option maxRecDepth 100000 in
theorem journalFull_lifted (os : Os) (started : os.Started) (H : Type) (enc : TypeId × Value → H) :
    ReturnsInHanded {} Tryd.checked os 5 .any (fun w args => (Rows.journalFullSpec.pre enc Tryd.prog Tryd.f5 [] false w args ∧ laidMetH Tryd.prog [("errors.errorType", Rows.laid_errors_errorType)] w) ∧ sizedMet enc Tryd.prog Tryd.f5 (OpenSpec.ofChange Rows.journalFullSpec) false w args)
      (Rows.journalFullSpec.post enc Tryd.prog Tryd.f5 false true false false) := by
  refine returnsInHanded_of_change_and (C := Tryd.checked) (X := fun w _ => laidMetH Tryd.prog [("errors.errorType", Rows.laid_errors_errorType)] w) (fun _ _ _ hh h => h.of_heap hh) own started (by kernel_rfl) Tryd.func5
    (ChangeSpec.witness_at (enc := enc) (C := Tryd.checked) (os := os) (X := fun w _ => laidMetH Tryd.prog [("errors.errorType", Rows.laid_errors_errorType)] w) false (laidWorld os) #[.int .u8 0, .slice none 0 0, .slice none 0 0] 8 rfl (by kernel_rfl) (by kernel_rfl) (by kernel_rfl) (by kernel_rfl) (by kernel_rfl) (laidWorld_met os _)) ?_
  intro W base args ds gs before hval0 hW _ hsz0 hL _
  have hval : ∀ (j : Nat) t v, Tryd.f5.params[j]? = some t → args[j]? = some v → Value.okWide Tryd.prog W .any base t v := hval0
  have hsz : (DataW.weightsEach Tryd.prog (Tryd.f5.params.toList ++ Rows.journalFullSpec.plain.varTypes Tryd.prog) (ds ++ gs)).all (· ≤ reachBytes) = true := hsz0
  have hW' := hW
  obtain ⟨p, q, hA0, hV, rfl, hfz, hnd⟩ := hW
  have hA : DataW.TrodAll enc Tryd.prog W 0 (fun _ => true) true Tryd.f5.params.toList args.toList ds p := hA0
  rw [Tryd.params5] at hA hval hsz
  obtain ⟨v0, v1, v2, d0, d1, d2, p0, p1, p2, rfl, rfl, rfl, h0, h1, h2⟩ := trodAll_three hA
  obtain ⟨rfl, rfl⟩ := trodVars_none hV
  obtain ⟨a0, rfl, rfl, rfl, w0⟩ := open_int Tryd.underlying5 (hval 0 5 v0 rfl rfl) h0
  have lt1 : ∀ x ∈ p1, x.block < W.heap.size := by obtain ⟨m, hm⟩ := h1; exact DataW.trod_lt m _ _ _ hm
  obtain ⟨rs1, us1, hr1, hrr1⟩ := argRows (hval 1 47 v1 rfl rfl) h1
  have lt2 : ∀ x ∈ p2, x.block < W.heap.size := by obtain ⟨m, hm⟩ := h2; exact DataW.trod_lt m _ _ _ hm
  obtain ⟨b2, hb2, bl2⟩ := argB (hval 2 22 v2 rfl rfl) h2 (fun elems spare hd => sized_slice hsz (j := 2) (t := 22) (e := 5) rfl (by rw [hd]; rfl) Tryd.underlying22)
  have hg := errT_of_laid hL
  clear hA0 hval0 hsz0
  have bd0 := bounds_u8 w0
  have cn0 : a0 = ((a0.toNat : Nat) : Int) := by omega
  have wk := journalFull_walk a0.toNat v1 rs1 us1 v2 b2 W (by omega) hr1 hrr1 hb2 hg
  rw [← cn0] at wk
  refine wk.mono fun e W' ⟨he, bel⟩ => ?_
  subst he
  exact ⟨_, rfl, _, _, _, [], _, [], hW', trodAll_mk1 (shut_bool Tryd.underlying4 _), (trodAll_cons_mk (shut_int Tryd.underlying5 w0) (trodAll_cons_mk (Below.trod laidOut (by kernel_rfl) (of_decide_eq_true (by kernel_rfl)) h1 bel lt1) (trodAll_cons_mk (Below.trod laidOut (by kernel_rfl) (of_decide_eq_true (by kernel_rfl)) h2 bel lt2) trodAll_mk0))), rfl, bel.frame _, fun h => by cases h⟩
theorem journalFull_said : Rows.JournalFullSaid :=
  OpenClaim.holds_of_wide 5 Tryd.f5 rfl rfl rfl rfl rfl rfl rfl ⟨rfl, rfl, rfl, rfl, rfl⟩ rfl rfl rfl rfl rfl (by kernel_rfl) Tryd.func5 (by kernel_rfl)
    (of_decide_eq_true (by kernel_rfl)) (by unfold Func.isWrapper; rw [if_neg (of_decide_eq_false (by kernel_rfl))]; exact ⟨rfl, rfl⟩)
    (fun os started H enc _ => journalFull_lifted os started H enc)
theorem journalFull_holds : Rows.JournalFullCardSaid :=
  Claim7.holds_tied_plain_at .later [] [.handle] true (true, "1a8187ac55167dc82cdbe393873134255bf336f2d7630db256f2748c83fa5d63") true
    journalFull_said (fun _ h => by cases h) (by kernel_rfl) (fun _ h => by cases h) journalFull_row_tie rfl ⟨rfl, rfl⟩ (by kernel_rfl) rfl
    (fun f fn hf hfn => by
      obtain rfl : f = 5 := Option.some.inj ((show Tryd.prog.funcNamed "hawala/hawalalaw06.JournalFull" = some 5 by kernel_rfl).symm.trans hf) |>.symm
      obtain rfl : fn = Tryd.f5 := (Option.some.inj (Tryd.func5.symm.trans hfn)).symm
      exact ⟨by kernel_rfl, fun j t ht => by
        rw [Tryd.params5] at ht
        rcases j with _ | _ | _ | j
        · obtain rfl : t = 5 := by simpa using ht.symm
          exact (show Tryd.prog.wantsStandIn 5 = false by kernel_rfl)
        · obtain rfl : t = 47 := by simpa using ht.symm
          exact (show Tryd.prog.wantsStandIn 47 = false by kernel_rfl)
        · obtain rfl : t = 22 := by simpa using ht.symm
          exact (show Tryd.prog.wantsStandIn 22 = false by kernel_rfl)
        · simp at ht⟩)
    (by kernel_rfl)
#print axioms journalFull_holds
end Go.Proofs.YtihncdlbbhmglaaDoor
