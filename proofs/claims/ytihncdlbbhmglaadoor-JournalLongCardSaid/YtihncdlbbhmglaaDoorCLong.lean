/- PROVED HERE: hawalalaw06.JournalLong returns true for every input, and each argument reads behind the call as it read before; no condition beyond the statement's own cells (errors.errorType is laid as the program's text lays it: the card ties it). -/
import Derived.SevenTiedAt
import Derived.Test.YtihncdlbbhmglaaDoorQ3
import Derived.Test.YtihncdlbbhmglaaDoorQ4
import Derived.Test.YtihncdlbbhmglaaDoorCards
import Derived.Test.YtihncdlbbhmglaaDoorTie
set_option linter.unusedVariables false
set_option linter.unusedSimpArgs false
/- hawalalaw06.JournalLong: the walk. The door's seat. -/
namespace Go.Proofs.YtihncdlbbhmglaaDoor
open Go.RowKit

set_option maxRecDepth 100000 in
set_option maxHeartbeats 4000000 in
theorem journalLong_walk (n : Nat) (v : Value) (b : Hw.Bytes) (W : World) (hn : n ≤ 65535) (hb : RdB (fun k => W.heap.size ≤ k) W v b) (hg : ErrT W) :
    Calls Tryd.prog 6 #[.int .u16 n, v] W (TrueRet W) := by
  obtain ⟨i0, hi, hz0, hz1, hz2⟩ := info_parts u8row
  obtain ⟨A, c, rfl, l1, l2⟩ := hb.len
  unfold maxLen at l2
  have hpos := hg.pos
  obtain ⟨m, hm⟩ : ∃ m : Nat, m = min b.length 500 := ⟨_, rfl⟩
  have hmi : min (b.length : Int) 500 = (m : Int) := by omega
  have hm1 : m ≤ b.length := by omega
  have hm2 : m ≤ 500 := by omega
  have hb5 : RdB (fun k => W.heap.size ≤ k) W (.slice A m c) (b.take 500) := hb.to500 hm
  have hl5 : (b.take 500).length = m := by rw [List.length_take]; omega
  obtain ⟨L, hL⟩ : ∃ L : Nat, L = n % 20000 := ⟨_, rfl⟩
  have hLi : (n : Int) % 20000 = (L : Int) := by omega
  have hL2 : L ≤ 19999 := by omega
  have HV := Lib.hid hb5
  have HL5 := Lib.hid hl5
  have HG := Lib.hid hg
  clear hb5 hl5 hb hm hL hg
  go_enter Tryd.func6, Tryd.ntmps6
  go_wp2_with (first
    | (go_at_call 14; refine (awake06 _).mono ?_; rintro e w1 ⟨rfl, hb1⟩; have HB1 := Lib.hid hb1; clear hb1)
    | (go_at_call 9; refine (disk_Of 262144 _).mono ?_; intro e w2 hr; obtain ⟨p, F, rfl, h2, hb2⟩ := DD.of HB1.out hr; clear hr; have H2 := Lib.hid h2; clear h2; clear hb2)
    | (go_at_call 18; refine (lc_Open H2.out (Hw.JC.new 262144) rfl).mono ?_; rintro e w3 ⟨q, d3, F3, G3, rfl, h3, jc3, r3⟩; have H3 := Lib.hid h3.jj; have C3 := Lib.hid jc3; have R3 := Lib.hid r3; have hs3 := h3.jj.size; clear h3 jc3 r3)
    | (at_make; refine wpList_make_full _ rfl _ _ 22 rfl w3.heap.size 5 i0 (.int .u8 0) 1 u8slice hi hz0 hz1 .i64 .i64 _ _ L rfl rfl hLi hLi ?_ ?_ ?_ ?_))
  · rw [hz2]; omega
  · unfold maxLen; omega
  · exact Nat.le_refl _
  · intro w4 o4 g4
    rw [made_zeros] at o4
    have hzl : (List.replicate L (0 : UInt8)).length = L := by simp
    have hb34 : Below w3.heap.size w3 w4 := (Below.refl _ _).grown g4 (Nat.le_refl _) (by intro k hk; cases hk)
    have h4 := H3.out.below hb34
    have hx4 : RdB (fun k => F3 k ∨ G3 k) w4 (.slice (some ⟨w3.heap.size, 0, none⟩) L L) (List.replicate L 0) := RdB.of_own o4 (fun k hk hm => by
      have := (o4.lt k hk).1
      rcases hm with h | h
      · have := H3.out.dd.disk.lt h; omega
      · have := H3.out.jat.lt h; omega)
    have hv4 := jj_rdb h4 (RdC.below HV.out h4.dd.bel)
    have H4 := Lib.hid h4
    have HX4 := Lib.hid hx4
    have HV4 := Lib.hid hv4
    have HZL := Lib.hid hzl
    have HRR := Lib.hid (row_two (fun k => F3 k ∨ G3 k) w4 (.slice A m c) (.slice (some ⟨w3.heap.size, 0, none⟩) L L) (b.take 500) (List.replicate L 0) 22 hv4 hx4 (h4.not (Nat.le_refl _)))
    have hu0 : d3.used = 0 := by rw [C3.out.jd.used]; simp [Hw.snapLen, Hw.frames]
    have HU0 := Lib.hid hu0
    clear o4 g4 hb34 h4 hx4 hv4 hzl hu0
    by_cases hLb : 16384 < L
    · have hLbi : (16384 : Int) < (L : Int) := by omega
      have hsl : (Hw.varPut (Hw.w64 ((0 : Int) + 1)) ++ List.replicate L (0 : UInt8)).length > 16384 := by rw [List.length_append, HZL.out]; omega
      have HSL := Lib.hid hsl; clear hsl
      go_wp2_with (go_at_call 22; refine (journal_Append_open (H4.out.al _) rfl (by simp) HRR.out.1 HRR.out.2 (fun _ h => .inl h) (fun _ h => .inr h) (by simp) (Hw.HJ.append_long rfl (r := List.replicate L 0) (by simp) (by rw [HZL.out]; omega)) (r := .iface 29 (.int .i64 13)) rfl).mono ?_; rintro e w5 ⟨rfl, F5, G5, h5⟩; have H5 := Lib.hid h5.jj; have HX5 := Lib.hid (h5.rd (RdC.below HX4.out (below_new w4 _))); clear h5)
      have HG5 := Lib.hid (HG.out.of H5.out.dd.bel hpos)
      have hu0 : (d3.used : Int) = 0 := by have := HU0.out; omega
      go_wp2_with (first
        | (go_at_call 11; refine (number_hit 13 w5 HG5.out).mono ?_; rintro e w6 ⟨rfl, u6⟩; have H6 := Lib.hid (H5.out.new u6); have HX6 := Lib.hid (HX5.out.upd (M' := fun k => F5 k ∨ G5 k) u6 (fun _ h => h.elim) (fun _ h => .inl h)); clear u6)
        | (go_at_call 20; refine (lc_Shows H6.out (by simp) (RdC.nil (fun _ => False) _ _) rfl).mono ?_; rintro e w7 ⟨rfl, h7, hb7⟩; have H7 := Lib.hid h7; have HX7 := Lib.hid (RdC.below HX6.out hb7); clear h7 hb7)
        | (go_at_call 13; refine (dd_Used H7.out.dd).mono ?_; rintro e w8 ⟨rfl, _, u8⟩; have H8 := Lib.hid (H7.out.new u8); have HX8 := Lib.hid (RdB.upd HX7.out (M' := fun k => F5 k ∨ G5 k) u8 (fun _ h => h.elim) (fun _ h => .inl h)); clear u8)
        | (go_at_call 24; refine (journal_Broken H8.out.jat).mono ?_; rintro e w9 ⟨rfl, rfl⟩)
        | (go_at_call 23; refine (journal_Save_open H8.out rfl HX8.out (by rw [HZL.out]; omega) (fun _ h => .inl h) (fun _ h => .inr h) (Hw.HJ.save_long rfl HSL.out) (r := .iface 29 (.int .i64 13)) rfl).mono ?_; rintro e w10 ⟨rfl, F10, G10, h10⟩; have H10 := Lib.hid h10.jj; have HG10 := Lib.hid (HG.out.of h10.jj.dd.bel hpos); clear h10)
        | (go_at_call 11; refine (number_hit 13 w10 HG10.out).mono ?_; rintro e w11 ⟨rfl, u11⟩; have H11 := Lib.hid (H10.out.new u11); clear u11))
      go_ret
      exact ⟨rfl, H11.out.dd.bel⟩
    · have hLbi : ¬ ((16384 : Int) < (L : Int)) := by omega
      have hroom : d3.used + (Hw.frames [b.take 500, List.replicate L 0]).length ≤ 262144 := by
        rw [HU0.out]
        have e1 := HL5.out
        have e2 := HZL.out
        simp only [Hw.frames, List.flatMap_cons, List.flatMap_nil, List.length_append, Hw.frameOf_length, List.length_nil, e1, e2]; omega
      have hR : d3.room = 262144 := by rw [R3.out]; rfl
      have HRO := Lib.hid (And.intro hR hroom)
      clear hroom hR
      have hq2 : ∀ r ∈ [b.take 500, List.replicate L (0 : UInt8)], r.length ≤ 16384 := by
        intro r hr
        rcases List.mem_cons.1 hr with rfl | hr
        · rw [HL5.out]; omega
        · rw [List.mem_singleton.1 hr, HZL.out]; omega
      have HQ2 := Lib.hid hq2; clear hq2
      go_wp2_with (go_at_call 22; refine (lc_Append (H4.out.al _) C3.out HRO.out.1 (by simp) HRR.out.1 HRR.out.2 (fun _ h => h) (by simp) HQ2.out HRO.out.2).mono ?_; rintro e w5 ⟨rfl, d5, F5, G5, h5, jc5, r5⟩; have H5 := Lib.hid h5.jj; have C5 := Lib.hid jc5; have R5 := Lib.hid r5; have hx5 := h5.rd (RdC.below HX4.out (below_new w4 _)); have hv5 := h5.rd (RdC.below HV4.out (below_new w4 _)); have HX5 := Lib.hid hx5; have hsv := hv5.str; have hsx := hx5.str; clear h5 jc5 r5 hv5 hx5)
      by_cases h80 : 16380 < L
      · have h80i : (16380 : Int) < (L : Int) := by omega
        go_wp2_with (go_at_call 20; refine (lc_Shows (H5.out.al _) (by simp) (strs_two (fun _ => False) w5 _ _ _ (fun h => h)) rfl).mono ?_; rintro e w6 ⟨rfl, h6, hb6⟩; have H6 := Lib.hid h6; have HX6 := Lib.hid (RdC.below (RdC.below HX5.out (below_new w5 _)) hb6); clear h6 hb6)
        go_ret
        exact ⟨rfl, H6.out.dd.bel⟩
      · have h80i : ¬ ((16380 : Int) < (L : Int)) := by omega
        have hsl : (Hw.varPut ((0 : Int) + 1) ++ List.replicate L (0 : UInt8)).length ≤ 16384 := by rw [List.length_append, var1_len, HZL.out]; omega
        have hroom : d5.used + (Hw.frameOf (Hw.varPut ((0 : Int) + 1) ++ List.replicate L (0 : UInt8))).length ≤ 262144 := by
          rw [C5.out.jd.used, Hw.frameOf_length, List.length_append, var1_len, HZL.out]
          have e1 := HL5.out
          have e2 := HZL.out
          simp only [Hw.snapLen, if_true, Hw.frames, List.nil_append, List.flatMap_cons, List.flatMap_nil, List.length_append, Hw.frameOf_length, List.length_nil, e1, e2]; omega
        have HSL := Lib.hid (And.intro hsl hroom)
        clear hsl hroom
        go_wp2_with (first
          | (go_at_call 20; refine (lc_Shows (H5.out.al _) (by simp) (strs_two (fun _ => False) w5 _ _ _ (fun h => h)) rfl).mono ?_; rintro e w6 ⟨rfl, h6, hb6⟩; have H6 := Lib.hid h6; have HX6 := Lib.hid (RdC.below (RdC.below HX5.out (below_new w5 _)) hb6); clear h6 hb6)
          | (go_at_call 23; refine (lc_Save H6.out C5.out R5.out HX6.out (fun _ h => h) (by rw [HZL.out]; omega) ⟨by decide, by decide⟩ HSL.out.1 HSL.out.2).mono ?_; rintro e w7 ⟨rfl, d7, F7, G7, h7, _, _⟩; have H7 := Lib.hid h7.jj; clear h7))
        go_ret
        exact ⟨rfl, H7.out.dd.bel⟩
end Go.Proofs.YtihncdlbbhmglaaDoor


namespace Go.Proofs.YtihncdlbbhmglaaDoor
open Go.ChangeShapes Go.WideShapes Go.ChangeAt Go.RowKit

set_option maxRecDepth 100000 in
theorem journalLong_lifted (os : Os) (started : os.Started) (H : Type) (enc : TypeId × Value → H) :
    ReturnsInHanded {} Tryd.checked os 6 .any (fun w args => (Rows.journalLongSpec.pre enc Tryd.prog Tryd.f6 [] false w args ∧ laidMetH Tryd.prog [("errors.errorType", Rows.laid_errors_errorType)] w) ∧ sizedMet enc Tryd.prog Tryd.f6 (OpenSpec.ofChange Rows.journalLongSpec) false w args)
      (Rows.journalLongSpec.post enc Tryd.prog Tryd.f6 false true false false) := by
  refine returnsInHanded_of_change_and (C := Tryd.checked) (X := fun w _ => laidMetH Tryd.prog [("errors.errorType", Rows.laid_errors_errorType)] w) (fun _ _ _ hh h => h.of_heap hh) own started (by kernel_rfl) Tryd.func6
    (ChangeSpec.witness_at (enc := enc) (C := Tryd.checked) (os := os) (X := fun w _ => laidMetH Tryd.prog [("errors.errorType", Rows.laid_errors_errorType)] w) false (laidWorld os) #[.int .u16 0, .slice none 0 0] 8 rfl (by kernel_rfl) (by kernel_rfl) (by kernel_rfl) (by kernel_rfl) (by kernel_rfl) (laidWorld_met os _)) ?_
  intro W base args ds gs before hval0 hW _ hsz0 hL _
  have hval : ∀ (j : Nat) t v, Tryd.f6.params[j]? = some t → args[j]? = some v → Value.okWide Tryd.prog W .any base t v := hval0
  have hsz : (DataW.weightsEach Tryd.prog (Tryd.f6.params.toList ++ Rows.journalLongSpec.plain.varTypes Tryd.prog) (ds ++ gs)).all (· ≤ reachBytes) = true := hsz0
  have hW' := hW
  obtain ⟨p, q, hA0, hV, rfl, hfz, hnd⟩ := hW
  have hA : DataW.TrodAll enc Tryd.prog W 0 (fun _ => true) true Tryd.f6.params.toList args.toList ds p := hA0
  rw [Tryd.params6] at hA hval hsz
  obtain ⟨v0, v1, d0, d1, p0, p1, rfl, rfl, rfl, h0, h1⟩ := trodAll_two hA
  obtain ⟨rfl, rfl⟩ := trodVars_none hV
  obtain ⟨a0, rfl, rfl, rfl, w0⟩ := open_int Tryd.underlying53 (hval 0 53 v0 rfl rfl) h0
  have lt1 : ∀ x ∈ p1, x.block < W.heap.size := by obtain ⟨m, hm⟩ := h1; exact DataW.trod_lt m _ _ _ hm
  obtain ⟨b1, hb1, bl1⟩ := argB (hval 1 22 v1 rfl rfl) h1 (fun elems spare hd => sized_slice hsz (j := 1) (t := 22) (e := 5) rfl (by rw [hd]; rfl) Tryd.underlying22)
  have hg := errT_of_laid hL
  clear hA0 hval0 hsz0
  have bd0 := bounds_u16 w0
  have cn0 : a0 = ((a0.toNat : Nat) : Int) := by omega
  have wk := journalLong_walk a0.toNat v1 b1 W (by omega) hb1 hg
  rw [← cn0] at wk
  refine wk.mono fun e W' ⟨he, bel⟩ => ?_
  subst he
  exact ⟨_, rfl, _, _, _, [], _, [], hW', trodAll_mk1 (shut_bool Tryd.underlying4 _), (trodAll_cons_mk (shut_int Tryd.underlying53 w0) (trodAll_cons_mk (Below.trod laidOut (by kernel_rfl) (of_decide_eq_true (by kernel_rfl)) h1 bel lt1) trodAll_mk0)), rfl, bel.frame _, fun h => by cases h⟩
theorem journalLong_said : Rows.JournalLongSaid :=
  OpenClaim.holds_of_wide 6 Tryd.f6 rfl rfl rfl rfl rfl rfl rfl ⟨rfl, rfl, rfl, rfl, rfl⟩ rfl rfl rfl rfl rfl (by kernel_rfl) Tryd.func6 (by kernel_rfl)
    (of_decide_eq_true (by kernel_rfl)) (by unfold Func.isWrapper; rw [if_neg (of_decide_eq_false (by kernel_rfl))]; exact ⟨rfl, rfl⟩)
    (fun os started H enc _ => journalLong_lifted os started H enc)
theorem journalLong_holds : Rows.JournalLongCardSaid :=
  Claim7.holds_tied_plain_at .later [] [.handle] true (true, "1a8187ac55167dc82cdbe393873134255bf336f2d7630db256f2748c83fa5d63") true
    journalLong_said (fun _ h => by cases h) (by kernel_rfl) (fun _ h => by cases h) journalLong_row_tie rfl ⟨rfl, rfl⟩ (by kernel_rfl) rfl
    (fun f fn hf hfn => by
      obtain rfl : f = 6 := Option.some.inj ((show Tryd.prog.funcNamed "hawala/hawalalaw06.JournalLong" = some 6 by kernel_rfl).symm.trans hf) |>.symm
      obtain rfl : fn = Tryd.f6 := (Option.some.inj (Tryd.func6.symm.trans hfn)).symm
      exact ⟨by kernel_rfl, fun j t ht => by
        rw [Tryd.params6] at ht
        rcases j with _ | _ | j
        · obtain rfl : t = 53 := by simpa using ht.symm
          exact (show Tryd.prog.wantsStandIn 53 = false by kernel_rfl)
        · obtain rfl : t = 22 := by simpa using ht.symm
          exact (show Tryd.prog.wantsStandIn 22 = false by kernel_rfl)
        · simp at ht⟩)
    (by kernel_rfl)
#print axioms journalLong_holds
end Go.Proofs.YtihncdlbbhmglaaDoor
