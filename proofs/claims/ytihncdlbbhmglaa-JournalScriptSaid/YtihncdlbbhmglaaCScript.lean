/- PROVED HERE: hawalalaw06.JournalScript returns true for every input, and each argument reads behind the call as it read before; no condition beyond the statement's own cells. -/
import Derived.WalkKit
import Derived.ProofKit
import Derived.OpenShut
import Derived.ShutString
import Derived.ChangeOld
import Derived.Below
import Derived.Test.YtihncdlbbhmglaaQ5
import Derived.Test.YtihncdlbbhmglaaQ4
import Derived.Test.YtihncdlbbhmglaaRows
set_option linter.unusedVariables false
set_option linter.unusedSimpArgs false
/- hawalalaw06.JournalScript: the walk. -/
namespace Go.Proofs.Ytihncdlbbhmglaa
open Go.RowKit

/-- The box of an act stays. -/
theorem box_cells {w : World} {b : Nat} {v0 v1 v2 : Value} {t : TypeId} (h : w.heap[b]? = some (.cells #[v0, v1, v2] t (0, 0))) : w.cell? ⟨b, 0, none⟩ = some v0 ∧ w.cell? ⟨b, 1, none⟩ = some v1 ∧ w.cell? ⟨b, 2, none⟩ = some v2 := by
  refine ⟨?_, ?_, ?_⟩ <;> simp [World.cell?, h]
theorem box_js {B : Nat} {w0 wr w6 w7 : World} {p q : Nat} {d d7 : Hw.HDisk} {F G F7 G7 : Nat → Prop} {j j7 : Hw.HJ} {o : Obj} (h : JJ B w0 wr p d F q j G) (b6 : Below (wr.alloc o).heap.size (wr.alloc o) w6) (h7 : JS B w0 p q F G w6 d7 j7 w7 F7 G7) : w7.heap[wr.heap.size]? = some o := by
  have hs := b6.size
  simp at hs
  rw [h7.u.block wr.heap.size (by omega) (fun hm => hm.elim (fun h' => Nat.lt_irrefl _ (h.dd.disk.lt h')) (fun h' => Nat.lt_irrefl _ (h.jat.lt h'))), b6.block wr.heap.size (by simp)]
  exact heap_alloc_new wr o
theorem few4_len (rs : List Hw.Bytes) : (Hw.few (rs.take 4)).length ≤ 4 := by simp [Hw.few]; omega
theorem few4_frames (rs : List Hw.Bytes) : (Hw.frames (Hw.few (rs.take 4))).length ≤ 2024 := by
  have h1 := Hw.frames_len_le (rs := Hw.few (rs.take 4)) (n := 500) (fun r hr => Hw.few_each hr)
  have h2 := few4_len rs
  have : (6 + 500) * (Hw.few (rs.take 4)).length ≤ 506 * 4 := Nat.mul_le_mul_left _ h2
  omega
/-- In the loop that lays records into the slice of strings. -/
structure AppRel (W : World) (p q : Nat) (d : Hw.HDisk) (t : Int) (b : Hw.Bytes) (rs qs : List Hw.Bytes) (F G : Nat → Prop) (v8 : Value) (us : List Value) (kk : Nat) (s8 : Value) (wr : World) : Prop where
  jj : JJ W.heap.size W wr p d F q ⟨t, b, rs ++ qs, false⟩ G
  ks : KS W.heap.size wr s8 (rs ++ qs.take kk) F G
  row : RdC (fun k => s8.ownBlock = some k) wr 1 v8 qs.length us
  rows : RdRows (fun k => W.heap.size ≤ k) wr us qs
theorem AppRel.next {W : World} {p q : Nat} {d : Hw.HDisk} {t : Int} {b : Hw.Bytes} {rs qs : List Hw.Bytes} {F G : Nat → Prop} {v8 : Value} {us : List Value} {kk : Nat} {s8 s9 : Value} {wr w9 : World} {x : Hw.Bytes} {o : Obj} (h : AppRel W p q d t b rs qs F G v8 us kk s8 wr) (hx : qs[kk]? = some x)
    (o9 : w9.ownsRow W.heap.size 9 1 s9 ((rs ++ qs.take kk).length + 1) (strs (rs ++ qs.take kk) ++ [.string (strB x)])) (g9 : (wr.alloc o).grownBy w9 s8.ownBlock) (a9 : s9.ownBlock = s8.ownBlock ∨ s9.ownBlock = some (wr.heap.size + 1)) : AppRel W p q d t b rs qs F G v8 us (kk + 1) s9 w9 := by
  have hsz : (wr.alloc o).heap.size = wr.heap.size + 1 := by simp
  have ha := below_new wr o
  have ks1 := h.ks.below ha
  have jj1 := h.jj.below ha
  have hcase : ∀ n, s9.ownBlock = some n → s8.ownBlock = some n ∨ (wr.alloc o).heap.size ≤ n := by
    intro n hn
    rcases a9 with a | a
    · exact .inl (a ▸ hn)
    · rw [a] at hn; cases hn; exact .inr (by rw [hsz]; omega)
  refine ⟨jj1.grow ks1 (Nat.le_refl _) g9, ?_, ?_, ?_⟩
  · rw [take_snoc' qs kk x hx, ← List.append_assoc]
    exact ks1.grown jj1 (OwnStrs.snoc o9) (by rw [hsz]; exact a9)
  · exact (h.row.below ha).upd (Upd.of_grown g9) (fun _ h => .inl h) hcase
  · exact (h.rows.below ha (fun b hb => Nat.le_trans h.jj.size hb)).upd (M' := fun k => W.heap.size ≤ k) (Upd.of_grown g9) (fun n hn => .inl (h.ks.own.lt n hn).1) (fun _ h => .inl h)
structure SRel (W : World) (p : Nat) (k : Nat) (s8 : Value) (q : Nat) (t : Int) (b : Hw.Bytes) (rs : List Hw.Bytes) (d : Hw.HDisk) (F G : Nat → Prop) (wr : World) : Prop where
  jj : JJ W.heap.size W wr p d F q ⟨t, b, rs, false⟩ G
  ks : KS W.heap.size wr s8 rs F G
  jc : Hw.JC d t b rs
  room : d.room = 262144
  t0 : 0 ≤ t
  t1 : t ≤ k
  lb : b.length ≤ 500
  lf : (Hw.frames rs).length ≤ 2024 * k
  lr : rs.length ≤ 4 * k
theorem SRel.used {W : World} {p k : Nat} {s8 : Value} {q : Nat} {t : Int} {b : Hw.Bytes} {rs : List Hw.Bytes} {d : Hw.HDisk} {F G : Nat → Prop} {wr : World} (h : SRel W p k s8 q t b rs d F G wr) : d.used ≤ 516 + 2024 * k := by
  have h1 := h.jc.jd.used
  have h2 := Hw.snapLen_le h.jc.jd.small h.lb
  have h3 := h.lf
  omega
set_option maxRecDepth 100000 in
set_option maxHeartbeats 4000000 in
theorem journalScript_walk (v : Value) (ac : List HA) (W : World) (ha : RdActs (fun k => W.heap.size ≤ k) W v ac) :
    Calls Try.prog 4 #[v] W (TrueRet W) := by
  obtain ⟨i0, hi, hy0, hy1, hy2⟩ := info_parts strrow
  obtain ⟨cs, hv, hcs⟩ := ha
  obtain ⟨A, c, rfl, l1, l2⟩ := hv.len
  unfold maxLen at l2
  obtain ⟨m, hm⟩ : ∃ m : Nat, m = min ac.length 60 := ⟨_, rfl⟩
  have hmi : min (ac.length : Int) 60 = (m : Int) := by omega
  have hm1 : m ≤ ac.length := by omega
  have hm2 : m ≤ 60 := by omega
  have hmc : m ≤ c := by omega
  have HV := Lib.hid (And.intro hv hcs)
  clear hv hcs hm
  go_enter Try.func4, Try.ntmps4
  go_wp2_with (first
    | (go_at_call 5; refine (awake06 _).mono ?_; rintro e w1 ⟨rfl, hb1⟩; have HB1 := Lib.hid hb1; clear hb1)
    | (go_at_call 7; refine (disk_Of 262144 _).mono ?_; intro e w2 hr; obtain ⟨p, F, rfl, h2, hb2⟩ := DD.of HB1.out hr; clear hr; have H2 := Lib.hid h2; clear h2; clear hb2)
    | (go_at_call 8; refine (lc_Open H2.out (Hw.JC.new 262144) rfl).mono ?_; rintro e w3 ⟨q, d3, F3, G3, rfl, h3, jc3, r3⟩; have H3 := Lib.hid h3.jj; have C3 := Lib.hid jc3; have R3 := Lib.hid r3; clear h3 jc3 r3)
    | (go_at_call 12; refine (lc_Shows H3.out (by simp) (RdC.nil (fun _ => False) _ _) rfl).mono ?_; rintro e w4 ⟨rfl, h4, _⟩; have H4 := Lib.hid h4; clear h4))
  go_loopw [4, 6, 7, 8, 39] (fun s4 s6 s7 s8 s39 wr => ∃ (k : Nat) (q : Nat) (t : Int) (b : Hw.Bytes) (rs : List Hw.Bytes) (d : Hw.HDisk) (F G : Nat → Prop) (wr' : World), wr' = wr ∧ k ≤ m ∧ s39 = .int .i64 k ∧ s4 = .pointer (some ⟨q, 0, none⟩) ∧ s6 = .string (strB b) ∧ s7 = .int .i64 t ∧ SRel W p k s8 q t b rs d F G wr') (fun _ _ _ _ s39 _ => (m - (intOf s39).toNat))
  case atStart => exact ⟨0, q, 0, [], [], d3, F3, G3, _, rfl, by omega, rfl, rfl, rfl, rfl, ⟨H4.out, KS.nil _ _ _ _, C3.out, R3.out.trans rfl, by omega, by omega, by simp, by simp [Hw.frames], by simp⟩⟩
  case round =>
    clear H3 C3 R3 H4
    obtain ⟨k, q, t, b, rs, d, F, G, wr, rfl, hk, rfl, rfl, rfl, rfl, hs⟩ := hrel
    by_cases hlt : k < m
    · obtain ⟨a, hax⟩ : ∃ a, ac[k]? = some a := ⟨ac[k], List.getElem?_eq_getElem (by omega)⟩
      obtain ⟨rv, bv, e0, e1, e2, hat⟩ := HV.out.2.get hax
      obtain ⟨b0, o0, c', hva, _, _, _, _, hbl, g4⟩ := HV.out.1.at (by omega)
      cases hva
      have hc0 : wr.cell? ⟨b0, o0 + k * 3, none⟩ = some (.int .u8 a.op) := (hs.jj.dd.bel.cell (p := ⟨b0, o0 + k * 3, none⟩) hbl).trans (g4 _ _ e0)
      have hc1 : wr.cell? ⟨b0, o0 + k * 3 + 1, none⟩ = some rv := (hs.jj.dd.bel.cell (p := ⟨b0, o0 + k * 3 + 1, none⟩) hbl).trans (by rw [Nat.add_assoc]; exact g4 _ _ e1)
      have hc2 : wr.cell? ⟨b0, o0 + k * 3 + 2, none⟩ = some bv := (hs.jj.dd.bel.cell (p := ⟨b0, o0 + k * 3 + 2, none⟩) hbl).trans (by rw [Nat.add_assoc]; exact g4 _ _ e2)
      have hop := hat.2.2
      have hat2 := hat
      obtain ⟨⟨us, hr1, _⟩, hb1, _⟩ := hat2
      obtain ⟨Ar, cr, rfl, _, _⟩ := hr1.len
      obtain ⟨Ab, cb, rfl, _, _⟩ := hb1.len
      have HAT := Lib.hid hat
      have HS := Lib.hid hs
      clear hs g4 e0 e1 e2 hat hr1 hb1 hax
      have hM : ∀ n, W.heap.size ≤ n → W.heap.size ≤ n := fun _ h => h
      have H5 := Lib.hid (HS.out.jj.al (.cells #[.int .u8 (a.op : Int), .slice Ar a.recs.length cr, .slice Ab a.bytes.length cb] 42))
      have K5 := Lib.hid (HS.out.ks.below (below_new wr (.cells #[.int .u8 (a.op : Int), .slice Ar a.recs.length cr, .slice Ab a.bytes.length cb] 42)))
      have hused := HS.out.used
      have t0 := HS.out.t0
      have t1 := HS.out.t1
      have hlr := HS.out.lr
      have hsm : Hw.Small (t + 1) := ⟨by omega, by omega⟩
      have HSM := Lib.hid hsm
      clear hsm
      have hk60 : k < 60 := by omega
      by_cases h0 : a.op % 4 = 0
      · have d0 : ((a.op : Int) % 4 == 0) = true := by simp; omega
        have hb5 : (a.bytes.take 500).length ≤ 500 := by rw [List.length_take]; omega
        have hsl : (Hw.varPut (t + 1) ++ a.bytes.take 500).length ≤ 16384 := by
          have := Hw.varSmall HSM.out; rw [List.length_append]; omega
        have hrm : d.used + (Hw.frameOf (Hw.varPut (t + 1) ++ a.bytes.take 500)).length ≤ 262144 := by
          have := Hw.saveLen_le (n := 500) HSM.out hb5; omega
        have HLN := Lib.hid (And.intro hsl (And.intro hrm hb5))
        clear hsl hrm h0
        go_wp2_with (first
          | (go_at_call 14; refine (act_bytes (HAT.out.belowB H5.out.dd.bel hM) _).mono ?_; rintro e w6 ⟨A6, m6, c6, rfl, hm6, r6, b6⟩; have H6 := Lib.hid (H5.out.below b6); have R6 := Lib.hid r6; have B6 := Lib.hid b6; clear hm6 r6 b6)
          | (go_at_call 13; refine (lc_Save (M := fun k => W.heap.size ≤ k) H6.out HS.out.jc HS.out.room R6.out (fun b hb => hb.elim (H6.out.dd.own b) (H6.out.own b)) (by have := HLN.out.2.2; omega) HSM.out HLN.out.1 HLN.out.2.1).mono ?_; rintro e w7 ⟨rfl, d7, F7, G7, h7, jc7, r7⟩; obtain ⟨x0, x1, x2⟩ := box_cells (box_js HS.out.jj B6.out h7); have H7 := Lib.hid h7.jj; have C7 := Lib.hid jc7; have R7 := Lib.hid r7; clear h7 jc7 r7)
          | (go_at_call 14; refine (act_bytes (HAT.out.belowB H7.out.dd.bel hM) _).mono ?_; rintro e w8 ⟨A8, m8, c8, rfl, hm8, r8, b8⟩; have H8 := Lib.hid (H7.out.below b8); have hs8 := RdB.str (M := fun k => W.heap.size ≤ k) r8; clear hm8 r8 b8)
          | (go_at_call 12; refine (lc_Shows H8.out (by simp) (RdC.nil (fun _ => False) _ _) rfl).mono ?_; rintro e w9 ⟨rfl, h9, _⟩; have H9 := Lib.hid h9; clear h9)
          | (go_at_call 17; refine (journal_Broken H9.out.jat).mono ?_; rintro e w10 ⟨rfl, rfl⟩))
        go_roundw
        case rel => exact ⟨k + 1, q, t + 1, a.bytes.take 500, [], d7, F7, G7, _, rfl, by omega, by go_num, rfl, rfl, rfl, ⟨H9.out, KS.nil _ _ _ _, C7.out, R7.out, by omega, by omega, HLN.out.2.2, by simp [Hw.frames], by simp⟩⟩
        case measure => simp [intOf]; omega
      · have d0 : ((a.op : Int) % 4 == 0) = false := by simp; omega
        by_cases h1 : a.op % 4 = 1
        · have d1 : ((a.op : Int) % 4 == 1) = true := by simp; omega
          go_wp2_with (first
            | (go_at_call 15; refine (lc_Restart H5.out HS.out.room a.op).mono ?_; rintro e w6 ⟨rfl, h6, r6, u6⟩; have H6 := Lib.hid h6; have R6 := Lib.hid r6; have K6 := Lib.hid ((K5.out.updF u6).noG); clear h6 r6 u6)
            | (go_at_call 8; refine (lc_Again H6.out HS.out.jc R6.out).mono ?_; rintro e w7 ⟨q7, d7, F7, G7, rfl, h7, jc7, r7⟩; have H7 := Lib.hid h7.jj; have C7 := Lib.hid jc7; have R7 := Lib.hid r7; have K7 := Lib.hid (K6.out.js h7); clear h7 jc7 r7)
            | (go_at_call 12; refine (lc_Shows H7.out (by omega) K7.out.rd rfl).mono ?_; rintro e w9 ⟨rfl, h9, b9⟩; have H9 := Lib.hid h9; have K9 := Lib.hid (K7.out.below b9); clear h9 b9)
            | (go_at_call 17; refine (journal_Broken H9.out.jat).mono ?_; rintro e w10 ⟨rfl, rfl⟩))
          go_roundw
          case rel => exact ⟨k + 1, q7, t, b, rs, d7, F7, G7, _, rfl, by omega, by go_num, rfl, rfl, rfl, ⟨H9.out, K9.out, C7.out, R7.out, by omega, by omega, HS.out.lb, by have := HS.out.lf; omega, by omega⟩⟩
          case measure => simp [intOf]; omega
        · have d1 : ((a.op : Int) % 4 == 1) = false := by simp; omega
          have HFL := Lib.hid (few4_frames a.recs)
          have HFN := Lib.hid (few4_len a.recs)
          have HFE := Lib.hid (fun (r : Hw.Bytes) (hr : r ∈ Hw.few (a.recs.take 4)) => Nat.le_trans (Hw.few_each hr) (show 500 ≤ 16384 by decide))
          have hrm : d.used + (Hw.frames (Hw.few (a.recs.take 4))).length ≤ 262144 := by have := HFL.out; omega
          have HRM := Lib.hid hrm; clear hrm
          have hfn := HFN.out
          go_wp2_with (first
            | (go_at_call 16; refine (act_few (HAT.out.belowB H5.out.dd.bel hM) _ (fun b hb => Nat.le_trans H5.out.size hb)).mono ?_; rintro e w6 ⟨v6, u6, rfl, o6, r6, b6⟩; have H6 := Lib.hid (H5.out.below b6); have K6 := Lib.hid (K5.out.below b6); have R6 := Lib.hid (RdC.of_own (M := fun k => F k ∨ G k) o6 (fun k hk hm => by have h1 := (o6.lt k hk).1; simp at h1; exact hm.elim (fun h => by have := HS.out.jj.dd.disk.lt h; omega) (fun h => by have := HS.out.jj.jat.lt h; omega))); have RR6 := Lib.hid (r6.mono (M' := fun k => F k ∨ G k) (fun k hm => hm.elim (HS.out.jj.dd.own k) (HS.out.jj.own k))); have B6 := Lib.hid b6; clear o6 r6 b6)
            | (go_at_call 9; refine (lc_Append H6.out HS.out.jc HS.out.room (by omega) R6.out RR6.out (fun _ h => h) (by omega) HFE.out HRM.out).mono ?_; rintro e w7 ⟨rfl, d7, F7, G7, h7, jc7, r7⟩; obtain ⟨x0, x1, x2⟩ := box_cells (box_js HS.out.jj B6.out h7); have H7 := Lib.hid h7.jj; have C7 := Lib.hid jc7; have R7 := Lib.hid r7; have K7 := Lib.hid (K6.out.js h7); clear h7 jc7 r7)
            | (go_at_call 16; refine (act_few (HAT.out.belowB H7.out.dd.bel hM) _ (fun b hb => Nat.le_trans H7.out.size hb)).mono ?_; rintro e w8 ⟨v8, u8', rfl, o8, r8, b8⟩; have HAR := Lib.hid (show AppRel W p q d7 t b rs (Hw.few (a.recs.take 4)) F7 G7 v8 u8' 0 _ w8 from ⟨H7.out.below b8, by simpa using K7.out.below b8, RdC.of_own o8 (fun k hk hm => by have h1 := (o8.lt k hk).1; have := own_lt K7.out.own hm; omega), r8⟩); obtain ⟨A8, c8, rfl⟩ := own_form o8; clear o8 r8 b8))
          generalize hqs : Hw.few (a.recs.take 4) = qs at *
          clear hqs
          go_loopw [8, 54] (fun s8 s54 wr => ∃ (kk : Nat) (wr' : World), wr' = wr ∧ kk ≤ qs.length ∧ s54 = .int .i64 kk ∧ AppRel W p q d7 t b rs qs F7 G7 (.slice A8 qs.length c8) u8' kk s8 wr') (fun _ s54 _ => (qs.length - (intOf s54).toNat))
          case atStart => exact ⟨0, _, rfl, by omega, rfl, HAR.out⟩
          case round =>
            obtain ⟨kk, wr2, rfl, hkk, rfl, har⟩ := hrel
            by_cases hlt2 : kk < qs.length
            · obtain ⟨x, hx⟩ : ∃ x, qs[kk]? = some x := ⟨qs[kk], List.getElem?_eq_getElem hlt2⟩
              obtain ⟨u, hu, hux⟩ := har.rows.get hx
              obtain ⟨A3, c3, rfl, m1, m2⟩ := hux.len
              obtain ⟨b1, o1, c1', hvb, _, _, _, _, hbl1, g5⟩ := har.row.at (by omega)
              cases hvb
              have hcx := g5 kk _ hu
              have hs0 := hux.str
              have hll : (rs ++ qs.take kk).length = rs.length + kk := by rw [List.length_append, List.length_take]; omega
              have HLL := Lib.hid hll
              have HXR := Lib.hid hx
              have HAR2 := Lib.hid har
              have hszB := har.jj.size
              clear hx g5 hu hux hbl1 m1 m2 har hll
              go_wp2_with (at_builtin; refine wpAppend _ rfl _ _ 37 rfl W.heap.size 9 i0 (.string ⟨#[]⟩) 1 16 strslice hi hy0 hy1 hy2 rfl (by decide) _ _ _ rfl (HAR2.out.ks.own.alloc _) (fun _ => False) _ 1 _ rfl (RdC.made _ 1 1 #[.string (strB x)] _ rfl (by decide) (fun h => h)) ?_ ?_ ?_ ?_ ?_)
              · simp [Value.oneCell']
              · rw [HLL.out]; unfold maxLen; omega
              · rw [HLL.out]; omega
              · simp; omega
              · intro v9 w9 o9 g9 a9
                have HN := Lib.hid (HAR2.out.next HXR.out (by first | exact o9 | (rw [HLL.out]; exact o9)) g9 (by simpa using a9))
                clear o9 g9 a9
                go_wp2_with fail
                go_roundw
                case rel => exact ⟨kk + 1, _, rfl, by omega, by go_num, HN.out⟩
                case measure => simp [intOf]; omega
            · have hkk' : kk = qs.length := by omega
              rw [hkk'] at har
              have hjj := har.jj
              have hks := har.ks
              rw [List.take_length] at hks
              obtain ⟨r9, hr9⟩ : ∃ r9, r9 = rs ++ qs := ⟨_, rfl⟩
              have hll : r9.length = rs.length + qs.length := by rw [hr9, List.length_append]
              have hlf2 : (Hw.frames r9).length ≤ 2024 * (k + 1) := by
                have h1 := HS.out.lf
                have h2 := HFL.out
                rw [hr9, Hw.frames_append, List.length_append]; omega
              have hc7 := C7.out
              rw [← hr9] at hjj hks hc7
              obtain ⟨A9, c9, rfl⟩ := hks.own.form
              have H9 := Lib.hid hjj
              have K9 := Lib.hid hks
              have C9 := Lib.hid hc7
              have HLF := Lib.hid hlf2
              have hr9l : r9.length ≤ 4 * (k + 1) := by omega
              clear har hjj hks hll hlf2 hr9 hc7
              go_wp2_with (first
                | (go_at_call 12; refine (lc_Shows H9.out (by omega) K9.out.rd rfl).mono ?_; rintro e w10 ⟨rfl, h10, b10⟩; have H10 := Lib.hid h10; have K10 := Lib.hid (K9.out.below b10); clear h10 b10)
                | (go_at_call 17; refine (journal_Broken H10.out.jat).mono ?_; rintro e w11 ⟨rfl, rfl⟩))
              go_roundw
              case rel => exact ⟨k + 1, q, t, b, r9, d7, F7, G7, _, rfl, by omega, by go_num, rfl, rfl, rfl, ⟨H10.out, K10.out, C9.out, R7.out, by omega, by omega, HS.out.lb, HLF.out, hr9l⟩⟩
              case measure => simp [intOf]; omega
    · have HS := Lib.hid hs
      clear hs
      go_wp2_with fail
      go_ret
      exact ⟨rfl, HS.out.jj.dd.bel⟩
end Go.Proofs.Ytihncdlbbhmglaa


namespace Go.Proofs.Ytihncdlbbhmglaa
open Go.ChangeShapes Go.WideShapes Go.ChangeAt Go.RowKit

theorem journalScript_own : ownKnob Try.prog.godebug = none := by kernel_rfl
theorem journalScript_laidOut : laidOutB Try.prog = true := by kernel_rfl
set_option maxRecDepth 100000 in
theorem journalScript_lifted (os : Os) (started : os.Started) (H : Type) (enc : TypeId × Value → H) :
    ReturnsInHanded {} Try.checked os 4 .any (Rows.journalScriptSpec.pre6 enc Try.prog Try.f4 Rows.journalScriptRow.domain false) (Rows.journalScriptSpec.post enc Try.prog Try.f4 false true false false) := by
  refine returnsInHanded_of_change (C := Try.checked) journalScript_own started (by kernel_rfl) Try.func4
    (ChangeSpec.witness6 (enc := enc) (C := Try.checked) false ⟨#[], #[.slice none 0 0], []⟩ 8 (by kernel_rfl) (by kernel_rfl) (by kernel_rfl) (by kernel_rfl)) ?_
  intro W base args ds gs before hval0 hW hcnd _
  have hval : ∀ (j : Nat) t v, Try.f4.params[j]? = some t → args[j]? = some v → Value.okWide Try.prog W .any base t v := hval0
  have hW' := hW
  obtain ⟨p, q, hA0, hV, rfl, hfz, hnd⟩ := hW
  have hA : DataW.TrodAll enc Try.prog W 0 (fun _ => true) true Try.f4.params.toList args.toList ds p := hA0
  rw [Try.params4] at hA hval
  obtain ⟨v0, vs0, d0, ds0, p0, q0, hargs, rfl, rfl, h0, r0⟩ := trodAll_cons hA
  obtain ⟨rfl, rfl, rfl⟩ := trodAll_nil r0
  obtain rfl : args = #[v0] := by cases args; simp_all
  obtain ⟨rfl, rfl⟩ := trodVars_none hV
  have lt0 : ∀ x ∈ p0, x.block < W.heap.size := by obtain ⟨m, hm⟩ := h0; exact DataW.trod_lt m _ _ _ hm
  obtain ⟨as0, ha0⟩ := argActs (hval 0 40 v0 rfl rfl) h0
  clear hA0 hval0
  have wk := journalScript_walk v0 as0 W ha0
  refine wk.mono fun e W' ⟨he, bel⟩ => ?_
  subst he
  exact ⟨_, rfl, _, _, _, [], _, [], hW', trodAll_mk1 (shut_bool Try.underlying4 _), (trodAll_cons_mk (Below.trod journalScript_laidOut (by kernel_rfl) (of_decide_eq_true (by kernel_rfl)) h0 bel lt0) trodAll_mk0), rfl, bel.frame _, fun h => by cases h⟩
theorem journalScript_said : Rows.JournalScriptSaid :=
  OpenClaim.holds_of_wide 4 Try.f4 rfl rfl rfl rfl rfl rfl rfl ⟨rfl, rfl, rfl, rfl, rfl⟩ rfl rfl rfl rfl rfl (by kernel_rfl) Try.func4 (by kernel_rfl)
    (of_decide_eq_true (by kernel_rfl)) (by unfold Func.isWrapper; rw [if_neg (of_decide_eq_false (by kernel_rfl))]; exact ⟨rfl, rfl⟩)
    (fun os started H enc _ => journalScript_lifted os started H enc)
#print axioms journalScript_said
end Go.Proofs.Ytihncdlbbhmglaa
