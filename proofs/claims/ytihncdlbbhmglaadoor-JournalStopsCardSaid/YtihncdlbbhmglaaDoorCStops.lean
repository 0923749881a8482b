/- PROVED HERE: hawalalaw06.JournalStops returns true for every input, and each argument reads behind the call as it read before; no condition beyond the statement's own cells (errors.errorType is laid as the program's text lays it: the card ties it). -/
import Derived.Deep.CutBlock
import Derived.SevenTiedAt
import Derived.Test.YtihncdlbbhmglaaDoorQ5
import Derived.Test.YtihncdlbbhmglaaDoorQ4
import Derived.Test.YtihncdlbbhmglaaDoorCards
import Derived.Test.YtihncdlbbhmglaaDoorTie
set_option linter.unusedVariables false
set_option linter.unusedSimpArgs false
/- Words of the laws: acts beside a journal; a stop, and what is opened behind it. The door's seat. -/
namespace Go.Proofs.YtihncdlbbhmglaaDoor
open Go.RowKit

/-- The box of an act, beside a disk and a journal. -/
structure Box (w : World) (b : Nat) (o : Obj) (F G : Nat → Prop) : Prop where
  at_ : w.heap[b]? = some o
  nf : ¬ F b
  ng : ¬ G b
theorem Box.lt {w : World} {b : Nat} {o : Obj} {F G : Nat → Prop} (h : Box w b o F G) : b < w.heap.size := by
  have := h.at_
  rcases Nat.lt_or_ge b w.heap.size with h1 | h1
  · exact h1
  · rw [Array.getElem?_eq_none h1] at this; cases this
theorem Box.made {B : Nat} {w0 w : World} {p q : Nat} {d : Hw.HDisk} {F G : Nat → Prop} {j : Hw.HJ} (h : JJ B w0 w p d F q j G) (o : Obj) : Box (w.alloc o) w.heap.size o F G :=
  ⟨heap_alloc_new w o, fun h' => Nat.lt_irrefl _ (h.dd.disk.lt h'), fun h' => Nat.lt_irrefl _ (h.jat.lt h')⟩
theorem Box.upd {H : Nat → Prop} {w w' : World} {b : Nat} {o : Obj} {F G : Nat → Prop} (h : Box w b o F G) (u : Upd H w w') (hn : ¬ H b) : Box w' b o F G := ⟨(u.block b h.lt hn).trans h.at_, h.nf, h.ng⟩
theorem Box.js {B : Nat} {w0 w w' : World} {p q b : Nat} {o : Obj} {d : Hw.HDisk} {F G F' G' : Nat → Prop} {j : Hw.HJ} (h : Box w b o F G) (k : JS B w0 p q F G w d j w' F' G') : Box w' b o F' G' := by
  have hl := h.lt
  refine ⟨(h.upd k.u (fun hm => hm.elim h.nf h.ng)).at_, fun hf => ?_, fun hg => ?_⟩
  · rcases k.f b hf with e | e
    · exact h.nf e
    · omega
  · rcases k.g b hg with e | e
    · exact h.ng e
    · omega
theorem Box.new {w w' : World} {b : Nat} {o : Obj} {F G : Nat → Prop} (h : Box w b o F G) (u : Upd (fun _ => False) w w') : Box w' b o F G := h.upd u (fun h => h)
theorem Box.below {w w' : World} {b : Nat} {o : Obj} {F G : Nat → Prop} (h : Box w b o F G) (u : Below w.heap.size w w') : Box w' b o F G := h.new (Upd.of_below u)
theorem Box.updF {w w' : World} {b : Nat} {o : Obj} {F G : Nat → Prop} (h : Box w b o F G) (u : Upd F w w') : Box w' b o F G := h.upd u h.nf
theorem Box.noG {w : World} {b : Nat} {o : Obj} {F G : Nat → Prop} (h : Box w b o F G) : Box w b o F (fun _ => False) := ⟨h.at_, h.nf, fun h => h⟩
theorem Box.cells {w : World} {b : Nat} {v0 v1 v2 : Value} {t : TypeId} {F G : Nat → Prop} (h : Box w b (.cells #[v0, v1, v2] t (0, 0)) F G) : w.cell? ⟨b, 0, none⟩ = some v0 ∧ w.cell? ⟨b, 1, none⟩ = some v1 ∧ w.cell? ⟨b, 2, none⟩ = some v2 := by
  have h := h.at_
  refine ⟨?_, ?_, ?_⟩ <;> simp [World.cell?, h]
theorem few4_len (rs : List Hw.Bytes) : (Hw.few (rs.take 4)).length ≤ 4 := by simp [Hw.few]; omega
theorem few4_frames (rs : List Hw.Bytes) (k : Nat) : (Hw.frames ((Hw.few (rs.take 4)).take k)).length ≤ 2024 := by
  have h1 := Hw.frames_len_le (rs := (Hw.few (rs.take 4)).take k) (n := 500) (fun r hr => Hw.few_each (List.mem_of_mem_take hr))
  have h2 := few4_len rs
  have h3 : ((Hw.few (rs.take 4)).take k).length ≤ 4 := by rw [List.length_take]; omega
  have : (6 + 500) * ((Hw.few (rs.take 4)).take k).length ≤ 506 * 4 := Nat.mul_le_mul_left _ h3
  omega
/-- In the loop that lays records into the slice of strings. -/
structure AppRel (W : World) (p q : Nat) (d : Hw.HDisk) (t : Int) (b : Hw.Bytes) (rs qs : List Hw.Bytes) (F G : Nat → Prop) (v8 : Value) (us : List Value) (kk : Nat) (s8 : Value) (wr : World) : Prop where
  jj : JJ W.heap.size W wr p d F q ⟨t, b, rs ++ qs, false⟩ G
  ks : KS W.heap.size wr s8 (rs ++ qs.take kk) F G
  row : RdC (fun k => s8.ownBlock = some k) wr 1 v8 qs.length us
  rows : RdRows (fun k => W.heap.size ≤ k) wr us qs
theorem AppRel.next {W : World} {p q : Nat} {d : Hw.HDisk} {t : Int} {b : Hw.Bytes} {rs qs : List Hw.Bytes} {F G : Nat → Prop} {v8 : Value} {us : List Value} {kk : Nat} {s8 s9 : Value} {wr w9 : World} {x : Hw.Bytes} {o : Obj} (h : AppRel W p q d t b rs qs F G v8 us kk s8 wr) (hx : qs[kk]? = some x)
    (o9 : w9.ownsRow W.heap.size 9 1 s9 ((rs ++ qs.take kk).length + 1) (strs (rs ++ qs.take kk) ++ [.string (strB x)])) (g9 : (wr.alloc o).grownBy w9 s8.ownBlock) (a9 : s9.ownBlock = s8.ownBlock ∨ s9.ownBlock = some (wr.heap.size + 1)) : AppRel W p q d t b rs qs F G v8 us (kk + 1) s9 w9 := by
  have hsz : (wr.alloc o).heap.size = wr.heap.size + 1 := by simp
  have ha := below_new wr o
  have ks1 := h.ks.below ha
  have jj1 := h.jj.below ha
  have hcase : ∀ n, s9.ownBlock = some n → s8.ownBlock = some n ∨ (wr.alloc o).heap.size ≤ n := by
    intro n hn
    rcases a9 with a | a
    · exact .inl (a ▸ hn)
    · rw [a] at hn; cases hn; exact .inr (by rw [hsz]; omega)
  refine ⟨jj1.grow ks1 (Nat.le_refl _) g9, ?_, ?_, ?_⟩
  · rw [take_snoc' qs kk x hx, ← List.append_assoc]
    exact ks1.grown jj1 (OwnStrs.snoc o9) (by rw [hsz]; exact a9)
  · exact (h.row.below ha).upd (Upd.of_grown g9) (fun _ h => .inl h) hcase
  · exact (h.rows.below ha (fun b hb => Nat.le_trans h.jj.size hb)).upd (M' := fun k => W.heap.size ≤ k) (Upd.of_grown g9) (fun n hn => .inl (h.ks.own.lt n hn).1) (fun _ h => .inl h)
theorem jj_arm {B : Nat} {w0 w w' : World} {p q : Nat} {d d' : Hw.HDisk} {F G : Nat → Prop} {j : Hw.HJ} {e : Ending} (h : JJ B w0 w p d F q j G) (hr : ArmRet p d' F w e w') : e = .returned (.tuple #[]) ∧ JJ B w0 w' p d' F q j G := by
  obtain ⟨rfl, h1, u⟩ := hr
  exact ⟨rfl, ⟨h1, h.dd.own, h.dd.bel.trans (u.below h.dd.size h.dd.own), h.dd.base⟩, h.jat.upd u (fun b hb hf => h.disj b hf hb), h.own, h.disj⟩
theorem jd_arm {d : Hw.HDisk} {t : Int} {b : Hw.Bytes} {rs : List Hw.Bytes} (h : Hw.JD d t b rs) (n : Int) : Hw.JD (d.arm n) t b rs := ⟨h.wf.arm n, h.small, h.snap, h.snapSafe, h.recs, h.lens, h.others⟩
theorem lc_Stopped {B : Nat} {w0 w : World} {p q : Nat} {d : Hw.HDisk} {F G : Nat → Prop} {j : Hw.HJ} (h : JJ B w0 w p d F q j G) (hs : d.stopped = true) :
    Calls Tryd.prog 27 #[.pointer (some ⟨p, 0, none⟩)] w fun e w' => e = .returned (.bool true) ∧ w = w' :=
  (disk_Stopped p d F w h.dd.disk).mono fun e w' hh => by rw [hs] at hh; exact hh
theorem lc_Broken {B : Nat} {w0 w : World} {p q : Nat} {d : Hw.HDisk} {F G : Nat → Prop} {j : Hw.HJ} (h : JJ B w0 w p d F q j G) (hs : j.broken = true) :
    Calls Tryd.prog 24 #[.pointer (some ⟨q, 0, none⟩)] w fun e w' => e = .returned (.bool true) ∧ w = w' :=
  (journal_Broken h.jat).mono fun e w' hh => by rw [hs] at hh; exact hh
theorem lc_ShowsNo {B : Nat} {w0 w : World} {p q : Nat} {d : Hw.HDisk} {F G M : Nat → Prop} {j : Hw.HJ} {b : Hw.Bytes} {rs : List Hw.Bytes} {t : Int} (h : JJ B w0 w p d F q j G) (hjn : j.records.length ≤ 1000000000) {v : Value} (hv : RdC M w 1 v rs.length (strs rs)) (hne : ¬ (j.base = b ∧ j.turn = t ∧ j.records = rs)) {s : ByteArray} (hs : strB b = s) :
    Calls Tryd.prog 20 #[.pointer (some ⟨q, 0, none⟩), .string s, v, .int .i64 t] w (fun e w' => e = .returned (.bool false) ∧ JJ B w0 w' p d F q j G ∧ Below w.heap.size w w') := by
  subst hs
  refine (shows_walk h.jat hjn b hv t).mono fun e w' hh => ?_
  obtain ⟨e1, hb⟩ := hh
  exact ⟨by rw [e1, shows_no hne], h.below hb, hb⟩
/-- Behind Open of a disk that had stopped: some of the records that were under way are there. -/
theorem lc_Wake {B : Nat} {w0 w : World} {p : Nat} {d : Hw.HDisk} {F : Nat → Prop} {t : Int} {b : Hw.Bytes} {rs qs : List Hw.Bytes} {n : Int} (h : DD B w0 w p (d.restart n) F) (hg : Hw.JG d t b rs qs) (hf : d.files.length ≤ 1000) :
    Calls Tryd.prog 18 #[.pointer (some ⟨p, 0, none⟩)] w (fun e w' => ∃ k q d' F' G', e = .returned (.tuple #[.pointer (some ⟨q, 0, none⟩), .nilIface]) ∧ k ≤ qs.length ∧ JS B w0 p q F (fun _ => False) w d' ⟨t, b, rs ++ qs.take k, false⟩ w' F' G' ∧ Hw.JC d' t b (rs ++ qs.take k) ∧ d'.room = d.room) := by
  obtain ⟨d', k, hk, h1, h2, h3, h4⟩ := hg.open n
  refine (open_ok h (by rw [Hw.restart_files]; exact hf) h1).mono fun e w' hh => ?_
  obtain ⟨q, F', G', e1, hj⟩ := hh
  exact ⟨k, q, d', F', G', e1, hk, hj, ⟨h3, h2⟩, h4⟩
theorem lc_Wake0 {B : Nat} {w0 w : World} {p : Nat} {d : Hw.HDisk} {F : Nat → Prop} {t : Int} {b : Hw.Bytes} {rs : List Hw.Bytes} {n : Int} (h : DD B w0 w p (d.restart n) F) (hg : Hw.JG d t b rs []) (hf : d.files.length ≤ 1000) :
    Calls Tryd.prog 18 #[.pointer (some ⟨p, 0, none⟩)] w (fun e w' => ∃ q d' F' G', e = .returned (.tuple #[.pointer (some ⟨q, 0, none⟩), .nilIface]) ∧ JS B w0 p q F (fun _ => False) w d' ⟨t, b, rs, false⟩ w' F' G') :=
  (lc_Wake h hg hf).mono fun e w' hh => by
    obtain ⟨k, q, d', F', G', e1, hk, hj, _⟩ := hh
    rw [List.take_nil, List.append_nil] at hj
    exact ⟨q, d', F', G', e1, hj⟩
/-- A row of one byte, and its string. -/
theorem u8s_byte {z : Nat} (hz : z < 256) : u8s [UInt8.ofNat z] = [.int .u8 (z : Int)] := by
  simp only [u8s, List.map_cons, List.map_nil, UInt8.toNat_ofNat']
  rw [Nat.mod_eq_of_lt (by omega)]
theorem rd_byte (M : Nat → Prop) (w : World) {z : Nat} (hz : z < 256) (e : TypeId) (hM : ¬ M w.heap.size) : RdB M (w.alloc (.cells #[.int .u8 (z : Int)] e)) (.slice (some ⟨w.heap.size, 0, none⟩) 1 1) [UInt8.ofNat z] := by
  have h := RdC.made (M := M) w 1 1 #[.int .u8 (z : Int)] e rfl (by decide) hM
  unfold RdB
  rw [u8s_byte hz]
  exact h
structure StRel (W : World) (p q : Nat) (k : Nat) (s14 : Value) (t : Int) (b : Hw.Bytes) (rs : List Hw.Bytes) (d : Hw.HDisk) (F G : Nat → Prop) (wr : World) : Prop where
  jj : JJ W.heap.size W wr p d F q ⟨t, b, rs, false⟩ G
  ks : KS W.heap.size wr s14 rs F G
  jd : Hw.JD d t b rs
  room : d.room = 262144
  on : d.stopped = false
  t0 : 0 ≤ t
  t1 : t ≤ k
  lb : b.length ≤ 500
  lf : (Hw.frames rs).length ≤ 2024 * k
  lr : rs.length ≤ 4 * k
theorem StRel.used {W : World} {p q k : Nat} {s8 : Value} {t : Int} {b : Hw.Bytes} {rs : List Hw.Bytes} {d : Hw.HDisk} {F G : Nat → Prop} {wr : World} (h : StRel W p q k s8 t b rs d F G wr) : d.used ≤ 516 + 2024 * k := by
  have h1 := h.jd.used
  have h2 := Hw.snapLen_le h.jd.small h.lb
  have h3 := h.lf
  omega
/-- In the loop that looks how many records are there. -/
structure FindRel (W : World) (p q : Nat) (d : Hw.HDisk) (t : Int) (b : Hw.Bytes) (rs qs r9 : List Hw.Bytes) (F G : Nat → Prop) (bx : Nat) (o : Obj) (n : Nat) (s14 : Value) (wr : World) : Prop where
  jj : JJ W.heap.size W wr p d F q ⟨t, b, r9, false⟩ G
  ks : KS W.heap.size wr s14 (rs ++ qs.take n) F G
  box : Box wr bx o F G
  nb : ∀ i, s14.ownBlock = some i → i ≠ bx
theorem FindRel.below {W : World} {p q : Nat} {d : Hw.HDisk} {t : Int} {b : Hw.Bytes} {rs qs r9 : List Hw.Bytes} {F G : Nat → Prop} {bx : Nat} {o : Obj} {n : Nat} {s14 : Value} {wr w' : World} (h : FindRel W p q d t b rs qs r9 F G bx o n s14 wr) (hb : Below wr.heap.size wr w') : FindRel W p q d t b rs qs r9 F G bx o n s14 w' :=
  ⟨h.jj.below hb, h.ks.below hb, h.box.below hb, h.nb⟩
theorem FindRel.next {W : World} {p q : Nat} {d : Hw.HDisk} {t : Int} {b : Hw.Bytes} {rs qs r9 : List Hw.Bytes} {F G : Nat → Prop} {bx : Nat} {o : Obj} {n : Nat} {s14 s9 : Value} {wr w9 : World} {x : Hw.Bytes} {o1 : Obj} (h : FindRel W p q d t b rs qs r9 F G bx o n s14 wr) (hx : qs[n]? = some x)
    (o9 : w9.ownsRow W.heap.size 9 1 s9 ((rs ++ qs.take n).length + 1) (strs (rs ++ qs.take n) ++ [.string (strB x)])) (g9 : (wr.alloc o1).grownBy w9 s14.ownBlock) (a9 : s9.ownBlock = s14.ownBlock ∨ s9.ownBlock = some (wr.heap.size + 1)) : FindRel W p q d t b rs qs r9 F G bx o (n + 1) s9 w9 := by
  have hsz : (wr.alloc o1).heap.size = wr.heap.size + 1 := by simp
  have h1 := h.below (below_new wr o1)
  have hl := h.box.lt
  refine ⟨h1.jj.grow h1.ks (Nat.le_refl _) g9, ?_, h1.box.upd (Upd.of_grown g9) (fun e => h.nb _ e rfl), fun i hi => ?_⟩
  · rw [take_snoc' qs n x hx, ← List.append_assoc]
    exact h1.ks.grown h1.jj (OwnStrs.snoc o9) (by rw [hsz]; exact a9)
  · rcases a9 with a | a
    · exact h.nb i (a ▸ hi)
    · rw [a] at hi; cases hi; omega
end Go.Proofs.YtihncdlbbhmglaaDoor

/- hawalalaw06.JournalStops: the walk. The door's seat. -/
namespace Go.Proofs.YtihncdlbbhmglaaDoor
open Go.RowKit

theorem alloc_size1 (w : World) (o : Obj) : (w.alloc o).heap.size = w.heap.size + 1 := by simp
theorem made2 (M : Nat → Prop) (w : World) (o : Obj) (v : Value) (e : TypeId) (hM : ¬ M (w.heap.size + 1)) : RdC M ((w.alloc o).alloc (.cells #[v] e)) 1 (.slice (some ⟨w.heap.size + 1, 0, none⟩) 1 1) 1 [v] := by
  have h := RdC.made (M := M) (w.alloc o) 1 1 #[v] e rfl (by decide) (by rw [alloc_size1]; exact hM)
  rw [alloc_size1] at h
  exact h
theorem row_byte (M : Nat → Prop) (w : World) {z : Nat} (hz : z < 256) (e1 e2 : TypeId) (h0 : ¬ M w.heap.size) (h1 : ¬ M (w.heap.size + 1)) :
    RdC M ((w.alloc (.cells #[.int .u8 (z : Int)] e1)).alloc (.cells #[.slice (some ⟨w.heap.size, 0, none⟩) 1 1] e2)) 1 (.slice (some ⟨w.heap.size + 1, 0, none⟩) 1 1) [[UInt8.ofNat z]].length [.slice (some ⟨w.heap.size, 0, none⟩) 1 1] ∧
    RdRows M ((w.alloc (.cells #[.int .u8 (z : Int)] e1)).alloc (.cells #[.slice (some ⟨w.heap.size, 0, none⟩) 1 1] e2)) [.slice (some ⟨w.heap.size, 0, none⟩) 1 1] [[UInt8.ofNat z]] := by
  have h := row_one M (w.alloc (.cells #[.int .u8 (z : Int)] e1)) (.slice (some ⟨w.heap.size, 0, none⟩) 1 1) [UInt8.ofNat z] e2 (rd_byte M w hz e1 h0) (by rw [alloc_size1]; exact h1)
  rw [alloc_size1] at h
  exact h
theorem frames_byte (x : UInt8) : (Hw.frames [[x]]).length = 7 := by simp [Hw.frames, Hw.frameOf_length]
set_option maxRecDepth 100000 in
set_option maxHeartbeats 3000000 in
theorem journalStops_walk (v : Value) (ac : List HA) (N : Nat) (KP : Int) (Z : Nat) (W : World) (ha : RdActs (fun k => W.heap.size ≤ k) W v ac) (hN : N ≤ 255) (hK0 : -9223372036854775808 ≤ KP) (hK1 : KP ≤ 9223372036854775807) (hZ : Z ≤ 255) (hg : ErrT W) :
    Calls Tryd.prog 7 #[v, .int .u8 N, .int .i64 KP, .int .u8 Z] W (TrueRet W) := by
  obtain ⟨i0, hi, hy0, hy1, hy2⟩ := info_parts strrow
  obtain ⟨cs, hv, hcs⟩ := ha
  obtain ⟨A, c, rfl, l1, l2⟩ := hv.len
  unfold maxLen at l2
  have hpos := hg.pos
  have HG := Lib.hid hg
  obtain ⟨m, hm⟩ : ∃ m : Nat, m = min ac.length 60 := ⟨_, rfl⟩
  have hmi : min (ac.length : Int) 60 = (m : Int) := by omega
  have hm1 : m ≤ ac.length := by omega
  have hm2 : m ≤ 60 := by omega
  have hmc : m ≤ c := by omega
  have HV := Lib.hid (And.intro hv hcs)
  have HZ := Lib.hid (show Z < 256 by omega)
  clear hv hcs hm hg
  go_enter Tryd.func7, Tryd.ntmps7
  go_wp2_with (first
    | (go_at_call 14; refine (awake06 _).mono ?_; rintro e w1 ⟨rfl, hb1⟩; have HB1 := Lib.hid hb1; clear hb1)
    | (go_at_call 9; refine (disk_Of 262144 _).mono ?_; intro e w2 hr; obtain ⟨p, F, rfl, h2, hb2⟩ := DD.of HB1.out hr; clear hr; have H2 := Lib.hid h2; clear h2; clear hb2)
    | (go_at_call 18; refine (lc_Open H2.out (Hw.JC.new 262144) rfl).mono ?_; rintro e w3 ⟨q, d3, F3, G3, rfl, h3, jc3, r3⟩; have H3 := Lib.hid h3.jj; have C3 := Lib.hid jc3; have R3 := Lib.hid r3; clear h3 jc3 r3)
    | (go_at_call 25; refine (disk_Arm p d3 F3 ((N : Int) % 30) _ H3.out.dd.disk (by omega)).mono ?_; intro e w4 hr; obtain ⟨rfl, h4⟩ := jj_arm H3.out hr; have H4 := Lib.hid h4; clear hr h4))
  go_loopw [12, 13, 14, 52] (fun s12 s13 s14 s52 wr => ∃ (k : Nat) (t : Int) (b : Hw.Bytes) (rs : List Hw.Bytes) (d : Hw.HDisk) (F G : Nat → Prop) (wr' : World), wr' = wr ∧ k ≤ m ∧ s52 = .int .i64 k ∧ s12 = .string (strB b) ∧ s13 = .int .i64 t ∧ StRel W p q k s14 t b rs d F G wr') (fun _ _ _ s52 _ => (m - (intOf s52).toNat))
  case atStart => exact ⟨0, 0, [], [], _, F3, G3, _, rfl, by omega, rfl, rfl, rfl, ⟨H4.out, KS.nil _ _ _ _, jd_arm C3.out.jd _, R3.out.trans rfl, C3.out.calm.1, by omega, by omega, by simp, by simp [Hw.frames], by simp⟩⟩
  case round =>
    clear H3 C3 R3 H4
    obtain ⟨k, t, b, rs, d, F, G, wr, rfl, hk, rfl, rfl, rfl, hs⟩ := hrel
    by_cases hlt : k < m
    · obtain ⟨a, hax⟩ : ∃ a, ac[k]? = some a := ⟨ac[k], List.getElem?_eq_getElem (by omega)⟩
      obtain ⟨rv, bv, e0, e1, e2, hat⟩ := HV.out.2.get hax
      obtain ⟨b0, o0, c', hva, _, _, _, _, hbl, g4⟩ := HV.out.1.at (by omega)
      cases hva
      have hc0 : wr.cell? ⟨b0, o0 + k * 3, none⟩ = some (.int .u8 a.op) := (hs.jj.dd.bel.cell (p := ⟨b0, o0 + k * 3, none⟩) hbl).trans (g4 _ _ e0)
      have hc1 : wr.cell? ⟨b0, o0 + k * 3 + 1, none⟩ = some rv := (hs.jj.dd.bel.cell (p := ⟨b0, o0 + k * 3 + 1, none⟩) hbl).trans (by rw [Nat.add_assoc]; exact g4 _ _ e1)
      have hc2 : wr.cell? ⟨b0, o0 + k * 3 + 2, none⟩ = some bv := (hs.jj.dd.bel.cell (p := ⟨b0, o0 + k * 3 + 2, none⟩) hbl).trans (by rw [Nat.add_assoc]; exact g4 _ _ e2)
      have hop := hat.2.2
      have hat2 := hat
      obtain ⟨⟨us, hr1, _⟩, hb1, _⟩ := hat2
      obtain ⟨Ar, cr, rfl, _, _⟩ := hr1.len
      obtain ⟨Ab, cb, rfl, _, _⟩ := hb1.len
      have HAT := Lib.hid hat
      have HS := Lib.hid hs
      clear hs g4 e0 e1 e2 hat hr1 hb1 hax
      have hM : ∀ n, W.heap.size ≤ n → W.heap.size ≤ n := fun _ h => h
      obtain ⟨ob, hob⟩ : ∃ ob, ob = Obj.cells #[.int .u8 (a.op : Int), .slice Ar a.recs.length cr, .slice Ab a.bytes.length cb] 58 (0, 0) := ⟨_, rfl⟩
      have H5 := Lib.hid (HS.out.jj.al (.cells #[.int .u8 (a.op : Int), .slice Ar a.recs.length cr, .slice Ab a.bytes.length cb] 58))
      have K5 := Lib.hid (HS.out.ks.below (below_new wr (.cells #[.int .u8 (a.op : Int), .slice Ar a.recs.length cr, .slice Ab a.bytes.length cb] 58)))
      have X5 := Lib.hid (Box.made HS.out.jj (.cells #[.int .u8 (a.op : Int), .slice Ar a.recs.length cr, .slice Ab a.bytes.length cb] 58))
      have hused := HS.out.used
      have t0 := HS.out.t0
      have t1 := HS.out.t1
      have hlr := HS.out.lr
      have hsm : Hw.Small (t + 1) := ⟨by omega, by omega⟩
      have HSM := Lib.hid hsm
      have hfd := HS.out.jd.files_le
      clear hsm hob
      have hk60 : k < 60 := by omega
      by_cases h0 : a.op % 4 = 0
      · have d0 : ((a.op : Int) % 4 == 0) = true := by simp; omega
        have hb5 : (a.bytes.take 500).length ≤ 500 := by rw [List.length_take]; omega
        have hsl : (Hw.varPut (t + 1) ++ a.bytes.take 500).length ≤ 16384 := by
          have := Hw.varSmall HSM.out; rw [List.length_append]; omega
        have hrm : d.used + (Hw.frameOf (Hw.varPut (t + 1) ++ a.bytes.take 500)).length ≤ d.room := by
          have := Hw.saveLen_le (n := 500) HSM.out hb5; rw [HS.out.room]; omega
        have hcases := HS.out.jd.save HS.out.on HSM.out hsl hrm
        have HB5 := Lib.hid hb5
        clear hsl hrm h0 hb5
        rcases hcases with ⟨d7, hs7, jd7, on7, r7, _⟩ | ⟨d7, j7, hs7, hbk7, hjg, st7, r7, _⟩
        · have HS7 := Lib.hid hs7
          have J7 := Lib.hid (And.intro jd7 (And.intro on7 (r7.trans HS.out.room)))
          clear hs7 jd7 on7 r7
          go_wp2_with (first
            | (go_at_call 26; refine (act_bytes (HAT.out.belowB H7.out.dd.bel hM) _).mono ?_; rintro e w8 ⟨A8, m8, c8, rfl, hm8, r8, b8⟩; have H8 := Lib.hid (H7.out.below b8); have hs8 := RdB.str (M := fun k => W.heap.size ≤ k) r8; clear hm8 r8 b8)
            | (go_at_call 26; refine (act_bytes (HAT.out.belowB H5.out.dd.bel hM) _).mono ?_; rintro e w6 ⟨A6, m6, c6, rfl, hm6, r6, b6⟩; have H6 := Lib.hid (H5.out.below b6); have R6 := Lib.hid r6; have X6 := Lib.hid (X5.out.below b6); clear hm6 r6 b6)
            | (go_at_call 23; refine (journal_Save_open (M := fun k => W.heap.size ≤ k) H6.out rfl R6.out (by have := HB5.out; omega) (fun b hb => H6.out.dd.own b hb) (fun b hb => H6.out.own b hb) HS7.out errV_0).mono ?_; rintro e w7 ⟨rfl, F7, G7, h7⟩; obtain ⟨x0, x1, x2⟩ := (X6.out.js h7).cells; have H7 := Lib.hid h7.jj; clear h7))
          go_roundw
          case rel => exact ⟨k + 1, t + 1, a.bytes.take 500, [], d7, F7, G7, _, rfl, by omega, by go_num, rfl, rfl, ⟨H8.out, KS.nil _ _ _ _, J7.out.1, J7.out.2.2, J7.out.2.1, by omega, by omega, HB5.out, by simp [Hw.frames], by simp⟩⟩
          case measure => simp [intOf]; omega
        · have hfl7 : d7.files.length ≤ 1000 := by
            have h1 := Hw.jsave_files ⟨t, b, rs, false⟩ d (a.bytes.take 500)
            rw [hs7] at h1; simp only at h1; omega
          have HS7 := Lib.hid hs7
          have J7 := Lib.hid (And.intro hbk7 (And.intro st7 hfl7))
          clear hs7 hbk7 st7 r7 hfl7
          rcases hjg with hjg | hjg
          · have JG7 := Lib.hid hjg
            clear hjg
            go_wp2_with (first
              | (go_at_call 26; refine (act_bytes (HAT.out.belowB H5.out.dd.bel hM) _).mono ?_; rintro e w6 ⟨A6, m6, c6, rfl, hm6, r6, b6⟩; have H6 := Lib.hid (H5.out.below b6); have K6 := Lib.hid (K5.out.below b6); have R6 := Lib.hid r6; clear hm6 r6 b6)
              | (go_at_call 23; refine (journal_Save_open (M := fun k => W.heap.size ≤ k) H6.out rfl R6.out (by have := HB5.out; omega) (fun b hb => H6.out.dd.own b hb) (fun b hb => H6.out.own b hb) HS7.out (r := .iface 29 (.int .i64 12)) rfl).mono ?_; rintro e w7 ⟨rfl, F7, G7, h7⟩; have H7 := Lib.hid h7.jj; have K7 := Lib.hid (K6.out.js h7); clear h7)
              | (go_at_call 11; refine (number_hit 12 _ (HG.out.of H7.out.dd.bel hpos)).mono ?_; rintro e w8 ⟨rfl, u8⟩; have H8 := Lib.hid (H7.out.new u8); have K8 := Lib.hid (K7.out.updF (u8.mono (G := F7) (fun _ _ h => h.elim))); clear u8)
              | (go_at_call 24; refine (lc_Broken H8.out J7.out.1).mono ?_; rintro e w9 ⟨rfl, rfl⟩)
              | (go_at_call 27; refine (lc_Stopped H8.out J7.out.2.1).mono ?_; rintro e w9 ⟨rfl, rfl⟩)
              | (go_at_call 28; refine (lc_Restart H8.out rfl KP).mono ?_; rintro e w9 ⟨rfl, h9, _, u9⟩; have H9 := Lib.hid h9; have K9 := Lib.hid ((K8.out.updF u9).noG); clear h9 u9)
              | (go_at_call 18; refine (lc_Wake0 H9.out JG7.out J7.out.2.2).mono ?_; rintro e w10 ⟨q10, d10, F10, G10, rfl, h10⟩; have H10 := Lib.hid h10.jj; have K10 := Lib.hid (K9.out.js h10); clear h10)
              | (go_at_call 20; refine (lc_Shows H10.out (by omega) K10.out.rd rfl).mono ?_; rintro e w11 ⟨rfl, h11, _⟩; have H11 := Lib.hid h11; clear h11))
            go_ret
            exact ⟨rfl, H11.out.dd.bel⟩
          · have JG7 := Lib.hid hjg
            clear hjg
            go_wp2_with (first
              | (go_at_call 26; refine (act_bytes (HAT.out.belowB H11.out.dd.bel hM) _).mono ?_; rintro e w12 ⟨A12, m12, c12, rfl, hm12, r12, b12⟩; have H12 := Lib.hid (H11.out.below b12); have hs12 := RdB.str (M := fun k => W.heap.size ≤ k) r12; clear hm12 r12 b12)
              | (go_at_call 26; refine (act_bytes (HAT.out.belowB H5.out.dd.bel hM) _).mono ?_; rintro e w6 ⟨A6, m6, c6, rfl, hm6, r6, b6⟩; have H6 := Lib.hid (H5.out.below b6); have K6 := Lib.hid (K5.out.below b6); have X6 := Lib.hid (X5.out.below b6); have R6 := Lib.hid r6; clear hm6 r6 b6)
              | (go_at_call 23; refine (journal_Save_open (M := fun k => W.heap.size ≤ k) H6.out rfl R6.out (by have := HB5.out; omega) (fun b hb => H6.out.dd.own b hb) (fun b hb => H6.out.own b hb) HS7.out (r := .iface 29 (.int .i64 12)) rfl).mono ?_; rintro e w7 ⟨rfl, F7, G7, h7⟩; have H7 := Lib.hid h7.jj; have K7 := Lib.hid (K6.out.js h7); have X7 := Lib.hid (X6.out.js h7); clear h7)
              | (go_at_call 11; refine (number_hit 12 _ (HG.out.of H7.out.dd.bel hpos)).mono ?_; rintro e w8 ⟨rfl, u8⟩; have H8 := Lib.hid (H7.out.new u8); have K8 := Lib.hid (K7.out.updF (u8.mono (G := F7) (fun _ _ h => h.elim))); have X8 := Lib.hid (X7.out.new u8); clear u8)
              | (go_at_call 24; refine (lc_Broken H8.out J7.out.1).mono ?_; rintro e w9 ⟨rfl, rfl⟩)
              | (go_at_call 27; refine (lc_Stopped H8.out J7.out.2.1).mono ?_; rintro e w9 ⟨rfl, rfl⟩)
              | (go_at_call 28; refine (lc_Restart H8.out rfl KP).mono ?_; rintro e w9 ⟨rfl, h9, _, u9⟩; have H9 := Lib.hid h9; have K9 := Lib.hid ((K8.out.updF u9).noG); have X9 := Lib.hid ((X8.out.updF u9).noG); clear h9 u9)
              | (go_at_call 18; refine (lc_Wake0 H9.out JG7.out J7.out.2.2).mono ?_; rintro e w10 ⟨q10, d10, F10, G10, rfl, h10⟩; have H10 := Lib.hid h10.jj; have K10 := Lib.hid (K9.out.js h10); have X10 := Lib.hid (X9.out.js h10); clear h10)
              | (go_at_call 20; refine (lc_Shows (M := fun _ => False) H12.out (by simp) (RdC.nil _ _ _) rfl).mono ?_; rintro e w13 ⟨rfl, h13, _⟩; have H13 := Lib.hid h13; clear h13)
              | (go_at_call 20; refine (lc_ShowsNo H10.out (by simp) K10.out.rd (fun h => by have h2 := h.2.1; simp only at h2; omega) rfl).mono ?_; rintro e w11 ⟨rfl, h11, b11⟩; have H11 := Lib.hid h11; obtain ⟨x0, x1, x2⟩ := (X10.out.below b11).cells; clear h11 b11))
            go_ret
            exact ⟨rfl, H13.out.dd.bel⟩
      · have d0 : ((a.op : Int) % 4 == 0) = false := by simp; omega
        have HFL := Lib.hid (few4_frames a.recs)
        have HFN := Lib.hid (few4_len a.recs)
        have HFE := Lib.hid (fun (r : Hw.Bytes) (hr : r ∈ Hw.few (a.recs.take 4)) => Nat.le_trans (Hw.few_each hr) (show 500 ≤ 16384 by decide))
        have hfr := few4_frames a.recs (Hw.few (a.recs.take 4)).length
        rw [List.take_length] at hfr
        have HFR := Lib.hid hfr
        have hfn := HFN.out
        have hcases := HS.out.jd.append HS.out.on HFE.out (by rw [HS.out.room]; omega)
        clear hfr
        rcases hcases with ⟨d7, ha7, jd7, on7, r7, _⟩ | ⟨d7, ha7, hjg, st7, r7, _⟩
        · have HA7 := Lib.hid ha7
          have J7 := Lib.hid (And.intro jd7 (And.intro on7 (r7.trans HS.out.room)))
          clear ha7 jd7 on7 r7
          go_wp2_with (first
            | (go_at_call 29; refine (act_few (HAT.out.belowB H7.out.dd.bel hM) _ (fun b hb => Nat.le_trans H7.out.size hb)).mono ?_; rintro e w8 ⟨v8, u8', rfl, o8, r8, b8⟩; have HAR := Lib.hid (show AppRel W p q d7 t b rs (Hw.few (a.recs.take 4)) F7 G7 v8 u8' 0 _ w8 from ⟨H7.out.below b8, by simpa using K7.out.below b8, RdC.of_own o8 (fun k hk hm => by have h1 := (o8.lt k hk).1; have := own_lt K7.out.own hm; omega), r8⟩); obtain ⟨A8, c8, rfl⟩ := own_form o8; clear o8 r8 b8)
            | (go_at_call 29; refine (act_few (HAT.out.belowB H5.out.dd.bel hM) _ (fun b hb => Nat.le_trans H5.out.size hb)).mono ?_; rintro e w6 ⟨v6, u6, rfl, o6, r6, b6⟩; have H6 := Lib.hid (H5.out.below b6); have K6 := Lib.hid (K5.out.below b6); have X6 := Lib.hid (X5.out.below b6); have R6 := Lib.hid (RdC.of_own (M := fun k => F k ∨ G k) o6 (fun k hk hm => by have h1 := (o6.lt k hk).1; simp at h1; exact hm.elim (fun h => by have := HS.out.jj.dd.disk.lt h; omega) (fun h => by have := HS.out.jj.jat.lt h; omega))); have RR6 := Lib.hid (r6.mono (M' := fun k => F k ∨ G k) (fun k hm => hm.elim (HS.out.jj.dd.own k) (HS.out.jj.own k))); clear o6 r6 b6)
            | (go_at_call 22; refine (journal_Append_open H6.out rfl (by show rs.length ≤ _; omega) R6.out RR6.out (fun _ h => .inl h) (fun _ h => .inr h) (by omega) HA7.out errV_0).mono ?_; rintro e w7 ⟨rfl, F7, G7, h7⟩; obtain ⟨x0, x1, x2⟩ := (X6.out.js h7).cells; have H7 := Lib.hid h7.jj; have K7 := Lib.hid (K6.out.js h7); clear h7))
          generalize hqs : Hw.few (a.recs.take 4) = qs at *
          clear hqs
          go_loopw [14, 124] (fun s14 s124 wr => ∃ (kk : Nat) (wr' : World), wr' = wr ∧ kk ≤ qs.length ∧ s124 = .int .i64 kk ∧ AppRel W p q d7 t b rs qs F7 G7 (.slice A8 qs.length c8) u8' kk s14 wr') (fun _ s124 _ => (qs.length - (intOf s124).toNat))
          case atStart => exact ⟨0, _, rfl, by omega, rfl, HAR.out⟩
          case round =>
            obtain ⟨kk, wr2, rfl, hkk, rfl, har⟩ := hrel
            by_cases hlt2 : kk < qs.length
            · obtain ⟨x, hx⟩ : ∃ x, qs[kk]? = some x := ⟨qs[kk], List.getElem?_eq_getElem hlt2⟩
              obtain ⟨u, hu, hux⟩ := har.rows.get hx
              obtain ⟨A3, c3, rfl, m1, m2⟩ := hux.len
              obtain ⟨b1, o1, c1', hvb, _, _, _, _, hbl1, g5⟩ := har.row.at (by omega)
              cases hvb
              have hcx := g5 kk _ hu
              have hs0 := hux.str
              have hll : (rs ++ qs.take kk).length = rs.length + kk := by rw [List.length_append, List.length_take]; omega
              have HLL := Lib.hid hll
              have HXR := Lib.hid hx
              have HAR2 := Lib.hid har
              have hszB := har.jj.size
              clear hx g5 hu hux hbl1 m1 m2 har hll
              go_wp2_with (at_builtin; refine wpAppend _ rfl _ _ 49 rfl W.heap.size 9 i0 (.string ⟨#[]⟩) 1 16 strslice hi hy0 hy1 hy2 rfl (by decide) _ _ _ rfl (HAR2.out.ks.own.alloc _) (fun _ => False) _ 1 _ rfl (RdC.made _ 1 1 #[.string (strB x)] _ rfl (by decide) (fun h => h)) ?_ ?_ ?_ ?_ ?_)
              · simp [Value.oneCell']
              · rw [HLL.out]; unfold maxLen; omega
              · rw [HLL.out]; omega
              · simp; omega
              · intro v9 w9 o9 g9 a9
                have HN := Lib.hid (HAR2.out.next HXR.out (by first | exact o9 | (rw [HLL.out]; exact o9)) g9 (by simpa using a9))
                clear o9 g9 a9
                go_wp2_with fail
                go_roundw
                case rel => exact ⟨kk + 1, _, rfl, by omega, by go_num, HN.out⟩
                case measure => simp [intOf]; omega
            · have hkk' : kk = qs.length := by omega
              rw [hkk'] at har
              have hjj := har.jj
              have hks := har.ks
              rw [List.take_length] at hks
              obtain ⟨r9, hr9⟩ : ∃ r9, r9 = rs ++ qs := ⟨_, rfl⟩
              have hll : r9.length = rs.length + qs.length := by rw [hr9, List.length_append]
              have hlf2 : (Hw.frames r9).length ≤ 2024 * (k + 1) := by
                have h1 := HS.out.lf
                have h2 := HFR.out
                rw [hr9, Hw.frames_append, List.length_append]; omega
              have hj7 := J7.out
              rw [← hr9] at hjj hks hj7
              have H9 := Lib.hid hjj
              have K9 := Lib.hid hks
              have J9 := Lib.hid hj7
              have HLF := Lib.hid hlf2
              have hr9l : r9.length ≤ 4 * (k + 1) := by omega
              clear har hjj hks hll hlf2 hr9 hj7
              go_wp2_with fail
              go_roundw
              case rel => exact ⟨k + 1, t, b, r9, d7, F7, G7, _, rfl, by omega, by go_num, rfl, rfl, ⟨H9.out, K9.out, J9.out.1, J9.out.2.2, J9.out.2.1, by omega, by omega, HS.out.lb, HLF.out, hr9l⟩⟩
              case measure => simp [intOf]; omega
        · have hfl7 : d7.files.length ≤ 1000 := by
            have h1 := Hw.jappend_files ⟨t, b, rs, false⟩ d (Hw.few (a.recs.take 4))
            rw [ha7] at h1; simp only at h1; omega
          have HA7 := Lib.hid ha7
          have J7 := Lib.hid (And.intro hjg (And.intro st7 (And.intro hfl7 (r7.trans HS.out.room))))
          clear ha7 hjg st7 r7 hfl7
          go_wp2_with (first
            | (go_at_call 29; refine (act_few (HAT.out.belowB H5.out.dd.bel hM) _ (fun b hb => Nat.le_trans H5.out.size hb)).mono ?_; rintro e w6 ⟨v6, u6, rfl, o6, r6, b6⟩; have H6 := Lib.hid (H5.out.below b6); have K6 := Lib.hid (K5.out.below b6); have X6 := Lib.hid (X5.out.below b6); have R6 := Lib.hid (RdC.of_own (M := fun k => F k ∨ G k) o6 (fun k hk hm => by have h1 := (o6.lt k hk).1; simp at h1; exact hm.elim (fun h => by have := HS.out.jj.dd.disk.lt h; omega) (fun h => by have := HS.out.jj.jat.lt h; omega))); have RR6 := Lib.hid (r6.mono (M' := fun k => F k ∨ G k) (fun k hm => hm.elim (HS.out.jj.dd.own k) (HS.out.jj.own k))); clear o6 r6 b6)
            | (go_at_call 22; refine (journal_Append_broken H8.out.jat rfl _).mono ?_; rintro e w9 ⟨rfl, rfl⟩)
            | (go_at_call 22; refine (journal_Append_open H6.out rfl (by show rs.length ≤ _; omega) R6.out RR6.out (fun _ h => .inl h) (fun _ h => .inr h) (by omega) HA7.out (r := .iface 29 (.int .i64 12)) rfl).mono ?_; rintro e w7 ⟨rfl, F7, G7, h7⟩; have H7 := Lib.hid h7.jj; have K7 := Lib.hid (K6.out.js h7); have X7 := Lib.hid (X6.out.js h7); clear h7)
            | (go_at_call 11; refine (number_hit 12 _ (HG.out.of H9.out.dd.bel hpos)).mono ?_; rintro e w10 ⟨rfl, u10⟩; have H10 := Lib.hid (H9.out.new u10); have K10 := Lib.hid (K9.out.updF (u10.mono (G := F7) (fun _ _ h => h.elim))); have X10 := Lib.hid (X9.out.new u10); clear u10)
            | (go_at_call 11; refine (number_hit 12 _ (HG.out.of H8.out.dd.bel hpos)).mono ?_; rintro e w9 ⟨rfl, u9⟩; have H9 := Lib.hid (H8.out.new u9); have K9 := Lib.hid (K8.out.updF (u9.mono (G := F7) (fun _ _ h => h.elim))); have X9 := Lib.hid (X8.out.new u9); clear u9)
            | (go_at_call 11; refine (number_hit 12 _ (HG.out.of H7.out.dd.bel hpos)).mono ?_; rintro e w8 ⟨rfl, u8⟩; have H8 := Lib.hid (H7.out.new u8); have K8 := Lib.hid (K7.out.updF (u8.mono (G := F7) (fun _ _ h => h.elim))); have X8 := Lib.hid (X7.out.new u8); clear u8)
            | (go_at_call 24; refine (lc_Broken H8.out rfl).mono ?_; rintro e w9 ⟨rfl, rfl⟩)
            | (go_at_call 23; refine (journal_Save_broken H9.out.jat rfl _).mono ?_; rintro e w10 ⟨rfl, rfl⟩)
            | (go_at_call 28; refine (lc_Restart H10.out rfl _).mono ?_; rintro e w11 ⟨rfl, h11, _, u11⟩; have H11 := Lib.hid h11; have K11 := Lib.hid ((K10.out.updF u11).noG); have X11 := Lib.hid ((X10.out.updF u11).noG); clear h11 u11)
            | (go_at_call 18; refine (lc_Wake H11.out J7.out.1 J7.out.2.2.1).mono ?_; rintro e w12 ⟨kk, q12, d12, F12, G12, rfl, hkk, h12, jc12, r12⟩; have H12 := Lib.hid h12.jj; have K12 := Lib.hid (K11.out.js h12); have X12 := Lib.hid (X11.out.js h12); have C12 := Lib.hid (And.intro jc12 (r12.trans J7.out.2.2.2)); clear h12 jc12 r12))
          obtain ⟨r9, hr9⟩ : ∃ r9, r9 = rs ++ (Hw.few (a.recs.take 4)).take kk := ⟨_, rfl⟩
          have hl9 : r9.length ≤ 4 * (k + 1) := by rw [hr9, List.length_append, List.length_take]; omega
          have hf9 : (Hw.frames r9).length ≤ 2024 * (k + 1) := by
            have h1 := HS.out.lf
            have h2 := HFL.out kk
            rw [hr9, Hw.frames_append, List.length_append]; omega
          have h12 := H12.out
          have c12 := C12.out
          rw [← hr9] at h12 c12
          have hu12 : d12.used ≤ 516 + 2024 * (k + 1) := by
            have h1 := c12.1.jd.used
            have h2 := Hw.snapLen_le c12.1.jd.small HS.out.lb
            omega
          have HJ := Lib.hid h12
          have HC := Lib.hid c12
          have HR9 := Lib.hid hr9
          have HF0 := Lib.hid (show FindRel W p q12 d12 t b rs (Hw.few (a.recs.take 4)) r9 F12 G12 wr.heap.size _ 0 _ w12 from ⟨h12, by simpa using K12.out, X12.out, fun i hi e => by subst e; exact Nat.lt_irrefl _ (own_lt HS.out.ks.own hi)⟩)
          have hZ8 := HZ.out
          clear hf9 h12 c12 hr9
          have hle9 := hkk
          go_loopw [14, 25] (fun s14 s25 wr2 => ∃ (n : Nat) (wr' : World), wr' = wr2 ∧ n ≤ kk ∧ s25 = .int .i64 n ∧ FindRel W p q12 d12 t b rs (Hw.few (a.recs.take 4)) r9 F12 G12 wr.heap.size (.cells #[.int .u8 (a.op : Int), .slice Ar a.recs.length cr, .slice Ab a.bytes.length cb] 58) (n - 1) s14 wr') (fun _ s25 _ => (kk - (intOf s25).toNat))
          case atStart => exact ⟨0, _, rfl, by omega, rfl, HF0.out⟩
          case round =>
            obtain ⟨n, wr2, rfl, hn, rfl, hfi⟩ := hrel
            have hle : (n : Int) ≤ ((Hw.few (a.recs.take 4)).length : Int) := by omega
            obtain ⟨x0, x1, x2⟩ := hfi.box.cells
            have HFI := Lib.hid hfi
            clear hfi
            go_upto_if 178 with (go_at_call 29; refine (act_few (HAT.out.belowB HFI.out.jj.dd.bel hM) _ (fun b hb => Nat.le_trans HFI.out.jj.size hb)).mono ?_; rintro e w13 ⟨v13, u13, rfl, o13, r13, b13⟩; obtain ⟨A13, c13, rfl⟩ := own_form o13; have HF13 := Lib.hid (HFI.out.below b13); clear o13 r13 b13)
            go_cut [14] (fun s14 wx => ∃ wx' : World, wx' = wx ∧ FindRel W p q12 d12 t b rs (Hw.few (a.recs.take 4)) r9 F12 G12 wr.heap.size (.cells #[.int .u8 (a.op : Int), .slice Ar a.recs.length cr, .slice Ab a.bytes.length cb] 58) n s14 wx')
            case first =>
              by_cases hn0 : n = 0
              · subst hn0
                go_wp2_with fail
                go_meet
                exact ⟨_, rfl, HF13.out⟩
              · have hgt : (0 : Int) < (n : Int) := by omega
                obtain ⟨i, hni⟩ : ∃ i, n = i + 1 := ⟨n - 1, by omega⟩
                have hi1 : (n : Int) - 1 = (i : Int) := by omega
                have hiq : i < (Hw.few (a.recs.take 4)).length := by omega
                have hf13 := HF13.out
                rw [show n - 1 = i by omega] at hf13
                have HFA := Lib.hid hf13
                obtain ⟨y0, y1, y2⟩ := hf13.box.cells
                obtain ⟨x, hx⟩ : ∃ x, (Hw.few (a.recs.take 4))[i]? = some x := ⟨_, List.getElem?_eq_getElem hiq⟩
                have HX := Lib.hid hx
                have hll : (rs ++ (Hw.few (a.recs.take 4)).take i).length = rs.length + i := by rw [List.length_append, List.length_take]; omega
                have hmi2 : min i (Hw.few (a.recs.take 4)).length = i := by omega
                have HLL := Lib.hid hll
                have HMI := Lib.hid hmi2
                have HNI := Lib.hid hni
                clear hx hll hf13 hni hmi2
                go_wp2_with (first
                  | (go_at_call 29; refine (act_few (HAT.out.belowB HFA.out.jj.dd.bel hM) _ (fun b hb => Nat.le_trans HFA.out.jj.size hb)).mono ?_; rintro e w14 ⟨v14, u14, rfl, o14, r14, b14⟩; obtain ⟨u, hu, hux⟩ := r14.get HX.out; obtain ⟨A3, c3, rfl, m1, m2⟩ := hux.len; have ro := RdC.of_own (M := fun _ => False) o14 (fun _ _ h => h); obtain ⟨b1, o1, c1', rfl, _, _, _, _, hbl1, g5⟩ := ro.at (by omega); have hcx := g5 i _ hu; have hs0 := hux.str; have HF14 := Lib.hid (HFA.out.below b14); have hszB := HF14.out.jj.size; clear o14 r14 b14 hu hux g5 ro hbl1 m1 m2)
                  | (at_builtin; refine wpAppend _ rfl _ _ 49 rfl W.heap.size 9 i0 (.string ⟨#[]⟩) 1 16 strslice hi hy0 hy1 hy2 rfl (by decide) _ _ _ rfl (HF14.out.ks.own.alloc _) (fun _ => False) _ 1 _ rfl (RdC.made _ 1 1 #[.string (strB x)] _ rfl (by decide) (fun h => h)) ?_ ?_ ?_ ?_ ?_))
                · simp [Value.oneCell']
                · rw [HLL.out]; unfold maxLen; omega
                · rw [HLL.out]; omega
                · simp; omega
                · intro v9 w9 o9 g9 a9
                  have HN := Lib.hid (HF14.out.next HX.out (by first | exact o9 | (rw [HLL.out]; exact o9) | (rw [HMI.out] at o9; rw [HLL.out]; exact o9)) g9 (by simpa using a9))
                  clear o9 g9 a9
                  go_wp2_with fail
                  go_meet
                  exact ⟨_, rfl, by rw [HNI.out]; exact HN.out⟩
            case rest =>
              obtain ⟨wx, rfl, hfx⟩ := hcut
              by_cases hnk : n = kk
              · have hks := hfx.ks
                rw [hnk, ← HR9.out] at hks
                have HK := Lib.hid hks
                have HFX := Lib.hid hfx
                clear hks hfx
                go_wp2_with (first
                  | (go_at_call 20; refine (lc_Shows (M := fun _ => False) H17.out (by simp; omega) (RdC.of_own O17.out (fun _ _ h => h)) rfl).mono ?_; rintro e w18 ⟨rfl, h18, _⟩; have H18 := Lib.hid h18; clear h18)
                  | (go_at_call 20; refine (lc_Shows HFX.out.jj (by omega) HK.out.rd rfl).mono ?_; rintro e w15 ⟨rfl, h15, b15⟩; have H15 := Lib.hid h15; have K15 := Lib.hid (HK.out.below b15); have HROW := Lib.hid (row_byte (fun k => F12 k ∨ G12 k) w15 HZ.out 5 22 (h15.not (Nat.le_refl _)) (h15.not (Nat.le_succ _))); clear h15 b15)
                  | (go_at_call 22; refine (lc_Append ((H15.out.al _).al _) HC.out.1 HC.out.2 (by omega) HROW.out.1 HROW.out.2 (fun _ h => h) (by simp) (by intro r hr; rw [List.mem_singleton.1 hr]; simp) (by rw [frames_byte]; omega)).mono ?_; rintro e w16 ⟨rfl, d16, F16, G16, h16, _, _⟩; have H16 := Lib.hid h16.jj; have K16 := Lib.hid (((K15.out.below (below_new _ _)).below (below_new _ _)).js h16); have hsb : (convert 22 9 (.slice (some ⟨w16.heap.size, 0, none⟩) 1 1)).run Tryd.prog (w16.alloc (.cells #[.int .u8 (Z : Int)] 5)) = .ok (.string (strB [UInt8.ofNat Z])) (w16.alloc (.cells #[.int .u8 (Z : Int)] 5)) := RdB.str (rd_byte (fun _ => False) w16 HZ.out _ (fun h => h)); have KA := Lib.hid ((K16.out.below (below_new w16 (.cells #[.int .u8 (Z : Int)] 5))).below (below_new _ (.cells #[.string (strB [UInt8.ofNat Z])] 9))); have hsz16 := h16.jj.size; clear h16)
                  | (at_builtin; refine wpAppendG _ (by rfl) _ _ 49 rfl W.heap.size 9 i0 (.string ⟨#[]⟩) 1 16 strslice hi hy0 hy1 hy2 rfl (by decide) _ _ _ rfl KA.out.own (fun _ => False) _ 1 _ rfl (made2 _ _ _ _ _ (fun h => h)) ?_ ?_ ?_ ?_ ?_))
                · simp [Value.oneCell']
                · unfold maxLen; omega
                · omega
                · simp; omega
                · intro v17 w17 o17 g17 a17
                  have H17 := Lib.hid (((H16.out.al _).al _).grow KA.out (Nat.le_refl _) g17)
                  have O17 := Lib.hid (OwnStrs.snoc o17)
                  obtain ⟨A17, c17, rfl⟩ := own_form o17
                  clear o17 g17 a17
                  go_wp2_with (go_at_call 20; refine (lc_Shows (M := fun _ => False) H17.out (by simp; omega) (RdC.of_own O17.out (fun _ _ h => h)) rfl).mono ?_; rintro e w18 ⟨rfl, h18, _⟩; have H18 := Lib.hid h18; clear h18)
                  go_ret
                  exact ⟨rfl, H18.out.dd.bel⟩
              · have hne : ¬ (b = b ∧ t = t ∧ r9 = rs ++ (Hw.few (a.recs.take 4)).take n) := fun h => by
                  have h2 := congrArg List.length h.2.2
                  rw [HR9.out, List.length_append, List.length_append, List.length_take, List.length_take] at h2
                  omega
                have HNE := Lib.hid hne
                have HFX := Lib.hid hfx
                clear hne hfx
                go_wp2_with (go_at_call 20; refine (lc_ShowsNo HFX.out.jj (by show r9.length ≤ _; omega) HFX.out.ks.rd HNE.out rfl).mono ?_; rintro e w15 ⟨rfl, _, b15⟩; have H15 := Lib.hid (HFX.out.below b15); clear b15)
                go_roundw
                case rel => exact ⟨n + 1, _, rfl, by omega, by go_num, H15.out⟩
                case measure => simp [intOf]; omega
    · have HS := Lib.hid hs
      clear hs
      have hlr := HS.out.lr
      go_wp2_with (go_at_call 20; refine (lc_Shows HS.out.jj (by omega) HS.out.ks.rd rfl).mono ?_; rintro e w11 ⟨rfl, h11, _⟩; have H11 := Lib.hid h11; clear h11)
      go_ret
      exact ⟨rfl, H11.out.dd.bel⟩
end Go.Proofs.YtihncdlbbhmglaaDoor


namespace Go.Proofs.YtihncdlbbhmglaaDoor
open Go.ChangeShapes Go.WideShapes Go.ChangeAt Go.RowKit

set_option maxRecDepth 100000 in
theorem journalStops_lifted (os : Os) (started : os.Started) (H : Type) (enc : TypeId × Value → H) :
    ReturnsInHanded {} Tryd.checked os 7 .any (fun w args => (Rows.journalStopsSpec.pre enc Tryd.prog Tryd.f7 [] false w args ∧ laidMetH Tryd.prog [("errors.errorType", Rows.laid_errors_errorType)] w) ∧ sizedMet enc Tryd.prog Tryd.f7 (OpenSpec.ofChange Rows.journalStopsSpec) false w args)
      (Rows.journalStopsSpec.post enc Tryd.prog Tryd.f7 false true false false) := by
  refine returnsInHanded_of_change_and (C := Tryd.checked) (X := fun w _ => laidMetH Tryd.prog [("errors.errorType", Rows.laid_errors_errorType)] w) (fun _ _ _ hh h => h.of_heap hh) own started (by kernel_rfl) Tryd.func7
    (ChangeSpec.witness_at (enc := enc) (C := Tryd.checked) (os := os) (X := fun w _ => laidMetH Tryd.prog [("errors.errorType", Rows.laid_errors_errorType)] w) false (laidWorld os) #[.slice none 0 0, .int .u8 0, .int .i64 0, .int .u8 0] 8 rfl (by kernel_rfl) (by kernel_rfl) (by kernel_rfl) (by kernel_rfl) (by kernel_rfl) (laidWorld_met os _)) ?_
  intro W base args ds gs before hval0 hW _ hsz0 hL _
  have hval : ∀ (j : Nat) t v, Tryd.f7.params[j]? = some t → args[j]? = some v → Value.okWide Tryd.prog W .any base t v := hval0
  have hsz : (DataW.weightsEach Tryd.prog (Tryd.f7.params.toList ++ Rows.journalStopsSpec.plain.varTypes Tryd.prog) (ds ++ gs)).all (· ≤ reachBytes) = true := hsz0
  have hW' := hW
  obtain ⟨p, q, hA0, hV, rfl, hfz, hnd⟩ := hW
  have hA : DataW.TrodAll enc Tryd.prog W 0 (fun _ => true) true Tryd.f7.params.toList args.toList ds p := hA0
  rw [Tryd.params7] at hA hval hsz
  obtain ⟨v0, v1, v2, v3, d0, d1, d2, d3, p0, p1, p2, p3, rfl, rfl, rfl, h0, h1, h2, h3⟩ := trodAll_four hA
  obtain ⟨rfl, rfl⟩ := trodVars_none hV
  have lt0 : ∀ x ∈ p0, x.block < W.heap.size := by obtain ⟨m, hm⟩ := h0; exact DataW.trod_lt m _ _ _ hm
  obtain ⟨as0, ha0⟩ := argActs (hval 0 55 v0 rfl rfl) h0
  obtain ⟨a1, rfl, rfl, rfl, w1⟩ := open_int Tryd.underlying5 (hval 1 5 v1 rfl rfl) h1
  obtain ⟨a2, rfl, rfl, rfl, w2⟩ := open_int Tryd.underlying3 (hval 2 3 v2 rfl rfl) h2
  obtain ⟨a3, rfl, rfl, rfl, w3⟩ := open_int Tryd.underlying5 (hval 3 5 v3 rfl rfl) h3
  have hg := errT_of_laid hL
  clear hA0 hval0 hsz0
  have bd1 := bounds_u8 w1
  have cn1 : a1 = ((a1.toNat : Nat) : Int) := by omega
  have bd2 := bounds_i64 w2
  have bd3 := bounds_u8 w3
  have cn3 : a3 = ((a3.toNat : Nat) : Int) := by omega
  have wk := journalStops_walk v0 as0 a1.toNat a2 a3.toNat W ha0 (by omega) bd2.1 bd2.2 (by omega) hg
  rw [← cn1] at wk
  rw [← cn3] at wk
  refine wk.mono fun e W' ⟨he, bel⟩ => ?_
  subst he
  exact ⟨_, rfl, _, _, _, [], _, [], hW', trodAll_mk1 (shut_bool Tryd.underlying4 _), (trodAll_cons_mk (Below.trod laidOut (by kernel_rfl) (of_decide_eq_true (by kernel_rfl)) h0 bel lt0) (trodAll_cons_mk (shut_int Tryd.underlying5 w1) (trodAll_cons_mk (shut_int Tryd.underlying3 w2) (trodAll_cons_mk (shut_int Tryd.underlying5 w3) trodAll_mk0)))), rfl, bel.frame _, fun h => by cases h⟩
theorem journalStops_said : Rows.JournalStopsSaid :=
  OpenClaim.holds_of_wide 7 Tryd.f7 rfl rfl rfl rfl rfl rfl rfl ⟨rfl, rfl, rfl, rfl, rfl⟩ rfl rfl rfl rfl rfl (by kernel_rfl) Tryd.func7 (by kernel_rfl)
    (of_decide_eq_true (by kernel_rfl)) (by unfold Func.isWrapper; rw [if_neg (of_decide_eq_false (by kernel_rfl))]; exact ⟨rfl, rfl⟩)
    (fun os started H enc _ => journalStops_lifted os started H enc)
theorem journalStops_holds : Rows.JournalStopsCardSaid :=
  Claim7.holds_tied_plain_at .later [] [.handle] true (true, "1a8187ac55167dc82cdbe393873134255bf336f2d7630db256f2748c83fa5d63") true
    journalStops_said (fun _ h => by cases h) (by kernel_rfl) (fun _ h => by cases h) journalStops_row_tie rfl ⟨rfl, rfl⟩ (by kernel_rfl) rfl
    (fun f fn hf hfn => by
      obtain rfl : f = 7 := Option.some.inj ((show Tryd.prog.funcNamed "hawala/hawalalaw06.JournalStops" = some 7 by kernel_rfl).symm.trans hf) |>.symm
      obtain rfl : fn = Tryd.f7 := (Option.some.inj (Tryd.func7.symm.trans hfn)).symm
      exact ⟨by kernel_rfl, fun j t ht => by
        rw [Tryd.params7] at ht
        rcases j with _ | _ | _ | _ | j
        · obtain rfl : t = 55 := by simpa using ht.symm
          exact (show Tryd.prog.wantsStandIn 55 = false by kernel_rfl)
        · obtain rfl : t = 5 := by simpa using ht.symm
          exact (show Tryd.prog.wantsStandIn 5 = false by kernel_rfl)
        · obtain rfl : t = 3 := by simpa using ht.symm
          exact (show Tryd.prog.wantsStandIn 3 = false by kernel_rfl)
        · obtain rfl : t = 5 := by simpa using ht.symm
          exact (show Tryd.prog.wantsStandIn 5 = false by kernel_rfl)
        · simp at ht⟩)
    (by kernel_rfl)
#print axioms journalStops_holds
end Go.Proofs.YtihncdlbbhmglaaDoor
