/- Texts that build together: Lk Rk Rl. -/
import Derived.ShutString
import Derived.ChangeOld
import Derived.Below
import Derived.Deep.Slices
import Derived.Test.YtihncdlbbhmglaaDoorQ3
import Derived.Test.YtihncdlbbhmglaaDoorQ4
set_option linter.unusedVariables false
set_option linter.unusedSimpArgs false
/- Words of the laws: acts; strings beside a journal. -/
namespace Go.Proofs.YtihncdlbbhmglaaDoor
open Go.RowKit

/-- An owned slice of strings beside a disk and a journal. -/
structure KS (B : Nat) (w : World) (v : Value) (rs : List Hw.Bytes) (F G : Nat → Prop) : Prop where
  own : OwnStrs B w v rs
  no : ∀ k, v.ownBlock = some k → ¬ F k ∧ ¬ G k
theorem KS.js {B1 : Nat} {w w' : World} {v : Value} {rs : List Hw.Bytes} {F G F' G' : Nat → Prop} {B : Nat} {w0 : World} {p q : Nat} {d : Hw.HDisk} {j : Hw.HJ} (h : KS B1 w v rs F G) (k : JS B w0 p q F G w d j w' F' G') : KS B1 w' v rs F' G' := by
  refine ⟨own_upd h.own k.u (fun n hn hm => hm.elim (h.no n hn).1 (h.no n hn).2), fun n hn => ⟨fun hf => ?_, fun hg => ?_⟩⟩
  · have := own_lt h.own hn
    rcases k.f n hf with e | e
    · exact (h.no n hn).1 e
    · omega
  · have := own_lt h.own hn
    rcases k.g n hg with e | e
    · exact (h.no n hn).2 e
    · omega
theorem KS.below {B : Nat} {w w' : World} {v : Value} {rs : List Hw.Bytes} {F G : Nat → Prop} (h : KS B w v rs F G) (hb : Below w.heap.size w w') : KS B w' v rs F G := ⟨h.own.below hb, h.no⟩
theorem KS.noG {B : Nat} {w : World} {v : Value} {rs : List Hw.Bytes} {F G : Nat → Prop} (h : KS B w v rs F G) : KS B w v rs F (fun _ => False) := ⟨h.own, fun k hk => ⟨(h.no k hk).1, fun h => h⟩⟩
theorem KS.updF {B : Nat} {w w' : World} {v : Value} {rs : List Hw.Bytes} {F G : Nat → Prop} (h : KS B w v rs F G) (u : Upd F w w') : KS B w' v rs F G := ⟨own_upd h.own u (fun k hk hf => (h.no k hk).1 hf), h.no⟩
theorem KS.nil (B : Nat) (w : World) (F G : Nat → Prop) : KS B w (.slice none 0 0) [] F G := ⟨OwnStrs.nil _ _, fun k hk => by cases hk⟩
/-- The slice has grown. -/
theorem KS.grown {B B1 : Nat} {w0 w w' : World} {p q : Nat} {d : Hw.HDisk} {F G : Nat → Prop} {j : Hw.HJ} {v v' : Value} {rs rs' : List Hw.Bytes} (h : KS B1 w v rs F G) (k : JJ B w0 w p d F q j G) (o : OwnStrs B1 w' v' rs') (a : v'.ownBlock = v.ownBlock ∨ v'.ownBlock = some w.heap.size) : KS B1 w' v' rs' F G := by
  refine ⟨o, fun n hn => ?_⟩
  rcases a with a | a
  · exact h.no n (a ▸ hn)
  · rw [a] at hn; cases hn
    exact ⟨fun hf => Nat.lt_irrefl _ (k.dd.disk.lt hf), fun hg => Nat.lt_irrefl _ (k.jat.lt hg)⟩
theorem JJ.grow {B B1 : Nat} {w0 w w' : World} {p q : Nat} {d : Hw.HDisk} {F G : Nat → Prop} {j : Hw.HJ} {v : Value} {rs : List Hw.Bytes} (h : JJ B w0 w p d F q j G) (k : KS B1 w v rs F G) (hB : B ≤ B1) (g : w.grownBy w' v.ownBlock) : JJ B w0 w' p d F q j G :=
  h.upd (Upd.of_grown g) (fun b hb => ⟨Nat.le_trans hB (k.own.lt b hb).1, k.no b hb⟩)
theorem KS.rd {B : Nat} {w : World} {v : Value} {rs : List Hw.Bytes} {F G : Nat → Prop} (h : KS B w v rs F G) : RdC (fun _ => False) w 1 v rs.length (strs rs) := RdC.of_own h.own (fun _ _ h => h)
theorem RdRows.below {M : Nat → Prop} {w w' : World} {us : List Value} {rs : List Hw.Bytes} {B : Nat} (h : RdRows M w us rs) (hb : Below B w w') (hM : ∀ b, B ≤ b → M b) : RdRows M w' us rs :=
  h.upd (F := fun b => B ≤ b) ⟨hb.os, hb.tape, hb.output, hb.size, fun k _ hk => hb.block k (by omega)⟩ (fun n hn => .inl (hM n hn)) (fun _ h => .inl h)
theorem RdC.belowB {M : Nat → Prop} {w w' : World} {size n : Nat} {v : Value} {cs : List Value} {B : Nat} (h : RdC M w size v n cs) (hb : Below B w w') (hM : ∀ b, B ≤ b → M b) : RdC M w' size v n cs :=
  h.upd (F := fun b => B ≤ b) ⟨hb.os, hb.tape, hb.output, hb.size, fun k _ hk => hb.block k (by omega)⟩ (fun n hn => .inl (hM n hn)) (fun _ h => .inl h)

/-- An act: its deed, its records, its bytes. -/
structure HA where
  op : Nat
  recs : List Hw.Bytes
  bytes : Hw.Bytes
def ActAt (M : Nat → Prop) (w : World) (rv bv : Value) (a : HA) : Prop := (∃ us, RdC M w 1 rv a.recs.length us ∧ RdRows M w us a.recs) ∧ RdB M w bv a.bytes ∧ a.op < 256
def ActCells (M : Nat → Prop) (w : World) : List Value → List HA → Prop
  | [], [] => True
  | o :: r :: b :: cs, a :: ac => o = .int .u8 a.op ∧ ActAt M w r b a ∧ ActCells M w cs ac
  | _, _ => False
theorem ActCells.get {M : Nat → Prop} {w : World} : ∀ {cs : List Value} {ac : List HA}, ActCells M w cs ac → ∀ {i : Nat} {a : HA}, ac[i]? = some a → ∃ rv bv, cs[i * 3]? = some (.int .u8 a.op) ∧ cs[i * 3 + 1]? = some rv ∧ cs[i * 3 + 2]? = some bv ∧ ActAt M w rv bv a
  | [], [], _, i, a, h => by simp at h
  | o :: r :: b :: cs, a0 :: ac, h, 0, a, e => by
    simp at e; subst e; exact ⟨r, b, by simp [h.1], rfl, rfl, h.2.1⟩
  | o :: r :: b :: cs, a0 :: ac, h, i + 1, a, e => by
    simp at e
    obtain ⟨rv, bv, h1, h2, h3, h4⟩ := ActCells.get h.2.2 e
    exact ⟨rv, bv, by rw [show (i + 1) * 3 = i * 3 + 3 by omega]; simpa using h1, by rw [show (i + 1) * 3 + 1 = i * 3 + 1 + 3 by omega]; simpa using h2, by rw [show (i + 1) * 3 + 2 = i * 3 + 2 + 3 by omega]; simpa using h3, h4⟩
  | [], _ :: _, h, _, _, _ => h.elim
  | [_], _ :: _, h, _, _, _ => h.elim
  | [_, _], _ :: _, h, _, _, _ => h.elim
  | _ :: _, [], h, _, _, e => by simp at e
theorem ActAt.belowB {M : Nat → Prop} {w w' : World} {rv bv : Value} {a : HA} {B : Nat} (h : ActAt M w rv bv a) (hb : Below B w w') (hM : ∀ b, B ≤ b → M b) : ActAt M w' rv bv a := by
  obtain ⟨⟨us, h1, h2⟩, h3, h4⟩ := h
  exact ⟨⟨us, h1.belowB hb hM, h2.below hb hM⟩, RdC.belowB h3 hb hM, h4⟩
/-- What an argument of acts is. -/
def RdActs (M : Nat → Prop) (w : World) (v : Value) (ac : List HA) : Prop := ∃ cs, RdC M w 3 v ac.length cs ∧ ActCells M w cs ac
def BytesRet (M : Nat → Prop) (b : Hw.Bytes) (w : World) (e : Ending) (w' : World) : Prop :=
  ∃ A m c, e = .returned (.slice A m c) ∧ m = (b.take 500).length ∧ RdB M w' (.slice A m c) (b.take 500) ∧ Below w.heap.size w w'
set_option maxRecDepth 100000 in
theorem act_bytes {M : Nat → Prop} {w : World} {rv bv : Value} {a : HA} (h : ActAt M w rv bv a) (op : Value) :
    Calls Tryd.prog 26 #[.agg #[op, rv, bv]] w (BytesRet M a.bytes w) := by
  obtain ⟨_, hb, _⟩ := h
  obtain ⟨A, c, rfl, l1, l2⟩ := hb.len
  unfold maxLen at l2
  obtain ⟨m, hm⟩ : ∃ m : Nat, m = min a.bytes.length 500 := ⟨_, rfl⟩
  have hmi : min (a.bytes.length : Int) 500 = (m : Int) := by omega
  have hm1 : m ≤ a.bytes.length := by omega
  have HX := Lib.hid (hb.to500 hm)
  have HM := Lib.hid (show m = (a.bytes.take 500).length by rw [List.length_take]; omega)
  clear hb hm
  go_enter Tryd.func26, Tryd.ntmps26
  go_wp2
  go_ret
  exact ⟨_, _, _, rfl, HM.out, RdC.below HX.out (below_new _ _), below_new _ _⟩
def few4 (rs : List Hw.Bytes) : List Hw.Bytes := Hw.few (rs.take 4)
set_option maxRecDepth 100000 in
theorem act_few {M : Nat → Prop} {w : World} {rv bv : Value} {a : HA} (h : ActAt M w rv bv a) (op : Value) (hM2 : ∀ b, w.heap.size ≤ b → M b) :
    Calls Tryd.prog 29 #[.agg #[op, rv, bv]] w (FewRet M (a.recs.take 4) w) := by
  obtain ⟨⟨us, hr, hrr⟩, _, _⟩ := h
  obtain ⟨A, c, rfl, l1, l2⟩ := hr.len
  unfold maxLen at l2
  obtain ⟨m, hm⟩ : ∃ m : Nat, m = min a.recs.length 4 := ⟨_, rfl⟩
  have hmi : min (a.recs.length : Int) 4 = (m : Int) := by omega
  have hm1 : m ≤ a.recs.length := by omega
  have hl : (a.recs.take 4).length = m := by rw [List.length_take]; omega
  have hR : RdC M w 1 (.slice A m c) (a.recs.take 4).length (us.take m) := by rw [hl]; exact hr.to m hm1
  have hus : us.take m = us.take 4 := by
    have : us.length = a.recs.length := hrr.length
    rcases Nat.le_total a.recs.length 4 with h | h
    · have e : m = a.recs.length := by omega
      rw [e, ← this, List.take_length, List.take_of_length_le (by omega)]
    · have e : m = 4 := by omega
      rw [e]
  rw [hus] at hR
  have HX := Lib.hid (And.intro hR (hrr.take 4))
  have HM2 := Lib.hid hM2
  clear hr hrr hm hl hR hus hM2
  go_enter Tryd.func29, Tryd.ntmps29
  go_wp2_with (go_at_call 21; refine (few_walk (RdC.below HX.out.1 (below_new w _)) (HX.out.2.upd (M' := M) (Upd.of_below (F := fun _ => False) (below_new w _)) (fun _ h => h.elim) (fun _ h => .inl h)) (fun b hb => HM2.out b (by simp at hb; omega))).mono ?_; rintro e w2 ⟨v2, u2, rfl, o2, r2, b2⟩; have H2 := Lib.hid (And.intro o2 (And.intro r2 b2)); clear o2 r2 b2)
  go_ret
  refine ⟨_, u2, rfl, ?_, H2.out.2.1, (below_new w _).trans (H2.out.2.2.mono (by simp))⟩
  refine ⟨H2.out.1.1, ?_⟩
  rcases H2.out.1.2 with hn | ⟨g, cap, cur, e1, hb, rest⟩
  · exact .inl hn
  · exact .inr ⟨g, cap, cur, e1, by simp at hb; omega, rest⟩
end Go.Proofs.YtihncdlbbhmglaaDoor

/- Arguments: bytes; acts. -/
namespace Go.Proofs.YtihncdlbbhmglaaDoor
open Go.ChangeShapes Go.WideShapes Go.ChangeAt Go.RowKit Go.Deep

theorem bytes_cells {H : Type} {enc : TypeId × Value → H} {W : World} {base fuel : Nat} {v : Value} {x : DataW H × List MemPlace} (hf : DataW.trod enc Tryd.prog W base (fun _ => true) true fuel 22 [v] = some x) (M : Nat → Prop) (hM : ∀ b, b < W.heap.size → ¬ M b) :
    ∃ bs : Hw.Bytes, RdB M W v bs := by
  rcases open_ints Tryd.underlying22 Tryd.underlying5 cells_u8 hf with ⟨hcs, _⟩ | ⟨a, len, cap, zs, hcs, _, hl, hm, hz, _, hcell, hwz⟩
  · obtain rfl : v = .slice none 0 0 := by simpa using hcs
    exact ⟨[], RdB.nil _ _⟩
  · obtain rfl : v = .slice (some a) len cap := by simpa using hcs
    simp only [if_true] at hz
    exact ⟨_, rdB_row hM hl hm hz hwz (fun h => by cases h) (fun a' h c hc => by cases h; exact hcell c (by omega))⟩
set_option maxRecDepth 100000 in
theorem argBytes {H : Type} {enc : TypeId × Value → H} {W : World} {base : Nat} {v : Value} {d : DataW H} {p : List MemPlace} (hval : Value.okWide Tryd.prog W .any base 22 v)
    (h : DataW.Trod enc Tryd.prog W 0 (fun _ => true) true 22 v d p) : ∃ bs : Hw.Bytes, RdB (fun k => W.heap.size ≤ k) W v bs := by
  obtain ⟨a, len, cap, rfl⟩ := okWide_slice Tryd.underlying22 hval
  obtain ⟨fuel, hf⟩ := h
  exact bytes_cells (by simpa [Value.cells] using hf) _ (fun b hb => by omega)
end Go.Proofs.YtihncdlbbhmglaaDoor

/- Arguments: acts. -/
namespace Go.Proofs.YtihncdlbbhmglaaDoor
open Go.ChangeShapes Go.WideShapes Go.ChangeAt Go.RowKit Go.Deep

theorem fm3 {α : Type} (a b c : α → Value) : ∀ (l : List α) (i : Nat) (x : Value), (l.flatMap fun y => [a y, b y, c y])[i]? = some x → ∃ j y, l[j]? = some y ∧ ((i = j * 3 ∧ x = a y) ∨ (i = j * 3 + 1 ∧ x = b y) ∨ (i = j * 3 + 2 ∧ x = c y))
  | [], i, x, h => by simp at h
  | y :: l, 0, x, h => ⟨0, y, rfl, .inl ⟨rfl, by simpa using h.symm⟩⟩
  | y :: l, 1, x, h => ⟨0, y, rfl, .inr (.inl ⟨rfl, by simpa using h.symm⟩)⟩
  | y :: l, 2, x, h => ⟨0, y, rfl, .inr (.inr ⟨rfl, by simpa using h.symm⟩)⟩
  | y :: l, i + 3, x, h => by
    have h' : (l.flatMap fun y => [a y, b y, c y])[i]? = some x := by simpa using h
    obtain ⟨j, z, h1, h2⟩ := fm3 a b c l i x h'
    refine ⟨j + 1, z, by simpa using h1, ?_⟩
    rcases h2 with ⟨e, e2⟩ | ⟨e, e2⟩ | ⟨e, e2⟩
    · exact .inl ⟨by omega, e2⟩
    · exact .inr (.inl ⟨by omega, e2⟩)
    · exact .inr (.inr ⟨by omega, e2⟩)
theorem fm3_len {α : Type} (a b c : α → Value) (l : List α) : (l.flatMap fun y => [a y, b y, c y]).length = l.length * 3 := by
  induction l with
  | nil => rfl
  | cons y l ih => simp only [List.flatMap_cons, List.length_append, List.length_cons, List.length_nil, ih]; omega
theorem ActCells.of {α : Type} {M : Nat → Prop} {W : World} (g : α → HA) (b c : α → Value) : ∀ (l : List α), (∀ y ∈ l, ActAt M W (b y) (c y) (g y)) → ActCells M W (l.flatMap fun y => [.int .u8 (g y).op, b y, c y]) (l.map g)
  | [], _ => trivial
  | y :: l, h => ⟨rfl, h y (by simp), ActCells.of g b c l (fun z hz => h z (by simp [hz]))⟩
instance : Inhabited HA := ⟨⟨0, [], []⟩⟩
theorem cells_act : Tryd.prog.cellsOf 58 = 3 := by kernel_rfl
set_option maxRecDepth 100000 in
theorem act_cells {H : Type} {enc : TypeId × Value → H} {W : World} {base fuel : Nat} {cs : List Value} {x : DataW H × List MemPlace} (hf : DataW.trod enc Tryd.prog W base (fun _ => true) true fuel 58 cs = some x) (M : Nat → Prop) (hM : ∀ b, b < W.heap.size → ¬ M b) :
    ∃ (a : HA) (rv bv : Value), cs = [.int .u8 a.op, rv, bv] ∧ ActAt M W rv bv a := by
  obtain ⟨xs, n, _, _, hl, hxl, hfs⟩ := DataW.trod_struct Tryd.underlying58 hf
  rw [cells_act] at hl
  match cs, hl with
  | [v0, v1, v2], _ =>
    match xs, hxl with
    | [y0, y1, y2], _ =>
      have g0 := hfs 0 _ rfl
      have g1 := hfs 1 _ rfl
      have g2 := hfs 2 _ rfl
      simp [cells_u8, cells_bytes, show Tryd.prog.cellsOf 47 = 1 by kernel_rfl] at g0 g1 g2
      obtain ⟨k, e0, _, hw⟩ := DataW.trod_int Tryd.underlying5 g0
      have e0 : v0 = .int .u8 k := by simpa using e0
      have hv1 : ∃ A n c, v1 = .slice A n c := by
        rcases open_slice Tryd.underlying47 g1 with ⟨h, _⟩ | ⟨a, len, cap, _, _, _, _, h, _⟩
        · exact ⟨_, _, _, by simpa using h⟩
        · exact ⟨_, _, _, by simpa using h⟩
      obtain ⟨rs, us, hr, hrr⟩ := rdRows_cells hv1 g1 M hM
      obtain ⟨bs, hb⟩ := bytes_cells g2 M hM
      have hk := bounds_u8 hw
      refine ⟨⟨k.toNat, rs, bs⟩, v1, v2, ?_, ⟨us, hr, hrr⟩, hb, by simp only; omega⟩
      rw [e0]; simp only [List.cons.injEq, Value.int.injEq, true_and, and_true]; omega
set_option maxRecDepth 100000 in
theorem argActs {H : Type} {enc : TypeId × Value → H} {W : World} {base : Nat} {v : Value} {d : DataW H} {p : List MemPlace} (hval : Value.okWide Tryd.prog W .any base 55 v)
    (h : DataW.Trod enc Tryd.prog W 0 (fun _ => true) true 55 v d p) : ∃ ac : List HA, RdActs (fun k => W.heap.size ≤ k) W v ac := by
  obtain ⟨a, len, cap, rfl⟩ := okWide_slice Tryd.underlying55 hval
  obtain ⟨fuel, hf⟩ := h
  have hM : ∀ b, b < W.heap.size → ¬ W.heap.size ≤ b := fun b hb => by omega
  rcases open_slice Tryd.underlying55 (by simpa [Value.cells] using hf) with ⟨hcs, _⟩ | ⟨a', len', cap', m, n, D, Pl, hcs, _, hl, hm, hmm, _, hx⟩
  · simp at hcs
    obtain ⟨rfl, rfl, rfl⟩ := hcs
    exact ⟨[], [], RdC.nil _ _ _, trivial⟩
  · simp at hcs
    obtain ⟨rfl, rfl, rfl⟩ := hcs
    simp only [if_true] at hmm
    subst hmm
    rw [cells_act] at hx
    have each : ∀ i, i < m → ∃ y : HA × Value × Value, W.cell? (a'.add (i * 3)) = some (.int .u8 y.1.op) ∧ W.cell? (a'.add (i * 3 + 1)) = some y.2.1 ∧ W.cell? (a'.add (i * 3 + 2)) = some y.2.2 ∧ ActAt (fun k => W.heap.size ≤ k) W y.2.1 y.2.2 y.1 := by
      intro i hi
      obtain ⟨cs', h1, h2⟩ := hx i hi
      obtain ⟨_, _, hcell⟩ := World.cells?_some h1
      obtain ⟨a, rv, bv, rfl, hat⟩ := act_cells h2 (fun k => W.heap.size ≤ k) hM
      have q0 := hcell 0 (by omega)
      have q1 := hcell 1 (by omega)
      have q2 := hcell 2 (by omega)
      rw [add_add] at q0 q1 q2
      exact ⟨(a, rv, bv), by simpa using q0, by simpa using q1, by simpa using q2, hat⟩
    obtain ⟨y, hy⟩ := choose_lt each
    refine ⟨(List.range len).map fun i => (y i).1, (List.range len).flatMap fun i => [.int .u8 (y i).1.op, (y i).2.1, (y i).2.2], ⟨some a', m, by simp, by rw [fm3_len]; simp, by simpa using hl, hm, (fun h => by cases h), fun ad hA hc => ?_⟩, ActCells.of (fun i => (y i).1) (fun i => (y i).2.1) (fun i => (y i).2.2) _ (fun i hi => (hy i (by have := List.mem_range.1 hi; omega)).2.2.2)⟩
    cases hA
    have h0 := (hy 0 hc).1
    have hsp : a'.spot = none := by
      have : a'.add (0 * 3) = a' := by cases a'; rfl
      rw [this] at h0
      cases a'; exact World.cell?_spot h0
    have ha : ∀ i, a'.add i = ⟨a'.block, a'.off + i, none⟩ := by
      intro i
      have : a' = ⟨a'.block, a'.off, none⟩ := by cases a'; simp_all
      rw [this]; exact Addr.add_lit _ _ _
    have hlt : a'.block < W.heap.size := by
      rw [ha] at h0
      have h6 := World.block_lt_of_cell? W _ h0
      exact h6
    refine ⟨hsp, by omega, hlt, fun i x hxi => ?_⟩
    obtain ⟨j, z, hj, hcase⟩ := fm3 (fun i => .int .u8 (y i).1.op) (fun i => (y i).2.1) (fun i => (y i).2.2) _ i x hxi
    have hjl : j < len := by simpa using (List.getElem?_eq_some_iff.1 hj).1
    have hz : z = j := by simp [hjl] at hj; exact hj.symm
    subst hz
    have hyj := hy z (by omega)
    rw [← ha]
    rcases hcase with ⟨rfl, rfl⟩ | ⟨rfl, rfl⟩ | ⟨rfl, rfl⟩
    · exact hyj.1
    · exact hyj.2.1
    · exact hyj.2.2.1
end Go.Proofs.YtihncdlbbhmglaaDoor
