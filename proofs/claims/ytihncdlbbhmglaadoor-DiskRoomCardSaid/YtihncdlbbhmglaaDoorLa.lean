/- Words of the walks: what a world keeps, what is read. -/
import Derived.Test.YtihncdlbbhmglaaDoorProg
import Derived.Test.YtihncdlbbhmglaaDoorPD
import Derived.WalkKit
import Derived.WalkSpells
import Derived.WalkLawsBesides
import Derived.Lib.Hide
import Derived.Deep.QuietTactic
import Derived.BigQuiet
import Derived.Deep.RegionHeld3
import Derived.RegionTactic
import Derived.StillTailTactics
import Derived.Deep.DeepFit
import Derived.Deep.DeepCutAuto
import Derived.Maps.AppendAt
import Derived.Deep.LoopGhost
import Derived.Deep.RegionLaw
import Derived.Deep.AppendLies
namespace Go.Proofs.YtihncdlbbhmglaaDoor
open Go.RowKit

/-- Of what was there nothing has turned but blocks of F. -/
structure Upd (F : Nat → Prop) (w w' : World) : Prop where
  os : w'.os = w.os
  tape : w'.tape = w.tape
  output : w'.output = w.output
  size : w.heap.size ≤ w'.heap.size
  block : ∀ k, k < w.heap.size → ¬ F k → w'.heap[k]? = w.heap[k]?
theorem Upd.refl (F : Nat → Prop) (w : World) : Upd F w w := ⟨rfl, rfl, rfl, Nat.le_refl _, fun _ _ _ => rfl⟩
theorem Upd.trans {F G : Nat → Prop} {a b c : World} (h : Upd F a b) (k : Upd G b c) (hG : ∀ n, n < a.heap.size → G n → F n) : Upd F a c :=
  ⟨k.os.trans h.os, k.tape.trans h.tape, k.output.trans h.output, Nat.le_trans h.size k.size, fun n hn hF =>
    (k.block n (Nat.lt_of_lt_of_le hn h.size) (fun hg => hF (hG n hn hg))).trans (h.block n hn hF)⟩
theorem Upd.mono {F G : Nat → Prop} {w w' : World} (h : Upd F w w') (hF : ∀ n, n < w.heap.size → F n → G n) : Upd G w w' :=
  ⟨h.os, h.tape, h.output, h.size, fun n hn hG => h.block n hn (fun hf => hG (hF n hn hf))⟩
theorem Upd.of_below {F : Nat → Prop} {w w' : World} (h : Below w.heap.size w w') : Upd F w w' := ⟨h.os, h.tape, h.output, h.size, fun n hn _ => h.block n hn⟩
theorem Upd.below {B : Nat} {F : Nat → Prop} {w w' : World} (h : Upd F w w') (hB : B ≤ w.heap.size) (hF : ∀ n, F n → B ≤ n) : Below B w w' :=
  ⟨h.os, h.tape, h.output, h.size, fun n hn => h.block n (by omega) (fun hf => by have := hF n hf; omega)⟩
theorem Upd.drew {F : Nat → Prop} {w w' : World} (h : Upd F w w') : Upd F w w'.drew := ⟨h.os, h.tape, h.output, h.size, h.block⟩
theorem Upd.alloc {F : Nat → Prop} {w w' : World} (h : Upd F w w') (o : Obj) : Upd F w (w'.alloc o) :=
  h.trans (G := fun _ => False) ⟨rfl, rfl, rfl, by simp, fun k hk _ => Below.heap_alloc _ _ _ hk⟩ (fun _ _ h => h.elim)
theorem Upd.setCell {F : Nat → Prop} {w w' : World} (h : Upd F w w') {p : Addr} (hp : F p.block ∨ w.heap.size ≤ p.block) (u : Value) : Upd F w (w'.setCell p u) :=
  h.trans (G := fun n => n = p.block) ⟨rfl, rfl, rfl, by simp [World.setCell], fun k _ hk => Below.heap_setCell _ _ _ _ hk⟩ (fun n hn e => by subst e; rcases hp with h | h; exact h; omega)

theorem bel_drewN {B : Nat} {w W : World} (h : Below B w W) (n : Nat) : Below B w (W.drewN n) := ⟨h.os, h.tape, h.output, h.size, h.block⟩
theorem Upd.drewN {F : Nat → Prop} {w w' : World} (h : Upd F w w') (n : Nat) : Upd F w (w'.drewN n) := ⟨h.os, h.tape, h.output, h.size, h.block⟩
theorem below_new (w : World) (o : Obj) : Below w.heap.size w (w.alloc o) := (Below.refl _ _).alloc (Nat.le_refl _) o
theorem blk_set {w : World} {b : Nat} {t : TypeId} {cs : Array Value} (h : w.heap[b]? = some (.cells cs t (0, 0))) (i : Nat) (u : Value) : (w.setCell ⟨b, i, none⟩ u).heap[b]? = some (.cells (cs.setIfInBounds i u) t (0, 0)) := by
  have hlt : b < w.heap.size := (Array.getElem?_eq_some_iff.1 h).1
  simp only [World.setCell, Array.getElem?_modify, if_true, h]
  simp
def u8s (bs : Hw.Bytes) : List Value := bs.map fun c => .int .u8 (c.toNat : Int)
theorem u8s_length (bs : Hw.Bytes) : (u8s bs).length = bs.length := by simp [u8s]
theorem u8s_append (cs bs : Hw.Bytes) : u8s (cs ++ bs) = u8s cs ++ u8s bs := by simp [u8s]
theorem u8s_take (bs : Hw.Bytes) (n : Nat) : u8s (bs.take n) = (u8s bs).take n := by simp [u8s, List.map_take]
theorem u8s_drop (bs : Hw.Bytes) (n : Nat) : u8s (bs.drop n) = (u8s bs).drop n := by simp [u8s, List.map_drop]
theorem u8s_get {bs : Hw.Bytes} {i : Nat} {x : UInt8} (h : bs[i]? = some x) : (u8s bs)[i]? = some (.int .u8 (x.toNat : Int)) := by simp [u8s, h]
theorem u8s_one (bs : Hw.Bytes) : ∀ u ∈ u8s bs, u.oneCell' = true := by
  intro u hu
  obtain ⟨c, _, rfl⟩ := List.mem_map.1 hu
  rfl
/-- The slice v has n elements of so many cells each, which are these, in a block that is none of M. -/
def RdC (M : Nat → Prop) (w : World) (size : Nat) (v : Value) (n : Nat) (cs : List Value) : Prop :=
  ∃ A c, v = .slice A n c ∧ cs.length = n * size ∧ n ≤ c ∧ c ≤ maxLen ∧ (A = none → c = 0) ∧
    ∀ ad, A = some ad → ad.spot = none ∧ ¬ M ad.block ∧ ad.block < w.heap.size ∧ ∀ i x, cs[i]? = some x → w.cell? ⟨ad.block, ad.off + i, none⟩ = some x
theorem RdC.upd {M F M' : Nat → Prop} {w w' : World} {size n : Nat} {v : Value} {cs : List Value} (h : RdC M w size v n cs) (hu : Upd F w w') (hF : ∀ n, F n → M n ∨ w.heap.size ≤ n) (hM : ∀ n, M' n → M n ∨ w.heap.size ≤ n) : RdC M' w' size v n cs := by
  obtain ⟨A, c, rfl, h0, h1, h2, h3, h4⟩ := h
  refine ⟨A, c, rfl, h0, h1, h2, h3, fun ad hA => ?_⟩
  obtain ⟨g1, g2, g3, g4⟩ := h4 ad hA
  refine ⟨g1, fun hm => ?_, Nat.lt_of_lt_of_le g3 hu.size, fun i x hx => ?_⟩
  · rcases hM _ hm with h | h
    · exact g2 h
    · omega
  · rw [← g4 i x hx]
    exact World.cell?_of_block (w := w) (hu.block ad.block g3 (fun hf => (hF _ hf).elim g2 (fun h => by omega)))
theorem RdC.below {M : Nat → Prop} {w w' : World} {size n : Nat} {v : Value} {cs : List Value} (h : RdC M w size v n cs) (hu : Below w.heap.size w w') : RdC M w' size v n cs :=
  h.upd (F := fun _ => False) (Upd.of_below hu) (fun _ h => h.elim) (fun _ h => .inl h)
theorem RdC.len {M : Nat → Prop} {w : World} {size n : Nat} {v : Value} {cs : List Value} (h : RdC M w size v n cs) : ∃ A c, v = .slice A n c ∧ n ≤ c ∧ c ≤ maxLen := by
  obtain ⟨A, c, rfl, _, h1, h2, _⟩ := h; exact ⟨A, c, rfl, h1, h2⟩
/-- Where there is a cell there is an address. -/
theorem RdC.at {M : Nat → Prop} {w : World} {size n : Nat} {v : Value} {cs : List Value} (h : RdC M w size v n cs) (hn : 0 < n) :
    ∃ b o c, v = .slice (some ⟨b, o, none⟩) n c ∧ cs.length = n * size ∧ n ≤ c ∧ c ≤ maxLen ∧ ¬ M b ∧ b < w.heap.size ∧ ∀ i x, cs[i]? = some x → w.cell? ⟨b, o + i, none⟩ = some x := by
  obtain ⟨A, c, rfl, h0, h1, h2, h3, h4⟩ := h
  cases A with
  | none => have := h3 rfl; omega
  | some ad =>
    obtain ⟨g1, g2, g3, g4⟩ := h4 ad rfl
    exact ⟨ad.block, ad.off, c, by cases ad; simp_all, h0, h1, h2, g2, g3, g4⟩
theorem RdC.nil (M : Nat → Prop) (w : World) (size : Nat) : RdC M w size (.slice none 0 0) 0 [] := ⟨none, 0, rfl, by simp, Nat.le_refl _, by simp [maxLen], fun _ => rfl, (fun ad h => by cases h)⟩
theorem RdC.of_own {M : Nat → Prop} {w : World} {base size n : Nat} {e : TypeId} {v : Value} {cs : List Value} (h : w.ownsRow base e size v n cs) (hM : ∀ k, v.ownBlock = some k → ¬ M k) : RdC M w size v n cs := by
  have hl := h.lt
  have hc := fun g hg => h.cells (g := g) hg
  obtain ⟨h0, h⟩ := h
  rcases h with ⟨rfl, rfl⟩ | ⟨g, cap, cur, rfl, hb, hg, h1, h2, h3, h4⟩
  · have : cs = [] := List.eq_nil_of_length_eq_zero (by simpa using h0)
    subst this; exact RdC.nil _ _ _
  · refine ⟨_, cap, rfl, h0, h1, h2, (fun h => by cases h), fun ad hA => ?_⟩
    cases hA
    refine ⟨rfl, hM g rfl, (hl g rfl).2, fun i x hx => ?_⟩
    have := hc g rfl i x hx
    rw [Addr.add_lit] at this; simpa using this
theorem own_form {w : World} {base size n : Nat} {e : TypeId} {v : Value} {cs : List Value} (h : w.ownsRow base e size v n cs) : ∃ A c, v = .slice A n c := by
  rcases h.2 with ⟨rfl, rfl⟩ | ⟨g, cap, cur, rfl, _⟩
  · exact ⟨_, _, rfl⟩
  · exact ⟨_, _, rfl⟩
/-- A piece from the i-th element on. -/
theorem RdC.sub {M : Nat → Prop} {w : World} {n c : Nat} {A : Option Addr} {cs : List Value} (h : RdC M w 1 (.slice A n c) n cs) (i j : Nat) (hij : i ≤ j) (hj : j ≤ n) :
    RdC M w 1 (.slice (if c = i then A else A.map (·.add i)) (j - i) (c - i)) (j - i) ((cs.drop i).take (j - i)) := by
  obtain ⟨A', c', hv, h0, h1, h2, h3, h4⟩ := h
  cases hv
  refine ⟨_, _, rfl, by simp; omega, by omega, by omega, fun hA => ?_, fun ad hA => ?_⟩
  · split at hA
    · have := h3 hA; omega
    · cases A with
      | none => have := h3 rfl; omega
      | some a => cases hA
  · by_cases hc : c = i
    · rw [if_pos hc] at hA
      obtain ⟨g1, g2, g3, _⟩ := h4 ad hA
      refine ⟨g1, g2, g3, fun k x hx => ?_⟩
      have : j - i = 0 := by omega
      rw [this] at hx; simp at hx
    · rw [if_neg hc] at hA
      cases A with
      | none => cases hA
      | some a =>
        simp only [Option.map_some, Option.some.injEq] at hA
        subst hA
        obtain ⟨g1, g2, g3, g4⟩ := h4 a rfl
        have ha : a = ⟨a.block, a.off, none⟩ := by cases a; simp_all
        have hadd : a.add i = ⟨a.block, a.off + i, none⟩ := by rw [ha]; exact Addr.add_lit _ _ _
        rw [hadd]
        refine ⟨rfl, g2, g3, fun k x hx => ?_⟩
        rw [List.getElem?_take] at hx
        split at hx
        · rw [List.getElem?_drop] at hx
          have := g4 (i + k) x hx
          rw [Nat.add_assoc]; exact this
        · cases hx

/-- v reads as these bytes, through a block that is none of M. -/
def RdB (M : Nat → Prop) (w : World) (v : Value) (bs : Hw.Bytes) : Prop := RdC M w 1 v bs.length (u8s bs)
theorem RdB.upd {M F M' : Nat → Prop} {w w' : World} {v : Value} {bs : Hw.Bytes} (h : RdB M w v bs) (hu : Upd F w w') (hF : ∀ n, F n → M n ∨ w.heap.size ≤ n) (hM : ∀ n, M' n → M n ∨ w.heap.size ≤ n) : RdB M' w' v bs := RdC.upd h hu hF hM
theorem RdB.below {M : Nat → Prop} {w w' : World} {v : Value} {bs : Hw.Bytes} (h : RdB M w v bs) (hu : Below w.heap.size w w') : RdB M w' v bs := RdC.below h hu
theorem RdB.nil (M : Nat → Prop) (w : World) : RdB M w (.slice none 0 0) [] := RdC.nil _ _ _
theorem RdB.len {M : Nat → Prop} {w : World} {v : Value} {bs : Hw.Bytes} (h : RdB M w v bs) : ∃ A c, v = .slice A bs.length c ∧ bs.length ≤ c ∧ c ≤ maxLen := RdC.len h
theorem RdB.at {M : Nat → Prop} {w : World} {v : Value} {bs : Hw.Bytes} (h : RdB M w v bs) (hn : 0 < bs.length) :
    ∃ b o c, v = .slice (some ⟨b, o, none⟩) bs.length c ∧ bs.length ≤ c ∧ c ≤ maxLen ∧ ¬ M b ∧ b < w.heap.size ∧ ∀ (i : Nat) x, bs[i]? = some x → w.cell? ⟨b, o + i, none⟩ = some (.int .u8 (x.toNat : Int)) := by
  obtain ⟨b, o, c, h1, _, h2, h3, h4, h5, h6⟩ := RdC.at h hn
  exact ⟨b, o, c, h1, h2, h3, h4, h5, fun i x hx => h6 i _ (u8s_get hx)⟩
theorem RdB.of_own {M : Nat → Prop} {w : World} {base n : Nat} {e : TypeId} {v : Value} {bs : Hw.Bytes} (h : w.ownsRow base e 1 v n (u8s bs)) (hM : ∀ k, v.ownBlock = some k → ¬ M k) : RdB M w v bs := by
  have hl := h.1
  rw [u8s_length] at hl
  have : n = bs.length := by omega
  subst this
  exact RdC.of_own h hM
theorem RdB.sub {M : Nat → Prop} {w : World} {bs : Hw.Bytes} {n c : Nat} {A : Option Addr} (h : RdB M w (.slice A n c) bs) (i j : Nat) (hij : i ≤ j) (hj : j ≤ n) :
    RdB M w (.slice (if c = i then A else A.map (·.add i)) (j - i) (c - i)) ((bs.drop i).take (j - i)) := by
  have hn : n = bs.length := by obtain ⟨A', c', hv, _⟩ := h; cases hv; rfl
  subst hn
  have := RdC.sub h i j hij hj
  unfold RdB
  rw [u8s_take, u8s_drop, List.length_take, List.length_drop, Nat.min_eq_left (by omega)]
  exact this

theorem RdC.mono {M M' : Nat → Prop} {w : World} {size n : Nat} {v : Value} {cs : List Value} (h : RdC M w size v n cs) (hM : ∀ k, M' k → M k) : RdC M' w size v n cs := by
  obtain ⟨A, c, rfl, h0, h1, h2, h3, h4⟩ := h
  exact ⟨A, c, rfl, h0, h1, h2, h3, fun ad hA => by obtain ⟨g1, g2, g3, g4⟩ := h4 ad hA; exact ⟨g1, fun hm => g2 (hM _ hm), g3, g4⟩⟩
/-- The rest from the i-th byte on. -/
theorem RdB.from {M : Nat → Prop} {w : World} {bs : Hw.Bytes} {c : Nat} {A : Option Addr} (h : RdB M w (.slice A bs.length c) bs) (i : Nat) (hi : i ≤ bs.length) :
    RdB M w (.slice (if c = i then A else A.map (·.add i)) (bs.length - i) (c - i)) (bs.drop i) := by
  have := RdB.sub h i bs.length hi (Nat.le_refl _)
  rwa [List.take_of_length_le (by simp)] at this
/-- Values that read as rows of bytes. -/
def RdRows (M : Nat → Prop) (w : World) : List Value → List Hw.Bytes → Prop
  | [], [] => True
  | v :: vs, r :: rs => RdB M w v r ∧ RdRows M w vs rs
  | _, _ => False
theorem RdRows.upd {M F M' : Nat → Prop} {w w' : World} (hu : Upd F w w') (hF : ∀ n, F n → M n ∨ w.heap.size ≤ n) (hM : ∀ n, M' n → M n ∨ w.heap.size ≤ n) :
    ∀ {vs : List Value} {rs : List Hw.Bytes}, RdRows M w vs rs → RdRows M' w' vs rs
  | [], [], _ => trivial
  | _ :: _, _ :: _, h => ⟨h.1.upd hu hF hM, RdRows.upd hu hF hM h.2⟩
  | [], _ :: _, h => h.elim
  | _ :: _, [], h => h.elim
theorem RdRows.mono {M M' : Nat → Prop} {w : World} (hM : ∀ k, M' k → M k) : ∀ {vs : List Value} {rs : List Hw.Bytes}, RdRows M w vs rs → RdRows M' w vs rs
  | [], [], _ => trivial
  | _ :: _, _ :: _, h => ⟨RdC.mono h.1 hM, RdRows.mono hM h.2⟩
  | [], _ :: _, h => h.elim
  | _ :: _, [], h => h.elim
theorem RdRows.length {M : Nat → Prop} {w : World} : ∀ {vs : List Value} {rs : List Hw.Bytes}, RdRows M w vs rs → vs.length = rs.length
  | [], [], _ => rfl
  | _ :: _, _ :: _, h => congrArg (· + 1) (RdRows.length h.2)
  | [], _ :: _, h => h.elim
  | _ :: _, [], h => h.elim
theorem RdRows.append {M : Nat → Prop} {w : World} : ∀ {vs us : List Value} {rs qs : List Hw.Bytes}, RdRows M w vs rs → RdRows M w us qs → RdRows M w (vs ++ us) (rs ++ qs)
  | [], _, [], _, _, h' => h'
  | _ :: _, _, _ :: _, _, h, h' => ⟨h.1, RdRows.append h.2 h'⟩
  | [], _, _ :: _, _, h, _ => h.elim
  | _ :: _, _, [], _, h, _ => h.elim
theorem RdRows.get {M : Nat → Prop} {w : World} : ∀ {vs : List Value} {rs : List Hw.Bytes}, RdRows M w vs rs → ∀ {i : Nat} {r : Hw.Bytes}, rs[i]? = some r → ∃ v, vs[i]? = some v ∧ RdB M w v r
  | [], [], _, i, r, h => by simp at h
  | v :: vs, r0 :: rs, h, 0, r, e => by simp at e; subst e; exact ⟨v, rfl, h.1⟩
  | v :: vs, r0 :: rs, h, i + 1, r, e => by simp at e; simpa using RdRows.get h.2 e
  | [], _ :: _, h, _, _, _ => h.elim
  | _ :: _, [], h, _, _, _ => h.elim
theorem RdRows.one {M : Nat → Prop} {w : World} : ∀ {vs : List Value} {rs : List Hw.Bytes}, RdRows M w vs rs → ∀ u ∈ vs, u.oneCell' = true
  | [], [], _, u, hu => by cases hu
  | v :: vs, r0 :: rs, h, u, hu => by
    rcases List.mem_cons.1 hu with rfl | hu
    · obtain ⟨A, c, rfl, _⟩ := RdB.len h.1; rfl
    · exact RdRows.one h.2 u hu
  | [], _ :: _, h, _, _ => h.elim
  | _ :: _, [], h, _, _ => h.elim

/-! ### append -/
theorem run_append_none {P : Program} (w : World) (t ty e : TypeId) (i : TypeInfo) (ht : P.underlying t = some (.slice e)) (hi : P.info? e = some i) (A : Option Addr) (n c : Nat) (h : n ≤ c) :
    (Builtin.append_ #[t, t] ty #[.slice A n c, .slice none 0 0]).run P w = .ok (.slice A n c) w := by
  cases A <;> simp [Builtin.append_, run_underlying ht, sizeOf, typeInfo, hi, Builtin.lenOf, h, Builtin.firstCells, storeCells]
/-- 'append(s, x...)': s owned, x read, whatever it is: nil too. -/
theorem wpAppend {P : Program} (w : World) {ops : Array Oper} {rest : List Oper} {o : Oper} {a : Act} {Q : Exit → Act → World → Prop} (hgd : o.guard = none) (s x : Operand) (t : TypeId)
    (ho : o.op = .call { callee := .builtin .append, args := #[s, x], argTypes := #[t, t] })
    (base : Nat) (e : TypeId) (i : TypeInfo) (z : Value) (size bytes : Nat) (ht : P.underlying t = some (.slice e)) (hi : P.info? e = some i) (hz : i.zero = some z)
    (hsize : i.size = size) (hby : i.bytes = bytes) (hzs : z.cells.size = size) (hsz : 0 < size)
    (v : Value) (n : Nat) (xs : List Value) (hs : a.eval s = v) (hown : w.ownsRow base e size v n xs)
    (M : Nat → Prop) (vx : Value) (m : Nat) (news : List Value) (hx : a.eval x = vx) (hr : RdC M w size vx m news) (h1 : ∀ u ∈ news, u.oneCell' = true)
    (h63 : n + m ≤ maxLen) (hbytes : (n + m) * bytes ≤ 140737488355328) (hbase : base ≤ w.heap.size)
    (h : ∀ v' w', w'.ownsRow base e size v' (n + m) (xs ++ news) → w.grownBy w' v.ownBlock → (v'.ownBlock = v.ownBlock ∨ v'.ownBlock = some w.heap.size) → wpList P ops Q rest (a.put o.dst v') w') :
    wpList P ops Q (o :: rest) a w := by
  obtain ⟨A, c, rfl, g0, g1, g2, g3, g4⟩ := hr
  cases A with
  | none =>
    have hc := g3 rfl
    have hm : m = 0 := by omega
    subst hm; subst hc
    have hn : news = [] := List.eq_nil_of_length_eq_zero (by simpa using g0)
    subst hn
    refine wpList_plain hgd fun K hK => ?_
    have hv : ∃ A c, v = .slice A n c ∧ n ≤ c := by
      rcases hown.2 with ⟨rfl, rfl⟩ | ⟨g, cap, cur, rfl, _, _, h, _⟩
      · exact ⟨_, _, rfl, Nat.le_refl _⟩
      · exact ⟨_, _, rfl, h⟩
    obtain ⟨A, c, rfl, hnc⟩ := hv
    have hr := run_append_none (P := P) w t o.type e i ht hi A n c hnc
    unfold Oper.wp execOp
    simp only [ho, resolve, invoke, builtin, Sem.run_bind, Sem.run_pure, Result.andThen_ok, List.map_toArray, List.map_cons, List.map_nil, hs, hx, hr]
    exact hK _ _ (h _ w (by simpa using hown) ⟨rfl, rfl, rfl, Nat.le_refl _, fun _ _ _ => rfl⟩ (.inl rfl))
  | some ad =>
    obtain ⟨k1, k2, k3, k4⟩ := g4 ad rfl
    have had : ad = ⟨ad.block, ad.off, none⟩ := by cases ad; simp_all
    refine wpList_append_own_at (P := P) w hgd s x t ho base e i z size bytes ht hi hz hsize hby hzs hsz v n xs hs hown ad m c news hx g0 (fun j u hu => ?_) h1 h63 hbytes hbase (fun v' w' q1 q2 _ q4 => h v' w' q1 q2 q4)
    rw [had, Addr.add_lit]; exact k4 j u hu
/-- A row that was made just now. -/
theorem RdC.made {M : Nat → Prop} (w : World) (size n : Nat) (cs : Array Value) (e : TypeId) (hl : cs.size = n * size) (hn : n ≤ maxLen) (hM : ¬ M w.heap.size) :
    RdC M (w.alloc (.cells cs e)) size (.slice (some ⟨w.heap.size, 0, none⟩) n n) n cs.toList := by
  refine ⟨_, n, rfl, by simpa using hl, Nat.le_refl _, hn, (fun h => by cases h), fun ad hA => ?_⟩
  cases hA
  refine ⟨rfl, hM, by simp, fun i x hx => ?_⟩
  rw [Nat.zero_add]
  have := cell_of_row (w.alloc (.cells cs e)) w.heap.size i cs e (0, 0) (heap_alloc_new w _)
  rw [this]; simpa using hx
theorem own_made (w : World) (base size n : Nat) (cs : Array Value) (e : TypeId) (hl : cs.size = n * size) (hn : n ≤ maxLen) (hb : base ≤ w.heap.size) :
    (w.alloc (.cells cs e)).ownsRow base e size (.slice (some ⟨w.heap.size, 0, none⟩) n n) n cs.toList :=
  ⟨by simpa using hl, .inr ⟨w.heap.size, n, cs, rfl, hb, heap_alloc_new w _, Nat.le_refl _, hn, hl, by rw [List.take_of_length_le (by simp [hl])]⟩⟩
theorem Upd.of_grown {w w' : World} {row : Option Nat} (h : w.grownBy w' row) : Upd (fun n => row = some n) w w' := ⟨h.os, h.tape, h.output, h.size, fun k hk hn => h.block k hk (fun e => hn e.symm)⟩
/-- An owned row stays where another block, or none of those that were there, has turned. -/
theorem own_upd {F : Nat → Prop} {w w' : World} {base size n : Nat} {e : TypeId} {v : Value} {xs : List Value} (h : w.ownsRow base e size v n xs) (hu : Upd F w w') (hv : ∀ k, v.ownBlock = some k → ¬ F k) : w'.ownsRow base e size v n xs := by
  refine ⟨h.1, ?_⟩
  rcases h.2 with hn | ⟨g, cap, cur, rfl, hb, hgg, rest⟩
  · exact .inl hn
  · refine .inr ⟨g, cap, cur, rfl, hb, ?_, rest⟩
    rw [hu.block g (Array.getElem?_eq_some_iff.1 hgg).1 (hv g rfl)]
    exact hgg
end Go.Proofs.YtihncdlbbhmglaaDoor
