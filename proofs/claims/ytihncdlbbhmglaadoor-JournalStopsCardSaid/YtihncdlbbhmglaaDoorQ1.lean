/- Texts that build together: La Wa Wb Wc Wd We Wf Wg Wh Wi. -/
import Derived.WalkKit
import Derived.WalkSpells
import Derived.WalkLawsBesides
import Derived.Lib.Hide
import Derived.Deep.QuietTactic
import Derived.BigQuiet
import Derived.Deep.RegionHeld3
import Derived.RegionTactic
import Derived.StillTailTactics
import Derived.Deep.DeepFit
import Derived.Deep.DeepCutAuto
import Derived.Maps.AppendAt
import Derived.Deep.LoopGhost
import Derived.Deep.RegionLaw
import Derived.Deep.AppendLies
import Derived.Test.YtihncdlbbhmglaaDoorProg
import Derived.Test.YtihncdlbbhmglaaDoorQ0
set_option linter.unusedVariables false
set_option linter.unusedSimpArgs false
/- Words of the walks: what a world keeps, what is read. -/
namespace Go.Proofs.YtihncdlbbhmglaaDoor
open Go.RowKit

/-- Of what was there nothing has turned but blocks of F. -/
structure Upd (F : Nat → Prop) (w w' : World) : Prop where
  os : w'.os = w.os
  tape : w'.tape = w.tape
  output : w'.output = w.output
  size : w.heap.size ≤ w'.heap.size
  block : ∀ k, k < w.heap.size → ¬ F k → w'.heap[k]? = w.heap[k]?
theorem Upd.refl (F : Nat → Prop) (w : World) : Upd F w w := ⟨rfl, rfl, rfl, Nat.le_refl _, fun _ _ _ => rfl⟩
theorem Upd.trans {F G : Nat → Prop} {a b c : World} (h : Upd F a b) (k : Upd G b c) (hG : ∀ n, n < a.heap.size → G n → F n) : Upd F a c :=
  ⟨k.os.trans h.os, k.tape.trans h.tape, k.output.trans h.output, Nat.le_trans h.size k.size, fun n hn hF =>
    (k.block n (Nat.lt_of_lt_of_le hn h.size) (fun hg => hF (hG n hn hg))).trans (h.block n hn hF)⟩
theorem Upd.mono {F G : Nat → Prop} {w w' : World} (h : Upd F w w') (hF : ∀ n, n < w.heap.size → F n → G n) : Upd G w w' :=
  ⟨h.os, h.tape, h.output, h.size, fun n hn hG => h.block n hn (fun hf => hG (hF n hn hf))⟩
theorem Upd.of_below {F : Nat → Prop} {w w' : World} (h : Below w.heap.size w w') : Upd F w w' := ⟨h.os, h.tape, h.output, h.size, fun n hn _ => h.block n hn⟩
theorem Upd.below {B : Nat} {F : Nat → Prop} {w w' : World} (h : Upd F w w') (hB : B ≤ w.heap.size) (hF : ∀ n, F n → B ≤ n) : Below B w w' :=
  ⟨h.os, h.tape, h.output, h.size, fun n hn => h.block n (by omega) (fun hf => by have := hF n hf; omega)⟩
theorem Upd.drew {F : Nat → Prop} {w w' : World} (h : Upd F w w') : Upd F w w'.drew := ⟨h.os, h.tape, h.output, h.size, h.block⟩
theorem Upd.alloc {F : Nat → Prop} {w w' : World} (h : Upd F w w') (o : Obj) : Upd F w (w'.alloc o) :=
  h.trans (G := fun _ => False) ⟨rfl, rfl, rfl, by simp, fun k hk _ => Below.heap_alloc _ _ _ hk⟩ (fun _ _ h => h.elim)
theorem Upd.setCell {F : Nat → Prop} {w w' : World} (h : Upd F w w') {p : Addr} (hp : F p.block ∨ w.heap.size ≤ p.block) (u : Value) : Upd F w (w'.setCell p u) :=
  h.trans (G := fun n => n = p.block) ⟨rfl, rfl, rfl, by simp [World.setCell], fun k _ hk => Below.heap_setCell _ _ _ _ hk⟩ (fun n hn e => by subst e; rcases hp with h | h; exact h; omega)

theorem bel_drewN {B : Nat} {w W : World} (h : Below B w W) (n : Nat) : Below B w (W.drewN n) := ⟨h.os, h.tape, h.output, h.size, h.block⟩
theorem Upd.drewN {F : Nat → Prop} {w w' : World} (h : Upd F w w') (n : Nat) : Upd F w (w'.drewN n) := ⟨h.os, h.tape, h.output, h.size, h.block⟩
theorem below_new (w : World) (o : Obj) : Below w.heap.size w (w.alloc o) := (Below.refl _ _).alloc (Nat.le_refl _) o
theorem blk_set {w : World} {b : Nat} {t : TypeId} {cs : Array Value} (h : w.heap[b]? = some (.cells cs t (0, 0))) (i : Nat) (u : Value) : (w.setCell ⟨b, i, none⟩ u).heap[b]? = some (.cells (cs.setIfInBounds i u) t (0, 0)) := by
  have hlt : b < w.heap.size := (Array.getElem?_eq_some_iff.1 h).1
  simp only [World.setCell, Array.getElem?_modify, if_true, h]
  simp
def u8s (bs : Hw.Bytes) : List Value := bs.map fun c => .int .u8 (c.toNat : Int)
theorem u8s_length (bs : Hw.Bytes) : (u8s bs).length = bs.length := by simp [u8s]
theorem u8s_append (cs bs : Hw.Bytes) : u8s (cs ++ bs) = u8s cs ++ u8s bs := by simp [u8s]
theorem u8s_take (bs : Hw.Bytes) (n : Nat) : u8s (bs.take n) = (u8s bs).take n := by simp [u8s, List.map_take]
theorem u8s_drop (bs : Hw.Bytes) (n : Nat) : u8s (bs.drop n) = (u8s bs).drop n := by simp [u8s, List.map_drop]
theorem u8s_get {bs : Hw.Bytes} {i : Nat} {x : UInt8} (h : bs[i]? = some x) : (u8s bs)[i]? = some (.int .u8 (x.toNat : Int)) := by simp [u8s, h]
theorem u8s_one (bs : Hw.Bytes) : ∀ u ∈ u8s bs, u.oneCell' = true := by
  intro u hu
  obtain ⟨c, _, rfl⟩ := List.mem_map.1 hu
  rfl
/-- The slice v has n elements of so many cells each, which are these, in a block that is none of M. -/
def RdC (M : Nat → Prop) (w : World) (size : Nat) (v : Value) (n : Nat) (cs : List Value) : Prop :=
  ∃ A c, v = .slice A n c ∧ cs.length = n * size ∧ n ≤ c ∧ c ≤ maxLen ∧ (A = none → c = 0) ∧
    ∀ ad, A = some ad → 0 < c → ad.spot = none ∧ ¬ M ad.block ∧ ad.block < w.heap.size ∧ ∀ i x, cs[i]? = some x → w.cell? ⟨ad.block, ad.off + i, none⟩ = some x
theorem RdC.upd {M F M' : Nat → Prop} {w w' : World} {size n : Nat} {v : Value} {cs : List Value} (h : RdC M w size v n cs) (hu : Upd F w w') (hF : ∀ n, F n → M n ∨ w.heap.size ≤ n) (hM : ∀ n, M' n → M n ∨ w.heap.size ≤ n) : RdC M' w' size v n cs := by
  obtain ⟨A, c, rfl, h0, h1, h2, h3, h4⟩ := h
  refine ⟨A, c, rfl, h0, h1, h2, h3, fun ad hA hc => ?_⟩
  obtain ⟨g1, g2, g3, g4⟩ := h4 ad hA hc
  refine ⟨g1, fun hm => ?_, Nat.lt_of_lt_of_le g3 hu.size, fun i x hx => ?_⟩
  · rcases hM _ hm with h | h
    · exact g2 h
    · omega
  · rw [← g4 i x hx]
    exact World.cell?_of_block (w := w) (hu.block ad.block g3 (fun hf => (hF _ hf).elim g2 (fun h => by omega)))
theorem RdC.below {M : Nat → Prop} {w w' : World} {size n : Nat} {v : Value} {cs : List Value} (h : RdC M w size v n cs) (hu : Below w.heap.size w w') : RdC M w' size v n cs :=
  h.upd (F := fun _ => False) (Upd.of_below hu) (fun _ h => h.elim) (fun _ h => .inl h)
theorem RdC.len {M : Nat → Prop} {w : World} {size n : Nat} {v : Value} {cs : List Value} (h : RdC M w size v n cs) : ∃ A c, v = .slice A n c ∧ n ≤ c ∧ c ≤ maxLen := by
  obtain ⟨A, c, rfl, _, h1, h2, _⟩ := h; exact ⟨A, c, rfl, h1, h2⟩
/-- Where there is a cell there is an address. -/
theorem RdC.at {M : Nat → Prop} {w : World} {size n : Nat} {v : Value} {cs : List Value} (h : RdC M w size v n cs) (hn : 0 < n) :
    ∃ b o c, v = .slice (some ⟨b, o, none⟩) n c ∧ cs.length = n * size ∧ n ≤ c ∧ c ≤ maxLen ∧ ¬ M b ∧ b < w.heap.size ∧ ∀ i x, cs[i]? = some x → w.cell? ⟨b, o + i, none⟩ = some x := by
  obtain ⟨A, c, rfl, h0, h1, h2, h3, h4⟩ := h
  cases A with
  | none => have := h3 rfl; omega
  | some ad =>
    obtain ⟨g1, g2, g3, g4⟩ := h4 ad rfl (by omega)
    exact ⟨ad.block, ad.off, c, by cases ad; simp_all, h0, h1, h2, g2, g3, g4⟩
theorem RdC.nil (M : Nat → Prop) (w : World) (size : Nat) : RdC M w size (.slice none 0 0) 0 [] := ⟨none, 0, rfl, by simp, Nat.le_refl _, by simp [maxLen], fun _ => rfl, (fun ad h => by cases h)⟩
theorem RdC.of_own {M : Nat → Prop} {w : World} {base size n : Nat} {e : TypeId} {v : Value} {cs : List Value} (h : w.ownsRow base e size v n cs) (hM : ∀ k, v.ownBlock = some k → ¬ M k) : RdC M w size v n cs := by
  have hl := h.lt
  have hc := fun g hg => h.cells (g := g) hg
  obtain ⟨h0, h⟩ := h
  rcases h with ⟨rfl, rfl⟩ | ⟨g, cap, cur, rfl, hb, hg, h1, h2, h3, h4⟩
  · have : cs = [] := List.eq_nil_of_length_eq_zero (by simpa using h0)
    subst this; exact RdC.nil _ _ _
  · refine ⟨_, cap, rfl, h0, h1, h2, (fun h => by cases h), fun ad hA _ => ?_⟩
    cases hA
    refine ⟨rfl, hM g rfl, (hl g rfl).2, fun i x hx => ?_⟩
    have := hc g rfl i x hx
    rw [Addr.add_lit] at this; simpa using this
theorem own_form {w : World} {base size n : Nat} {e : TypeId} {v : Value} {cs : List Value} (h : w.ownsRow base e size v n cs) : ∃ A c, v = .slice A n c := by
  rcases h.2 with ⟨rfl, rfl⟩ | ⟨g, cap, cur, rfl, _⟩
  · exact ⟨_, _, rfl⟩
  · exact ⟨_, _, rfl⟩
/-- A piece from the i-th element on. -/
theorem RdC.sub {M : Nat → Prop} {w : World} {n c : Nat} {A : Option Addr} {cs : List Value} (h : RdC M w 1 (.slice A n c) n cs) (i j : Nat) (hij : i ≤ j) (hj : j ≤ n) :
    RdC M w 1 (.slice (if c = i then A else A.map (·.add i)) (j - i) (c - i)) (j - i) ((cs.drop i).take (j - i)) := by
  obtain ⟨A', c', hv, h0, h1, h2, h3, h4⟩ := h
  cases hv
  refine ⟨_, _, rfl, by simp; omega, by omega, by omega, fun hA => ?_, fun ad hA hci => ?_⟩
  · split at hA
    · have := h3 hA; omega
    · cases A with
      | none => have := h3 rfl; omega
      | some a => cases hA
  · by_cases hc : c = i
    · omega
    · rw [if_neg hc] at hA
      cases A with
      | none => cases hA
      | some a =>
        simp only [Option.map_some, Option.some.injEq] at hA
        subst hA
        obtain ⟨g1, g2, g3, g4⟩ := h4 a rfl (by omega)
        have ha : a = ⟨a.block, a.off, none⟩ := by cases a; simp_all
        have hadd : a.add i = ⟨a.block, a.off + i, none⟩ := by rw [ha]; exact Addr.add_lit _ _ _
        rw [hadd]
        refine ⟨rfl, g2, g3, fun k x hx => ?_⟩
        rw [List.getElem?_take] at hx
        split at hx
        · rw [List.getElem?_drop] at hx
          have := g4 (i + k) x hx
          rw [Nat.add_assoc]; exact this
        · cases hx

/-- v reads as these bytes, through a block that is none of M. -/
def RdB (M : Nat → Prop) (w : World) (v : Value) (bs : Hw.Bytes) : Prop := RdC M w 1 v bs.length (u8s bs)
theorem RdB.upd {M F M' : Nat → Prop} {w w' : World} {v : Value} {bs : Hw.Bytes} (h : RdB M w v bs) (hu : Upd F w w') (hF : ∀ n, F n → M n ∨ w.heap.size ≤ n) (hM : ∀ n, M' n → M n ∨ w.heap.size ≤ n) : RdB M' w' v bs := RdC.upd h hu hF hM
theorem RdB.below {M : Nat → Prop} {w w' : World} {v : Value} {bs : Hw.Bytes} (h : RdB M w v bs) (hu : Below w.heap.size w w') : RdB M w' v bs := RdC.below h hu
theorem RdB.nil (M : Nat → Prop) (w : World) : RdB M w (.slice none 0 0) [] := RdC.nil _ _ _
theorem RdB.len {M : Nat → Prop} {w : World} {v : Value} {bs : Hw.Bytes} (h : RdB M w v bs) : ∃ A c, v = .slice A bs.length c ∧ bs.length ≤ c ∧ c ≤ maxLen := RdC.len h
theorem RdB.at {M : Nat → Prop} {w : World} {v : Value} {bs : Hw.Bytes} (h : RdB M w v bs) (hn : 0 < bs.length) :
    ∃ b o c, v = .slice (some ⟨b, o, none⟩) bs.length c ∧ bs.length ≤ c ∧ c ≤ maxLen ∧ ¬ M b ∧ b < w.heap.size ∧ ∀ (i : Nat) x, bs[i]? = some x → w.cell? ⟨b, o + i, none⟩ = some (.int .u8 (x.toNat : Int)) := by
  obtain ⟨b, o, c, h1, _, h2, h3, h4, h5, h6⟩ := RdC.at h hn
  exact ⟨b, o, c, h1, h2, h3, h4, h5, fun i x hx => h6 i _ (u8s_get hx)⟩
theorem RdB.of_own {M : Nat → Prop} {w : World} {base n : Nat} {e : TypeId} {v : Value} {bs : Hw.Bytes} (h : w.ownsRow base e 1 v n (u8s bs)) (hM : ∀ k, v.ownBlock = some k → ¬ M k) : RdB M w v bs := by
  have hl := h.1
  rw [u8s_length] at hl
  have : n = bs.length := by omega
  subst this
  exact RdC.of_own h hM
theorem RdB.sub {M : Nat → Prop} {w : World} {bs : Hw.Bytes} {n c : Nat} {A : Option Addr} (h : RdB M w (.slice A n c) bs) (i j : Nat) (hij : i ≤ j) (hj : j ≤ n) :
    RdB M w (.slice (if c = i then A else A.map (·.add i)) (j - i) (c - i)) ((bs.drop i).take (j - i)) := by
  have hn : n = bs.length := by obtain ⟨A', c', hv, _⟩ := h; cases hv; rfl
  subst hn
  have := RdC.sub h i j hij hj
  unfold RdB
  rw [u8s_take, u8s_drop, List.length_take, List.length_drop, Nat.min_eq_left (by omega)]
  exact this

theorem RdC.mono {M M' : Nat → Prop} {w : World} {size n : Nat} {v : Value} {cs : List Value} (h : RdC M w size v n cs) (hM : ∀ k, M' k → M k) : RdC M' w size v n cs := by
  obtain ⟨A, c, rfl, h0, h1, h2, h3, h4⟩ := h
  exact ⟨A, c, rfl, h0, h1, h2, h3, fun ad hA hc => by obtain ⟨g1, g2, g3, g4⟩ := h4 ad hA hc; exact ⟨g1, fun hm => g2 (hM _ hm), g3, g4⟩⟩
/-- The rest from the i-th byte on. -/
theorem RdB.from {M : Nat → Prop} {w : World} {bs : Hw.Bytes} {c : Nat} {A : Option Addr} (h : RdB M w (.slice A bs.length c) bs) (i : Nat) (hi : i ≤ bs.length) :
    RdB M w (.slice (if c = i then A else A.map (·.add i)) (bs.length - i) (c - i)) (bs.drop i) := by
  have := RdB.sub h i bs.length hi (Nat.le_refl _)
  rwa [List.take_of_length_le (by simp)] at this
/-- Values that read as rows of bytes. -/
def RdRows (M : Nat → Prop) (w : World) : List Value → List Hw.Bytes → Prop
  | [], [] => True
  | v :: vs, r :: rs => RdB M w v r ∧ RdRows M w vs rs
  | _, _ => False
theorem RdRows.upd {M F M' : Nat → Prop} {w w' : World} (hu : Upd F w w') (hF : ∀ n, F n → M n ∨ w.heap.size ≤ n) (hM : ∀ n, M' n → M n ∨ w.heap.size ≤ n) :
    ∀ {vs : List Value} {rs : List Hw.Bytes}, RdRows M w vs rs → RdRows M' w' vs rs
  | [], [], _ => trivial
  | _ :: _, _ :: _, h => ⟨h.1.upd hu hF hM, RdRows.upd hu hF hM h.2⟩
  | [], _ :: _, h => h.elim
  | _ :: _, [], h => h.elim
theorem RdRows.mono {M M' : Nat → Prop} {w : World} (hM : ∀ k, M' k → M k) : ∀ {vs : List Value} {rs : List Hw.Bytes}, RdRows M w vs rs → RdRows M' w vs rs
  | [], [], _ => trivial
  | _ :: _, _ :: _, h => ⟨RdC.mono h.1 hM, RdRows.mono hM h.2⟩
  | [], _ :: _, h => h.elim
  | _ :: _, [], h => h.elim
theorem RdRows.length {M : Nat → Prop} {w : World} : ∀ {vs : List Value} {rs : List Hw.Bytes}, RdRows M w vs rs → vs.length = rs.length
  | [], [], _ => rfl
  | _ :: _, _ :: _, h => congrArg (· + 1) (RdRows.length h.2)
  | [], _ :: _, h => h.elim
  | _ :: _, [], h => h.elim
theorem RdRows.append {M : Nat → Prop} {w : World} : ∀ {vs us : List Value} {rs qs : List Hw.Bytes}, RdRows M w vs rs → RdRows M w us qs → RdRows M w (vs ++ us) (rs ++ qs)
  | [], _, [], _, _, h' => h'
  | _ :: _, _, _ :: _, _, h, h' => ⟨h.1, RdRows.append h.2 h'⟩
  | [], _, _ :: _, _, h, _ => h.elim
  | _ :: _, _, [], _, h, _ => h.elim
theorem RdRows.get {M : Nat → Prop} {w : World} : ∀ {vs : List Value} {rs : List Hw.Bytes}, RdRows M w vs rs → ∀ {i : Nat} {r : Hw.Bytes}, rs[i]? = some r → ∃ v, vs[i]? = some v ∧ RdB M w v r
  | [], [], _, i, r, h => by simp at h
  | v :: vs, r0 :: rs, h, 0, r, e => by simp at e; subst e; exact ⟨v, rfl, h.1⟩
  | v :: vs, r0 :: rs, h, i + 1, r, e => by simp at e; simpa using RdRows.get h.2 e
  | [], _ :: _, h, _, _, _ => h.elim
  | _ :: _, [], h, _, _, _ => h.elim
theorem RdRows.one {M : Nat → Prop} {w : World} : ∀ {vs : List Value} {rs : List Hw.Bytes}, RdRows M w vs rs → ∀ u ∈ vs, u.oneCell' = true
  | [], [], _, u, hu => by cases hu
  | v :: vs, r0 :: rs, h, u, hu => by
    rcases List.mem_cons.1 hu with rfl | hu
    · obtain ⟨A, c, rfl, _⟩ := RdB.len h.1; rfl
    · exact RdRows.one h.2 u hu
  | [], _ :: _, h, _, _ => h.elim
  | _ :: _, [], h, _, _ => h.elim

/-! ### append -/
theorem run_append_none {P : Program} (w : World) (t ty e : TypeId) (i : TypeInfo) (ht : P.underlying t = some (.slice e)) (hi : P.info? e = some i) (A : Option Addr) (n c : Nat) (h : n ≤ c) :
    (Builtin.append_ #[t, t] ty #[.slice A n c, .slice none 0 0]).run P w = .ok (.slice A n c) w := by
  cases A <;> simp [Builtin.append_, run_underlying ht, sizeOf, typeInfo, hi, Builtin.lenOf, h, Builtin.firstCells, storeCells]
/-- 'append(s, x...)': s owned, x read, whatever it is: nil too. -/
theorem wpAppend {P : Program} (w : World) {ops : Array Oper} {rest : List Oper} {o : Oper} {a : Act} {Q : Exit → Act → World → Prop} (hgd : o.guard = none) (s x : Operand) (t : TypeId)
    (ho : o.op = .call { callee := .builtin .append, args := #[s, x], argTypes := #[t, t] })
    (base : Nat) (e : TypeId) (i : TypeInfo) (z : Value) (size bytes : Nat) (ht : P.underlying t = some (.slice e)) (hi : P.info? e = some i) (hz : i.zero = some z)
    (hsize : i.size = size) (hby : i.bytes = bytes) (hzs : z.cells.size = size) (hsz : 0 < size)
    (v : Value) (n : Nat) (xs : List Value) (hs : a.eval s = v) (hown : w.ownsRow base e size v n xs)
    (M : Nat → Prop) (vx : Value) (m : Nat) (news : List Value) (hx : a.eval x = vx) (hr : RdC M w size vx m news) (h1 : ∀ u ∈ news, u.oneCell' = true)
    (h63 : n + m ≤ maxLen) (hbytes : (n + m) * bytes ≤ 140737488355328) (hbase : base ≤ w.heap.size)
    (h : ∀ v' w', w'.ownsRow base e size v' (n + m) (xs ++ news) → w.grownBy w' v.ownBlock → (v'.ownBlock = v.ownBlock ∨ v'.ownBlock = some w.heap.size) → wpList P ops Q rest (a.put o.dst v') w') :
    wpList P ops Q (o :: rest) a w := by
  obtain ⟨A, c, rfl, g0, g1, g2, g3, g4⟩ := hr
  cases A with
  | none =>
    have hc := g3 rfl
    have hm : m = 0 := by omega
    subst hm; subst hc
    have hn : news = [] := List.eq_nil_of_length_eq_zero (by simpa using g0)
    subst hn
    refine wpList_plain hgd fun K hK => ?_
    have hv : ∃ A c, v = .slice A n c ∧ n ≤ c := by
      rcases hown.2 with ⟨rfl, rfl⟩ | ⟨g, cap, cur, rfl, _, _, h, _⟩
      · exact ⟨_, _, rfl, Nat.le_refl _⟩
      · exact ⟨_, _, rfl, h⟩
    obtain ⟨A, c, rfl, hnc⟩ := hv
    have hr := run_append_none (P := P) w t o.type e i ht hi A n c hnc
    unfold Oper.wp execOp
    simp only [ho, resolve, invoke, builtin, Sem.run_bind, Sem.run_pure, Result.andThen_ok, List.map_toArray, List.map_cons, List.map_nil, hs, hx, hr]
    exact hK _ _ (h _ w (by simpa using hown) ⟨rfl, rfl, rfl, Nat.le_refl _, fun _ _ _ => rfl⟩ (.inl rfl))
  | some ad =>
    refine wpList_append_own_at (P := P) w hgd s x t ho base e i z size bytes ht hi hz hsize hby hzs hsz v n xs hs hown ad m c news hx g0 (fun j u hu => ?_) h1 h63 hbytes hbase (fun v' w' q1 q2 _ q4 => h v' w' q1 q2 q4)
    have hm : 0 < m := by
      rcases Nat.eq_zero_or_pos m with h0 | h1
      · subst h0
        have hn : news = [] := List.eq_nil_of_length_eq_zero (by simpa using g0)
        subst hn; simp at hu
      · exact h1
    obtain ⟨k1, k2, k3, k4⟩ := g4 ad rfl (by omega)
    have had : ad = ⟨ad.block, ad.off, none⟩ := by cases ad; simp_all
    rw [had, Addr.add_lit]; exact k4 j u hu
/-- A row that was made just now. -/
theorem RdC.made {M : Nat → Prop} (w : World) (size n : Nat) (cs : Array Value) (e : TypeId) (hl : cs.size = n * size) (hn : n ≤ maxLen) (hM : ¬ M w.heap.size) :
    RdC M (w.alloc (.cells cs e)) size (.slice (some ⟨w.heap.size, 0, none⟩) n n) n cs.toList := by
  refine ⟨_, n, rfl, by simpa using hl, Nat.le_refl _, hn, (fun h => by cases h), fun ad hA _ => ?_⟩
  cases hA
  refine ⟨rfl, hM, by simp, fun i x hx => ?_⟩
  rw [Nat.zero_add]
  have := cell_of_row (w.alloc (.cells cs e)) w.heap.size i cs e (0, 0) (heap_alloc_new w _)
  rw [this]; simpa using hx
theorem own_made (w : World) (base size n : Nat) (cs : Array Value) (e : TypeId) (hl : cs.size = n * size) (hn : n ≤ maxLen) (hb : base ≤ w.heap.size) :
    (w.alloc (.cells cs e)).ownsRow base e size (.slice (some ⟨w.heap.size, 0, none⟩) n n) n cs.toList :=
  ⟨by simpa using hl, .inr ⟨w.heap.size, n, cs, rfl, hb, heap_alloc_new w _, Nat.le_refl _, hn, hl, by rw [List.take_of_length_le (by simp [hl])]⟩⟩
theorem Upd.of_grown {w w' : World} {row : Option Nat} (h : w.grownBy w' row) : Upd (fun n => row = some n) w w' := ⟨h.os, h.tape, h.output, h.size, fun k hk hn => h.block k hk (fun e => hn e.symm)⟩
/-- An owned row stays where another block, or none of those that were there, has turned. -/
theorem own_upd {F : Nat → Prop} {w w' : World} {base size n : Nat} {e : TypeId} {v : Value} {xs : List Value} (h : w.ownsRow base e size v n xs) (hu : Upd F w w') (hv : ∀ k, v.ownBlock = some k → ¬ F k) : w'.ownsRow base e size v n xs := by
  refine ⟨h.1, ?_⟩
  rcases h.2 with hn | ⟨g, cap, cur, rfl, hb, hgg, rest⟩
  · exact .inl hn
  · refine .inr ⟨g, cap, cur, rfl, hb, ?_, rest⟩
    rw [hu.block g (Array.getElem?_eq_some_iff.1 hgg).1 (hv g rfl)]
    exact hgg
end Go.Proofs.YtihncdlbbhmglaaDoor

/- Walks: crc. -/
namespace Go.Proofs.YtihncdlbbhmglaaDoor
open Go.RowKit

theorem crc_next {n z y : Nat} (hn : n < 8) (hi : Hw.crcIter (8 - n) z = Hw.crcIter 8 y) : Hw.crcIter (8 - (n + 1)) (Hw.crcRound z) = Hw.crcIter 8 y := by
  rw [show 8 - n = (8 - (n + 1)) + 1 by omega] at hi; exact hi
theorem crc_odd {z : Nat} (hz : z < 4294967296) (h : ((z : Int) % 2 == 1) = true) : bits .xor .u32 ((z : Int) / 2) 3988292384 = ((Hw.crcRound z : Nat) : Int) := by
  have h' : z % 2 = 1 := by simp at h; omega
  rw [Hw.crcRound, if_pos h']
  exact u32_xor_nat (z / 2) 3988292384 (by omega) (by omega)
theorem crc_even {z : Nat} (h : ((z : Int) % 2 == 1) = false) : (z : Int) / 2 = ((Hw.crcRound z : Nat) : Int) := by
  have h' : ¬ z % 2 = 1 := by simp at h; omega
  rw [Hw.crcRound, if_neg h']; rfl
set_option maxHeartbeats 400000 in
theorem crc_step (r c : Nat) (w : World) (hr : r < 4294967296) (hc : c < 256) :
    Calls Tryd.prog 51 #[.int .u32 r, .int .u8 c] w fun e w' => e = .returned (.int .u32 (Hw.crcStep r c : Nat)) ∧ w = w' := by
  have hx : bits .xor .u32 (r : Int) (c : Int) = ((r ^^^ c : Nat) : Int) := u32_xor_nat r c hr (by omega)
  have hxl : r ^^^ c < 4294967296 := Nat.xor_lt_two_pow (n := 32) (by omega) (by omega)
  unfold Hw.crcStep
  generalize hy : r ^^^ c = y at *
  go_enter Tryd.func51, Tryd.ntmps51
  go_wp2
  go_loop [0, 10] (fun r k => ∃ (n z : Nat) , n ≤ 8 ∧ k = .int .i64 n ∧ r = .int .u32 z ∧ z < 4294967296 ∧ Hw.crcIter (8 - n) z = Hw.crcIter 8 y) (fun _ k => (8 - intOf k).toNat)
  case atStart => exact ⟨0, y, by omega, rfl, rfl, hxl, rfl⟩
  case round =>
    obtain ⟨n, z, hn, rfl, rfl, hz, hi⟩ := hrel
    have HI := Lib.hid hi; clear hi hx
    have ha : bits .and .u32 (z : Int) 1 = ((z % 2 : Nat) : Int) := by
      have := u32_and_nat z 1 hz (by omega); rw [Nat.and_one_is_mod] at this; exact this
    go_wp2
    · go_round
      case rel => exact ⟨n + 1, Hw.crcRound z, by omega, by go_num, by rw [crc_odd hz ‹_›], Hw.crcRound_lt hz, crc_next (by omega) HI.out⟩
      case measure => simp [intOf]; omega
    · go_round
      case rel => exact ⟨n + 1, Hw.crcRound z, by omega, by go_num, by rw [crc_even ‹_›], Hw.crcRound_lt hz, crc_next (by omega) HI.out⟩
      case measure => simp [intOf]; omega
    · go_ret
      have hn : n = 8 := by omega
      subst hn
      exact ⟨by rw [← HI.out]; rfl, rfl⟩

theorem crc_snoc (bs : Hw.Bytes) (k : Nat) (x : UInt8) (h : bs[k]? = some x) (r : Nat) : Hw.crcFrom r (bs.take (k + 1)) = Hw.crcStep (Hw.crcFrom r (bs.take k)) x.toNat := by
  rw [List.take_add_one, h]; simp [Hw.crcFrom]
theorem not32 (z : Nat) (hz : z < 4294967296) : bits .xor .u32 IntKind.u32.max (z : Int) = ((4294967295 - z : Nat) : Int) := by
  have h1 := u32_xor_nat 4294967295 z (by omega) hz
  have h2 : 4294967295 ^^^ z = 4294967295 - z := by
    have := congrArg BitVec.toNat (BitVec.allOnes_xor (x := BitVec.ofNat 32 z))
    rw [BitVec.toNat_xor, BitVec.toNat_not, BitVec.toNat_ofNat, Nat.mod_eq_of_lt (by omega)] at this
    simpa using this
  rw [h2] at h1; exact h1
set_option maxHeartbeats 400000 in
theorem crc_Sum (M : Nat → Prop) (v : Value) (bs : Hw.Bytes) (w : World) (h : RdB M w v bs) :
    Calls Tryd.prog 38 #[v] w fun e w' => e = .returned (.int .u32 (Hw.crcSum bs : Nat)) ∧ w = w' := by
  obtain ⟨A, c, rfl, h1, h2⟩ := h.len
  unfold maxLen at h2
  go_enter Tryd.func38, Tryd.ntmps38
  go_wp2
  go_loop [3, 8] (fun r k => ∃ (n : Nat) , n ≤ bs.length ∧ k = .int .i64 n ∧ r = .int .u32 (Hw.crcFrom 4294967295 (bs.take n) : Nat)) (fun _ k => (bs.length - intOf k).toNat)
  case atStart => exact ⟨0, by omega, rfl, rfl⟩
  case round =>
    obtain ⟨n, hn, rfl, rfl⟩ := hrel
    have hz : Hw.crcFrom 4294967295 (bs.take n) < 4294967296 := Hw.crcFrom_lt _ (by omega)
    by_cases hlt : n < bs.length
    · obtain ⟨x, hx⟩ : ∃ x, bs[n]? = some x := ⟨bs[n], List.getElem?_eq_getElem hlt⟩
      have hs := Lib.hid (crc_snoc bs n x hx 4294967295)
      obtain ⟨b, o, c', hv, _, _, _, _, g4⟩ := h.at (by omega)
      cases hv
      have hc := g4 n x hx
      clear g4 hx h
      have hxt := x.toNat_lt
      generalize Hw.crcFrom 4294967295 (bs.take n) = z at *
      go_wp2_with (go_at_call 51; refine (crc_step _ _ _ hz hxt).mono ?_; rintro e w' ⟨rfl, rfl⟩)
      go_round
      case rel => exact ⟨n + 1, by omega, by go_num, by rw [hs.out]⟩
      case measure => simp [intOf]; omega
    · have hn : n = bs.length := by omega
      subst hn
      clear h
      rw [List.take_length] at hz
      have hw := not32 _ hz
      go_wp2
      go_ret
      exact ⟨rfl, rfl⟩
end Go.Proofs.YtihncdlbbhmglaaDoor

/- Walks: varint.Put, All. -/
namespace Go.Proofs.YtihncdlbbhmglaaDoor
open Go.RowKit
theorem u8row : (Tryd.prog.info? 5).map (fun i => (i.zero, i.size, i.bytes)) = some (some (.int .u8 0), 1, 1) := by kernel_rfl
theorem u8slice : Tryd.prog.underlying 22 = some (.slice 5) := by kernel_rfl

/-- It returns an owned slice of these cells; of what was there nothing has turned but the row. -/
def OwnRet (base : Nat) (e size n : Nat) (xs : List Value) (v : Value) (w : World) (en : Ending) (w' : World) : Prop :=
  ∃ v', en = .returned v' ∧ w'.ownsRow base e size v' n xs ∧ w.grownBy w' v.ownBlock ∧ (v'.ownBlock = v.ownBlock ∨ ∃ k, v'.ownBlock = some k ∧ w.heap.size ≤ k)
theorem zig_neg {x : Int} (h0 : -9223372036854775808 ≤ x) (h : x < 0) : bits .xor .u64 IntKind.u64.max (IntKind.u64.wrap (IntKind.u64.wrap x * 2)) = ((Hw.zig x : Nat) : Int) := by
  have e : IntKind.u64.wrap (IntKind.u64.wrap x * 2) = (((2 * x) % 18446744073709551616).toNat : Int) := by simp only [IntKind.wrap_u64]; omega
  rw [e]
  have hz : (((2 * x) % 18446744073709551616).toNat) < 18446744073709551616 := by omega
  have h1 := u64_xor_nat 18446744073709551615 _ (by omega) hz
  have h2 : ∀ z : Nat, z < 18446744073709551616 → 18446744073709551615 ^^^ z = 18446744073709551615 - z := by
    intro z hz
    have := congrArg BitVec.toNat (BitVec.allOnes_xor (x := BitVec.ofNat 64 z))
    rw [BitVec.toNat_xor, BitVec.toNat_not, BitVec.toNat_ofNat, Nat.mod_eq_of_lt (by omega)] at this
    simpa using this
  rw [h2 _ hz] at h1
  refine Eq.trans h1 ?_
  unfold Hw.zig; rw [if_pos h]; omega
theorem zig_pos {x : Int} (h1 : x ≤ 9223372036854775807) (h : ¬ x < 0) : IntKind.u64.wrap (IntKind.u64.wrap x * 2) = ((Hw.zig x : Nat) : Int) := by
  simp only [IntKind.wrap_u64]
  unfold Hw.zig; rw [if_neg h]; omega
theorem put_low (u : Nat) : bits .or .u8 ((u : Int) % 256) 128 = ((u % 128 + 128 : Nat) : Int) := by
  have e : (u : Int) % 256 = ((u % 256 : Nat) : Int) := by omega
  rw [e]
  have := u8_or_nat (u % 256) 128 (by omega) (by omega)
  refine Eq.trans this ?_
  congr 1
  have : ∀ z : Fin 256, z.val ||| 128 = z.val % 128 + 128 := by decide +kernel
  have := this ⟨u % 256, by omega⟩
  simp only at this; rw [this]; omega
theorem put_last {u : Nat} (hu : u < 128) : (u : Int) % 256 = ((UInt8.ofNat u).toNat : Int) := by
  rw [Hw.ofNat_toNat (by omega)]; omega
def PutRel (base : Nat) (v : Value) (n : Nat) (xs : List Value) (x : Int) (w : World) (t0 t5 : Value) (wr : World) : Prop :=
  ∃ (u k : Nat) (ys : Hw.Bytes), t5 = .int .u64 u ∧ u < 18446744073709551616 ∧ wr.ownsRow base 5 1 t0 (n + k) (xs ++ u8s ys) ∧ ys ++ Hw.putU u = Hw.varPut x ∧ k = ys.length ∧
    w.grownBy wr v.ownBlock ∧ (t0.ownBlock = v.ownBlock ∨ ∃ b, t0.ownBlock = some b ∧ w.heap.size ≤ b)
theorem at_grown {w wr w1 : World} {v t0 v1 : Value} (h1 : w.grownBy wr v.ownBlock) (h2 : t0.ownBlock = v.ownBlock ∨ ∃ b, t0.ownBlock = some b ∧ w.heap.size ≤ b)
    (g1 : wr.grownBy w1 t0.ownBlock) (g2 : v1.ownBlock = t0.ownBlock ∨ ∃ b, v1.ownBlock = some b ∧ wr.heap.size ≤ b) :
    w.grownBy w1 v.ownBlock ∧ (v1.ownBlock = v.ownBlock ∨ ∃ b, v1.ownBlock = some b ∧ w.heap.size ≤ b) := by
  have hs := h1.size
  refine ⟨⟨g1.os.trans h1.os, g1.tape.trans h1.tape, g1.output.trans h1.output, Nat.le_trans hs g1.size, fun k hk hn => ?_⟩, ?_⟩
  · refine (g1.block k (by omega) (fun e => ?_)).trans (h1.block k hk hn)
    rcases h2 with h2 | ⟨b, h2, hb⟩
    · rw [h2] at e; exact hn e
    · rw [h2] at e; cases e; omega
  · rcases g2 with g2 | ⟨b, g2, hb⟩
    · rw [g2]; exact h2
    · exact .inr ⟨b, g2, by omega⟩
theorem varPut_len0 (x : Int) (h0 : -9223372036854775808 ≤ x) (h1 : x ≤ 9223372036854775807) (ys : Hw.Bytes) (u : Nat) (h : ys ++ Hw.putU u = Hw.varPut x) : ys.length ≤ 10 := by
  have := Hw.varPut_len h0 h1
  rw [← h, List.length_append] at this; omega

theorem put_step {v t0 v1 : Value} {k : Nat} {x : Int} {w wr w1 : World} {ys tl : Hw.Bytes} {u : Nat} {c : UInt8}
    (hg : w.grownBy wr v.ownBlock) (ho : t0.ownBlock = v.ownBlock ∨ ∃ b, t0.ownBlock = some b ∧ w.heap.size ≤ b) (hys : ys ++ Hw.putU u = Hw.varPut x) (hk : k = ys.length) (hf : Hw.putU u = c :: tl)
    (o : Obj) (g1 : (wr.alloc o).grownBy w1 t0.ownBlock) (g2 : v1.ownBlock = t0.ownBlock ∨ v1.ownBlock = some (wr.heap.size + 1)) :
    (ys ++ [c]) ++ tl = Hw.varPut x ∧ k + 1 = (ys ++ [c]).length ∧ w.grownBy w1 v.ownBlock ∧ (v1.ownBlock = v.ownBlock ∨ ∃ b, v1.ownBlock = some b ∧ w.heap.size ≤ b) := by
  refine ⟨by rw [← hys, hf]; simp, by simp [hk], ?_⟩
  have ha : wr.grownBy (wr.alloc o) t0.ownBlock := World.grownBy_alloc _ _ _
  refine at_grown hg ho (ha.trans g1) ?_
  rcases g2 with g2 | g2
  · exact .inl g2
  · exact .inr ⟨_, g2, by simp⟩
theorem put_next {base : Nat} {v t0 v1 : Value} {n k : Nat} {xs : List Value} {x : Int} {w wr w1 : World} {ys : Hw.Bytes} {u : Nat}
    (hg : w.grownBy wr v.ownBlock) (ho : t0.ownBlock = v.ownBlock ∨ ∃ b, t0.ownBlock = some b ∧ w.heap.size ≤ b) (hys : ys ++ Hw.putU u = Hw.varPut x) (hk : k = ys.length)
    (hf : Hw.putU u = UInt8.ofNat (u % 128 + 128) :: Hw.putU (u / 128)) {o : Obj} (hown : w1.ownsRow base 5 1 v1 (n + k + 1) (xs ++ (u8s ys ++ [.int .u8 ((u : Int) % 128 + 128)])))
    (g1 : (wr.alloc o).grownBy w1 t0.ownBlock) (g2 : v1.ownBlock = t0.ownBlock ∨ v1.ownBlock = some (wr.heap.size + 1)) (hnx : u / 128 < 18446744073709551616) :
    PutRel base v n xs x w v1 (.int .u64 ((u : Int) / 128)) w1 := by
  obtain ⟨p1, p2, p3, p4⟩ := put_step hg ho hys hk hf o g1 g2
  refine ⟨u / 128, k + 1, ys ++ [UInt8.ofNat (u % 128 + 128)], rfl, hnx, ?_, p1, p2, p3, p4⟩
  rw [u8s_append, ← Nat.add_assoc]
  have : u8s [UInt8.ofNat (u % 128 + 128)] = [.int .u8 ((u : Int) % 128 + 128)] := by simp only [u8s, List.map_cons, List.map_nil]; rw [Hw.ofNat_toNat (by omega)]; rfl
  rw [this]; exact hown
theorem put_end {base : Nat} {v t0 v1 : Value} {n k : Nat} {xs : List Value} {x : Int} {w wr w1 : World} {ys : Hw.Bytes} {u : Nat}
    (hg : w.grownBy wr v.ownBlock) (ho : t0.ownBlock = v.ownBlock ∨ ∃ b, t0.ownBlock = some b ∧ w.heap.size ≤ b) (hys : ys ++ Hw.putU u = Hw.varPut x) (hk : k = ys.length)
    (hf : Hw.putU u = [UInt8.ofNat u]) {o : Obj} (hu : u < 128) (hown : w1.ownsRow base 5 1 v1 (n + k + 1) (xs ++ (u8s ys ++ [.int .u8 (u : Int)])))
    (g1 : (wr.alloc o).grownBy w1 t0.ownBlock) (g2 : v1.ownBlock = t0.ownBlock ∨ v1.ownBlock = some (wr.heap.size + 1)) :
    w1.ownsRow base 5 1 v1 (n + (Hw.varPut x).length) (xs ++ u8s (Hw.varPut x)) ∧ w.grownBy w1 v.ownBlock ∧ (v1.ownBlock = v.ownBlock ∨ ∃ b, v1.ownBlock = some b ∧ w.heap.size ≤ b) := by
  obtain ⟨p1, p2, p3, p4⟩ := put_step hg ho hys hk hf o g1 g2
  refine ⟨?_, p3, p4⟩
  rw [← p1, List.append_nil, ← p2, u8s_append, ← Nat.add_assoc]
  have : u8s [UInt8.ofNat u] = [.int .u8 (u : Int)] := by simp only [u8s, List.map_cons, List.map_nil]; rw [Hw.ofNat_toNat (by omega)]
  rw [this]; exact hown

set_option maxRecDepth 100000 in
set_option maxHeartbeats 400000 in
theorem varint_Put (base : Nat) (v : Value) (n : Nat) (xs : List Value) (x : Int) (w : World) (hown : w.ownsRow base 5 1 v n xs) (hb : base ≤ w.heap.size) (hn : n ≤ 1000000000000)
    (hx0 : -9223372036854775808 ≤ x) (hx1 : x ≤ 9223372036854775807) :
    Calls Tryd.prog 39 #[v, .int .i64 x] w (OwnRet base 5 1 (n + (Hw.varPut x).length) (xs ++ u8s (Hw.varPut x)) v w) := by
  obtain ⟨i0, hi, hz0, hz1, hz2⟩ := info_parts u8row
  have hzig := Hw.zig_lt hx0 hx1
  have hlen := varPut_len0 x hx0 hx1
  have HL := Lib.hid hlen; clear hlen
  have e1 : x < 0 → bits .xor .u64 IntKind.u64.max (IntKind.u64.wrap (IntKind.u64.wrap x * 2)) = ((Hw.zig x : Nat) : Int) := zig_neg hx0
  have e2 : ¬ x < 0 → IntKind.u64.wrap (IntKind.u64.wrap x * 2) = ((Hw.zig x : Nat) : Int) := zig_pos hx1
  have hstart : PutRel base v n xs x w v (.int .u64 (Hw.zig x : Nat)) w := ⟨Hw.zig x, 0, [], rfl, hzig, by simpa [u8s] using hown, rfl, rfl, ⟨rfl, rfl, rfl, Nat.le_refl _, fun _ _ _ => rfl⟩, .inl rfl⟩
  clear hx0 hx1 hzig hown
  by_cases hneg : x < 0
  all_goals
    first | (have e := e1 hneg; clear e1 e2) | (have e := e2 hneg; clear e1 e2)
    go_enter Tryd.func39, Tryd.ntmps39
    go_wp2
    go_loopw [0, 5] (fun t0 t5 wr => PutRel base v n xs x w t0 t5 wr) (fun _ u _ => (intOf u).toNat)
    case atStart => exact hstart
    case round =>
      clear e hstart
      obtain ⟨u, k, ys, rfl, hu, hown, hys, hk, hg, ho⟩ := hrel
      have hk10 := HL.out ys u hys
      have hsz : w.heap.size ≤ _ := hg.size
      have HYS := Lib.hid hys; clear hys
      have HG := Lib.hid hg; clear hg
      have HO := Lib.hid ho; clear ho
      have hk' : k ≤ 10 := by omega
      have HK := Lib.hid hk; clear hk
      by_cases hge : 128 ≤ u
      · have hlow := put_low u
        have hnx : u / 128 < 18446744073709551616 := by omega
        have hfin := Hw.putU_ge hge
        have HF := Lib.hid hfin; clear hfin
        clear hu
        go_wp2_with (at_builtin; refine wpAppend _ rfl _ _ 22 rfl base 5 i0 (.int .u8 0) 1 1 u8slice hi hz0 hz1 hz2 rfl (by decide) _ _ _ rfl (hown.alloc _) (fun _ => False) _ 1 _ rfl (RdC.made _ 1 1 _ _ rfl (by decide) (fun h => h)) ?_ ?_ ?_ ?_ ?_)
        · simp [Value.oneCell']
        · unfold maxLen; omega
        · omega
        · simp; omega
        · intro v1 w1 hown1 hg1 hat1
          have hrel := put_next HG.out HO.out HYS.out HK.out HF.out hown1 hg1 hat1 hnx
          have HR := Lib.hid hrel; clear hrel hown1 hg1 hat1 hown
          go_wp2
          go_roundw
          case rel => exact HR.out
          case measure => simp [intOf]; omega
      · have hlast := put_last (u := u) (by omega)
        have hfin := Hw.putU_lt (u := u) (by omega)
        have HF := Lib.hid hfin; clear hfin
        clear hu
        go_wp2_with (at_builtin; refine wpAppend _ rfl _ _ 22 rfl base 5 i0 (.int .u8 0) 1 1 u8slice hi hz0 hz1 hz2 rfl (by decide) _ _ _ rfl (hown.alloc _) (fun _ => False) _ 1 _ rfl (RdC.made _ 1 1 _ _ rfl (by decide) (fun h => h)) ?_ ?_ ?_ ?_ ?_)
        · simp [Value.oneCell']
        · unfold maxLen; omega
        · omega
        · simp; omega
        · intro v1 w1 hown1 hg1 hat1
          have hrel := put_end HG.out HO.out HYS.out HK.out HF.out (by omega) hown1 hg1 hat1
          have HR := Lib.hid hrel; clear hrel hown1 hg1 hat1 hown
          go_wp2
          go_ret
          exact ⟨_, rfl, HR.out⟩
end Go.Proofs.YtihncdlbbhmglaaDoor

/- Walks: varint.All, frame.Make. -/
namespace Go.Proofs.YtihncdlbbhmglaaDoor
open Go.RowKit
def i64s (ns : List Int) : List Value := ns.map fun n => .int .i64 n
theorem i64s_length (ns : List Int) : (i64s ns).length = ns.length := by simp [i64s]
def In64 (ns : List Int) : Prop := ∀ n ∈ ns, -9223372036854775808 ≤ n ∧ n ≤ 9223372036854775807
/-- It returns a new slice of these cells; of what was there nothing has turned. -/
def FreshRet (e size n : Nat) (xs : List Value) (w : World) (en : Ending) (w' : World) : Prop :=
  ∃ v', en = .returned v' ∧ w'.ownsRow w.heap.size e size v' n xs ∧ Below w.heap.size w w'
theorem varAll_len {ns : List Int} (h : In64 ns) : (Hw.varAll ns).length ≤ 10 * ns.length := by
  induction ns with
  | nil => simp [Hw.varAll]
  | cons n ns ih =>
    have h1 := Hw.varPut_len (h n (by simp)).1 (h n (by simp)).2
    have h2 := ih (fun m hm => h m (by simp [hm]))
    simp only [Hw.varAll, List.flatMap_cons, List.length_append, List.length_cons] at h2 ⊢; omega
theorem varAll_snoc (ns : List Int) (k : Nat) (x : Int) (h : ns[k]? = some x) : Hw.varAll (ns.take (k + 1)) = Hw.varAll (ns.take k) ++ Hw.varPut x := by
  rw [List.take_add_one, h]; simp [Hw.varAll]
def AllRel (ns : List Int) (w : World) (k : Nat) (t3 : Value) (wr : World) : Prop :=
  wr.ownsRow w.heap.size 5 1 t3 (Hw.varAll (ns.take k)).length (u8s (Hw.varAll (ns.take k))) ∧ Below w.heap.size w wr
theorem AllRel.next {ns : List Int} {w wr w1 : World} {k : Nat} {t3 v1 : Value} {x : Int} (h : AllRel ns w k t3 wr) (hx : ns[k]? = some x)
    (h1 : w1.ownsRow w.heap.size 5 1 v1 ((Hw.varAll (ns.take k)).length + (Hw.varPut x).length) (u8s (Hw.varAll (ns.take k)) ++ u8s (Hw.varPut x))) (hg : wr.grownBy w1 t3.ownBlock) : AllRel ns w (k + 1) v1 w1 := by
  obtain ⟨h2, h3⟩ := h
  refine ⟨?_, h3.grown hg (h3.size) (fun k hk => (h2.lt k hk).1)⟩
  rw [varAll_snoc ns k x hx, List.length_append, u8s_append]; exact h1
set_option maxRecDepth 100000 in
set_option maxHeartbeats 400000 in
theorem varint_All (M : Nat → Prop) (v : Value) (ns : List Int) (w : World) (h : RdC M w 1 v ns.length (i64s ns)) (hin : In64 ns) (hn : ns.length ≤ 100000000) :
    Calls Tryd.prog 16 #[v] w (FreshRet 5 1 (Hw.varAll ns).length (u8s (Hw.varAll ns)) w) := by
  obtain ⟨A, c, rfl, h1, h2⟩ := h.len
  clear h2
  go_enter Tryd.func16, Tryd.ntmps16
  go_wp2
  go_loopw [3, 8] (fun t3 t8 wr => ∃ k : Nat, k ≤ ns.length ∧ t8 = .int .i64 k ∧ AllRel ns w k t3 wr) (fun _ k _ => (ns.length - intOf k).toNat)
  case atStart => exact ⟨0, by omega, rfl, by simpa [AllRel, Hw.varAll, u8s] using ⟨World.ownsRow_nil w w.heap.size 5 1, Below.refl _ _⟩⟩
  case round =>
    obtain ⟨k, hk, rfl, hr⟩ := hrel
    by_cases hlt : k < ns.length
    · obtain ⟨x, hx⟩ : ∃ x, ns[k]? = some x := ⟨ns[k], List.getElem?_eq_getElem hlt⟩
      have hxm : x ∈ ns := List.mem_of_getElem? hx
      have hb := hin x hxm
      have HB := Lib.hid hb; clear hb
      obtain ⟨b, o, c', hv, _, _, _, _, hbl, g4⟩ := h.at (by omega)
      cases hv
      have hc : ‹World›.cell? ⟨b, o + k, none⟩ = some (.int .i64 x) := (hr.2.cell (p := ⟨b, o + k, none⟩) hbl).trans (g4 k (.int .i64 x) (by simp [i64s, hx]))
      have hl := varAll_len (ns := ns.take k) (fun m hm => hin m (List.mem_of_mem_take hm))
      rw [List.length_take] at hl
      have hl' : (Hw.varAll (ns.take k)).length ≤ 1000000000000 := by omega
      have HX := Lib.hid hx
      clear g4 hx h hin hxm hl
      have HR := Lib.hid hr; clear hr
      have hsz := HR.out.2.size
      go_wp2_with (go_at_call 39; refine (varint_Put w.heap.size _ _ _ _ _ HR.out.1 HR.out.2.size hl' HB.out.1 HB.out.2).mono ?_; rintro e w1 ⟨v1, rfl, o1, g1, _⟩; have HN := Lib.hid (HR.out.next HX.out o1 g1); clear o1 g1)
      go_roundw
      case rel => exact ⟨k + 1, by omega, by go_num, HN.out⟩
      case measure => simp [intOf]; omega
    · have hk : k = ns.length := by omega
      subst hk
      have HR := Lib.hid hr; clear hr h hin
      go_wp2
      go_ret
      have := HR.out
      rw [AllRel, List.take_length] at this
      exact ⟨_, rfl, this⟩
end Go.Proofs.YtihncdlbbhmglaaDoor

/- Walks: frame.Make. -/
namespace Go.Proofs.YtihncdlbbhmglaaDoor
open Go.RowKit
/-- It returns a new slice of these cells, and true. -/
def FreshTrue (e size n : Nat) (xs : List Value) (w : World) (en : Ending) (w' : World) : Prop :=
  ∃ v', en = .returned (.tuple #[v', .bool true]) ∧ w'.ownsRow w.heap.size e size v' n xs ∧ Below w.heap.size w w'
theorem frame_cells (bs : Hw.Bytes) (h : bs.length ≤ 16384) :
    Value.int .u8 ((bs.length : Int) / 256) :: .int .u8 ((bs.length : Int) % 256) :: .int .u8 ((Hw.crcSum bs : Int) / 16777216) :: .int .u8 ((Hw.crcSum bs : Int) / 65536 % 256) :: .int .u8 ((Hw.crcSum bs : Int) / 256 % 256) ::
      .int .u8 ((Hw.crcSum bs : Int) % 256) :: u8s bs = u8s (Hw.frameOf bs) := by
  have := Hw.crcSum_lt bs
  simp only [Hw.frameOf, Hw.be16, Hw.be32, u8s, List.map_append, List.map_cons, List.map_nil, List.cons_append, List.nil_append, List.cons.injEq, Value.int.injEq, true_and, and_true]
  simp only [UInt8.toNat_ofNat']
  refine ⟨?_, ?_, ?_, ?_, ?_, ?_⟩ <;> omega
set_option maxRecDepth 100000 in
set_option maxHeartbeats 400000 in
theorem frame_Make (M : Nat → Prop) (v : Value) (bs : Hw.Bytes) (w : World) (h : RdB M w v bs) (hs : bs.length ≤ 16384) :
    Calls Tryd.prog 15 #[v] w (FreshTrue 5 1 (6 + bs.length) (u8s (Hw.frameOf bs)) w) := by
  obtain ⟨i0, hi, hz0, hz1, hz2⟩ := info_parts u8row
  obtain ⟨A, c, rfl, h1, h2⟩ := h.len
  have hcl := Hw.crcSum_lt bs
  have H := Lib.hid h
  clear h2 h
  go_enter Tryd.func15, Tryd.ntmps15
  go_wp2_with (first
   | (go_at_call 38; refine (crc_Sum M _ bs _ H.out).mono ?_; rintro e w' ⟨rfl, rfl⟩)
   | (at_builtin; refine wpAppend _ rfl _ _ 22 rfl w.heap.size 5 i0 (.int .u8 0) 1 1 u8slice hi hz0 hz1 hz2 rfl (by decide) _ 6 _ rfl (own_made _ _ 1 6 _ _ rfl (by decide) (Nat.le_refl _)) M _ bs.length (u8s bs) rfl (RdC.below H.out (below_new _ _)) ?_ ?_ ?_ ?_ ?_))
  · exact u8s_one bs
  · unfold maxLen; omega
  · omega
  · simp
  · intro v1 w1 o1 g1 a1
    have HO := Lib.hid o1
    have HB := Lib.hid (Below.trans (below_new w _) ((Below.refl _ _).grown g1 (B := w.heap.size) (by simp) (by intro k hk; cases hk; exact Nat.le_refl _)))
    clear o1 g1 a1
    go_wp2
    go_ret2
    exact ⟨_, rfl, by rw [← frame_cells bs hs]; exact HO.out, HB.out⟩
theorem frame_Make_long (M : Nat → Prop) (v : Value) (bs : Hw.Bytes) (w : World) (h : RdB M w v bs) (hs : 16384 < bs.length) :
    Calls Tryd.prog 15 #[v] w fun e w' => e = .returned (.tuple #[.slice none 0 0, .bool false]) ∧ w = w' := by
  obtain ⟨A, c, rfl, h1, h2⟩ := h.len
  clear h2 h
  go_enter Tryd.func15, Tryd.ntmps15
  go_wp2
  go_ret2
  exact ⟨rfl, rfl⟩
end Go.Proofs.YtihncdlbbhmglaaDoor

/- Walks: frame.One. -/
namespace Go.Proofs.YtihncdlbbhmglaaDoor
open Go.RowKit
def OneRet (r : Option (Hw.Bytes × Nat)) (w : World) (e : Ending) (w' : World) : Prop :=
  Below w.heap.size w w' ∧ match r with
    | none => e = .returned (.tuple #[.slice none 0 0, .int .i64 0, .bool false])
    | some (x, n) => ∃ v', e = .returned (.tuple #[v', .int .i64 n, .bool true]) ∧ w'.ownsRow w.heap.size 5 1 v' x.length (u8s x)
theorem or_i64 {x y : Nat} (hx : x < 256) (hy : y < 256) : bits .or .i64 ((x : Int) * 256) (y : Int) = ((x * 256 + y : Nat) : Int) := by
  have h : x * 256 + y = x * 256 ||| y := by
    have := Nat.two_pow_add_eq_or_of_lt (i := 8) (b := y) (by omega) x
    rw [Nat.mul_comm] at this; exact this
  show IntKind.i64.wrap ((BitVec.ofInt 64 ((x : Int) * 256) ||| BitVec.ofInt 64 (y : Int)).toNat : Int) = _
  have e1 : BitVec.ofInt 64 ((x : Int) * 256) = BitVec.ofNat 64 (x * 256) := by rw [← BitVec.ofInt_natCast]; congr 1
  have e2 : BitVec.ofInt 64 (y : Int) = BitVec.ofNat 64 y := by rw [← BitVec.ofInt_natCast]
  rw [e1, e2, BitVec.toNat_or, BitVec.toNat_ofNat, BitVec.toNat_ofNat, Nat.mod_eq_of_lt (by omega), Nat.mod_eq_of_lt (by omega), ← h]
  simp [IntKind.wrap, IntKind.bits, IntKind.signed]; omega
set_option maxRecDepth 100000 in
set_option maxHeartbeats 400000 in
theorem frame_One_short (M : Nat → Prop) (v : Value) (bs : Hw.Bytes) (w : World) (h : RdB M w v bs) (h6 : bs.length < 6) :
    Calls Tryd.prog 17 #[v] w fun e w' => w = w' ∧ e = .returned (.tuple #[.slice none 0 0, .int .i64 0, .bool false]) := by
  obtain ⟨A, c, rfl, h1, h2⟩ := h.len
  clear h2 h
  go_enter Tryd.func17, Tryd.ntmps17
  go_wp2
  go_ret3
  exact ⟨rfl, rfl⟩
set_option maxRecDepth 100000 in
set_option maxHeartbeats 400000 in
theorem frame_One_long (b o len c x0 x1 : Nat) (w : World) (hc0 : w.cell? ⟨b, o, none⟩ = some (.int .u8 x0)) (hc1 : w.cell? ⟨b, o + 1, none⟩ = some (.int .u8 x1)) (l0 : x0 < 256) (l1 : x1 < 256)
    (h6 : ¬ len < 6) (hl : len ≤ 9223372036854775807) (hn : 16384 < x0 * 256 + x1 ∨ len < 6 + (x0 * 256 + x1)) :
    Calls Tryd.prog 17 #[.slice (some ⟨b, o, none⟩) len c] w fun e w' => Below w.heap.size w w' ∧ e = .returned (.tuple #[.slice none 0 0, .int .i64 0, .bool false]) := by
  have e16 := or_i64 l0 l1
  generalize hN : x0 * 256 + x1 = N at *
  have hN2 : N < 65536 := by omega
  clear hN
  by_cases hN3 : 16384 < N
  all_goals
    go_enter Tryd.func17, Tryd.ntmps17
    go_wp2_with fail
    go_quiet (fail)
    go_wp2_with fail
    go_ret3
    exact ⟨bel_drewN (Below.refl _ _) _, rfl⟩
end Go.Proofs.YtihncdlbbhmglaaDoor

/- Walks: frame.One, its end. -/
namespace Go.Proofs.YtihncdlbbhmglaaDoor
open Go.RowKit
theorem or_u32 {a b : Nat} (k : Nat) (ha : a % 2 ^ k = 0) (hb : b < 2 ^ k) (hs : a + b < 4294967296) : bits .or .u32 (a : Int) (b : Int) = ((a + b : Nat) : Int) := by
  have h : a + b = a ||| b := by
    have := Nat.two_pow_add_eq_or_of_lt (i := k) hb (a / 2 ^ k)
    rw [Nat.mul_div_cancel' (Nat.dvd_of_mod_eq_zero ha)] at this; exact this
  rw [h]; exact u32_or_nat a b (by omega) (by omega)
theorem or_1 {x y : Nat} (hx : x < 256) (hy : y < 256) : bits .or .u32 ((x : Int) * 16777216) ((y : Int) * 65536) = (x : Int) * 16777216 + (y : Int) * 65536 := by
  have := or_u32 (a := x * 16777216) (b := y * 65536) 24 (by omega) (by omega) (by omega)
  simpa using this
theorem or_2 {x y z : Nat} (hx : x < 256) (hy : y < 256) (hz : z < 256) : bits .or .u32 ((x : Int) * 16777216 + (y : Int) * 65536) ((z : Int) * 256) = (x : Int) * 16777216 + (y : Int) * 65536 + (z : Int) * 256 := by
  have := or_u32 (a := x * 16777216 + y * 65536) (b := z * 256) 16 (by omega) (by omega) (by omega)
  simpa using this
theorem or_3 {x y z u : Nat} (hx : x < 256) (hy : y < 256) (hz : z < 256) (hu : u < 256) : bits .or .u32 ((x : Int) * 16777216 + (y : Int) * 65536 + (z : Int) * 256) (u : Int) = ((x * 16777216 + y * 65536 + z * 256 + u : Nat) : Int) := by
  have := or_u32 (a := x * 16777216 + y * 65536 + z * 256) (b := u) 8 (by omega) (by omega) (by omega)
  simpa using this
set_option maxRecDepth 100000 in
set_option maxHeartbeats 1000000 in
theorem frame_One_tail (M : Nat → Prop) (b o o' len c c' x0 x1 x2 x3 x4 x5 N S : Nat) (body : Hw.Bytes) (w : World) (hc0 : w.cell? ⟨b, o, none⟩ = some (.int .u8 x0)) (hc1 : w.cell? ⟨b, o + 1, none⟩ = some (.int .u8 x1))
    (hc2 : w.cell? ⟨b, o + 2, none⟩ = some (.int .u8 x2)) (hc3 : w.cell? ⟨b, o + 3, none⟩ = some (.int .u8 x3)) (hc4 : w.cell? ⟨b, o + 4, none⟩ = some (.int .u8 x4)) (hc5 : w.cell? ⟨b, o + 5, none⟩ = some (.int .u8 x5))
    (l0 : x0 < 256) (l1 : x1 < 256) (l2 : x2 < 256) (l3 : x3 < 256) (l4 : x4 < 256) (l5 : x5 < 256) (hN : x0 * 256 + x1 = N) (hS : x2 * 16777216 + x3 * 65536 + x4 * 256 + x5 = S)
    (hN1 : N ≤ 16384) (hN2 : 6 + N ≤ len) (hlc : len ≤ c) (hc : c ≤ 9223372036854775807) (hbl : body.length = N) (hcc : (c = 6 ∧ o' = o ∧ c' = 0) ∨ (c ≠ 6 ∧ o' = o + 6 ∧ c' = c - 6)) (hb : RdB M w (.slice (some ⟨b, o', none⟩) N c') body) :
    Calls Tryd.prog 17 #[.slice (some ⟨b, o, none⟩) len c] w (OneRet (if Hw.crcSum body = S then some (body, 6 + N) else none) w) := by
  obtain ⟨i0, hi, hz0, hz1, hz2⟩ := info_parts u8row
  have e16 := or_i64 l0 l1
  rw [hN] at e16
  have o1 := or_1 l2 l3
  have o2 := or_2 l2 l3 l4
  have o3 := or_3 l2 l3 l4 l5
  rw [hS] at o3
  clear hN hS
  have h6 : ¬ len < 6 := by omega
  have H := Lib.hid hb; clear hb
  subst hbl
  rcases hcc with ⟨rfl, rfl, rfl⟩ | ⟨hc6, rfl, rfl⟩
  all_goals
    by_cases heq : Hw.crcSum body = S
    · rw [if_pos heq]
      have hne : ((Hw.crcSum body : Int) != (S : Int)) = false := by simp; omega
      clear heq
      go_enter Tryd.func17, Tryd.ntmps17
      go_wp2_with fail
      go_quiet (fail)
      go_wp2_with fail
      go_quiet (fail)
      go_wp2_with (first
        | (go_at_call 38; refine (crc_Sum M _ body _ (RdC.below H.out (bel_drewN (Below.refl _ _) _))).mono ?_; rintro e w' ⟨rfl, rfl⟩)
        | (at_builtin; refine wpAppend _ rfl _ _ 22 rfl w.heap.size 5 i0 (.int .u8 0) 1 1 u8slice hi hz0 hz1 hz2 rfl (by decide) _ 0 _ rfl (World.ownsRow_nil _ _ _ _) M _ body.length (u8s body) rfl (RdC.below H.out (bel_drewN (Below.refl _ _) _)) ?_ ?_ ?_ ?_ ?_))
      · exact u8s_one body
      · unfold maxLen; omega
      · omega
      · exact Nat.le_refl _
      · intro v1 w1 q1 g1 a1
        have HO := Lib.hid q1
        have HB := Lib.hid (Below.trans (bel_drewN (Below.refl w.heap.size w) _) ((Below.refl _ _).grown g1 (B := w.heap.size) (Nat.le_refl _) (by intro k hk; cases hk)))
        clear q1 g1 a1
        go_wp2_with fail
        go_ret3
        exact ⟨HB.out, _, rfl, by have := HO.out; simpa using this⟩
    · rw [if_neg heq]
      have hne : ((Hw.crcSum body : Int) != (S : Int)) = true := by simp; omega
      clear heq
      go_enter Tryd.func17, Tryd.ntmps17
      go_wp2_with fail
      go_quiet (fail)
      go_wp2_with fail
      go_quiet (fail)
      go_wp2_with (go_at_call 38; refine (crc_Sum M _ body _ (RdC.below H.out (bel_drewN (Below.refl _ _) _))).mono ?_; rintro e w' ⟨rfl, rfl⟩)
      go_ret3
      exact ⟨bel_drewN (Below.refl _ _) _, rfl⟩
end Go.Proofs.YtihncdlbbhmglaaDoor

/- Walks: frame.One whole. -/
namespace Go.Proofs.YtihncdlbbhmglaaDoor
open Go.RowKit
theorem get_toNat (bs : Hw.Bytes) (i : Nat) (h : i < bs.length) : bs[i]? = some bs[i] := List.getElem?_eq_getElem h
theorem getD_toNat (bs : Hw.Bytes) (i : Nat) (h : i < bs.length) : bs.getD i 0 = bs[i] := by simp [h]
theorem frame_One (M : Nat → Prop) (v : Value) (bs : Hw.Bytes) (w : World) (h : RdB M w v bs) :
    Calls Tryd.prog 17 #[v] w (OneRet (Hw.frameOne bs) w) := by
  by_cases h6 : bs.length < 6
  · have hr : Hw.frameOne bs = none := by unfold Hw.frameOne; rw [if_pos h6]
    rw [hr]
    exact (frame_One_short M v bs w h h6).mono fun e w' ⟨h1, h2⟩ => ⟨by subst h1; exact Below.refl _ _, h2⟩
  · obtain ⟨b, o, c, rfl, h1, h2, hM, hb, hc⟩ := h.at (by omega)
    have hc0 := hc 0 _ (get_toNat bs 0 (by omega))
    have hc1 := hc 1 _ (get_toNat bs 1 (by omega))
    have hc2 := hc 2 _ (get_toNat bs 2 (by omega))
    have hc3 := hc 3 _ (get_toNat bs 3 (by omega))
    have hc4 := hc 4 _ (get_toNat bs 4 (by omega))
    have hc5 := hc 5 _ (get_toNat bs 5 (by omega))
    rw [Nat.add_zero] at hc0
    have e16 : Hw.nat16 bs = bs[0].toNat * 256 + bs[1].toNat := by unfold Hw.nat16; rw [getD_toNat bs 0 (by omega), getD_toNat bs 1 (by omega)]
    have e32 : Hw.nat32 bs = bs[2].toNat * 16777216 + bs[3].toNat * 65536 + bs[4].toNat * 256 + bs[5].toNat := by
      unfold Hw.nat32; rw [getD_toNat bs 2 (by omega), getD_toNat bs 3 (by omega), getD_toNat bs 4 (by omega), getD_toNat bs 5 (by omega)]
    unfold maxLen at h2
    by_cases hN : 16384 < Hw.nat16 bs ∨ bs.length < 6 + Hw.nat16 bs
    · have hr : Hw.frameOne bs = none := by unfold Hw.frameOne; rw [if_neg h6, if_pos hN]
      rw [hr]
      exact frame_One_long b o bs.length c _ _ w hc0 hc1 (UInt8.toNat_lt _) (UInt8.toNat_lt _) h6 (by omega) (by rw [← e16]; exact hN)
    · have hN' : Hw.nat16 bs ≤ 16384 ∧ 6 + Hw.nat16 bs ≤ bs.length := by omega
      have hr : Hw.frameOne bs = if Hw.crcSum ((bs.drop 6).take (Hw.nat16 bs)) = Hw.nat32 bs then some ((bs.drop 6).take (Hw.nat16 bs), 6 + Hw.nat16 bs) else none := by
        unfold Hw.frameOne; rw [if_neg h6, if_neg hN]
        by_cases he : Hw.crcSum ((bs.drop 6).take (Hw.nat16 bs)) = Hw.nat32 bs
        · rw [if_neg (by simpa using he), if_pos he]
        · rw [if_pos he, if_neg he]
      rw [hr]
      have hsub := RdB.sub h 6 (6 + Hw.nat16 bs) (by omega) hN'.2
      rw [show 6 + Hw.nat16 bs - 6 = Hw.nat16 bs by omega] at hsub
      have hl : ((bs.drop 6).take (Hw.nat16 bs)).length = Hw.nat16 bs := by simp; omega
      by_cases hc6 : c = 6
      · rw [if_pos hc6] at hsub
        exact frame_One_tail M b o o bs.length c 0 _ _ _ _ _ _ _ _ _ w hc0 hc1 hc2 hc3 hc4 hc5 (UInt8.toNat_lt _) (UInt8.toNat_lt _) (UInt8.toNat_lt _) (UInt8.toNat_lt _) (UInt8.toNat_lt _) (UInt8.toNat_lt _) e16.symm e32.symm hN'.1 hN'.2 h1 h2 hl (.inl ⟨hc6, rfl, rfl⟩)
          (by subst hc6; simpa using hsub)
      · rw [if_neg hc6] at hsub
        exact frame_One_tail M b o (o + 6) bs.length c (c - 6) _ _ _ _ _ _ _ _ _ w hc0 hc1 hc2 hc3 hc4 hc5 (UInt8.toNat_lt _) (UInt8.toNat_lt _) (UInt8.toNat_lt _) (UInt8.toNat_lt _) (UInt8.toNat_lt _) (UInt8.toNat_lt _) e16.symm e32.symm hN'.1 hN'.2 h1 h2 hl (.inr ⟨hc6, rfl, rfl⟩)
          (by simpa [Addr.add_lit] using hsub)
end Go.Proofs.YtihncdlbbhmglaaDoor

/- Walks: frame.Scan. -/
namespace Go.Proofs.YtihncdlbbhmglaaDoor
open Go.RowKit
theorem rowsrow : (Tryd.prog.info? 22).map (fun i => (i.zero, i.size, i.bytes)) = some (some (.slice none 0 0), 1, 24) := by kernel_rfl
theorem rowsslice : Tryd.prog.underlying 47 = some (.slice 22) := by kernel_rfl
/-- v is an owned slice of rows that read as these, each in a block of its own from base on. -/
def OwnRows (base : Nat) (w : World) (v : Value) (rs : List Hw.Bytes) : Prop :=
  ∃ vs, w.ownsRow base 22 1 v rs.length vs ∧ RdRows (fun b => b < base ∨ v.ownBlock = some b) w vs rs
theorem OwnRows.nil (base : Nat) (w : World) : OwnRows base w (.slice none 0 0) [] := ⟨[], World.ownsRow_nil _ _ _ _, trivial⟩
/-- One row more: behind the append. -/
theorem OwnRows.snoc {base : Nat} {w w1 : World} {v v1 vx : Value} {rs : List Hw.Bytes} {vs : List Value} {r : Hw.Bytes} (hr : RdRows (fun b => b < base ∨ v.ownBlock = some b) w vs rs) (hx : RdB (fun b => b < base ∨ v.ownBlock = some b) w vx r)
    (o1 : w1.ownsRow base 22 1 v1 (rs.length + 1) (vs ++ [vx])) (g1 : w.grownBy w1 v.ownBlock) (a1 : v1.ownBlock = v.ownBlock ∨ ∃ b, v1.ownBlock = some b ∧ w.heap.size ≤ b) : OwnRows base w1 v1 (rs ++ [r]) := by
  have hM : ∀ n, (n < base ∨ v1.ownBlock = some n) → (n < base ∨ v.ownBlock = some n) ∨ w.heap.size ≤ n := by
    intro n hn
    rcases hn with h | h
    · exact .inl (.inl h)
    · rcases a1 with a | ⟨b, a, hb⟩
      · exact .inl (.inr (by rw [← a]; exact h))
      · rw [a] at h; cases h; exact .inr hb
  have hF : ∀ n, v.ownBlock = some n → (n < base ∨ v.ownBlock = some n) ∨ w.heap.size ≤ n := fun n h => .inl (.inr h)
  refine ⟨vs ++ [vx], by simpa using o1, (hr.upd (Upd.of_grown g1) hF hM).append ⟨hx.upd (Upd.of_grown g1) hF hM, trivial⟩⟩
def ScanRet (r : List Hw.Bytes × Nat) (w : World) (e : Ending) (w' : World) : Prop :=
  Below w.heap.size w w' ∧ ∃ v', e = .returned (.tuple #[v', .int .i64 r.2]) ∧ OwnRows w.heap.size w' v' r.1
def ScanRel (bs : Hw.Bytes) (w : World) (k : Nat) (t4 : Value) (wr : World) : Prop :=
  Below w.heap.size w wr ∧ ∃ rs f, bs.length - k < f ∧ Hw.frameScan bs = (rs ++ (Hw.scanGo f (bs.drop k)).1, k + (Hw.scanGo f (bs.drop k)).2) ∧ rs.length ≤ k ∧ OwnRows w.heap.size wr t4 rs
theorem ScanRel.done {bs : Hw.Bytes} {w wr : World} {k : Nat} {t4 : Value} (h : ScanRel bs w k t4 wr) (hn : Hw.frameOne (bs.drop k) = none) {w1 : World} (hb : Below wr.heap.size wr w1) :
    ScanRet (Hw.frameScan bs) w (.returned (.tuple #[t4, .int .i64 k])) w1 := by
  obtain ⟨h1, rs, f, hf, he, _, vs, ho, hr⟩ := h
  obtain ⟨f, rfl⟩ : ∃ g, f = g + 1 := ⟨f - 1, by omega⟩
  simp only [Hw.scanGo, hn, List.append_nil, Nat.add_zero] at he
  rw [he]
  refine ⟨h1.trans (hb.mono h1.size), t4, rfl, vs, own_upd ho (Upd.of_below (F := fun _ => False) hb) (fun _ _ h => h), hr.upd (Upd.of_below (F := fun _ => False) hb) (fun _ h => h.elim) (fun _ h => .inl h)⟩
theorem ScanRel.next {bs x : Hw.Bytes} {w wr wo w1 : World} {k n f : Nat} {t4 v1 vx : Value} {rs : List Hw.Bytes} {vs : List Value} (p1 : Below w.heap.size w wr) (hf : bs.length - k < f) (he : Hw.frameScan bs = (rs ++ (Hw.scanGo f (bs.drop k)).1, k + (Hw.scanGo f (bs.drop k)).2)) (hle : rs.length ≤ k)
    (ho : wr.ownsRow w.heap.size 22 1 t4 rs.length vs) (hr : RdRows (fun b => b < w.heap.size ∨ t4.ownBlock = some b) wr vs rs) (hk : k ≤ bs.length) (hs : Hw.frameOne (bs.drop k) = some (x, n)) (hb : Below wr.heap.size wr wo)
    (hx : wo.ownsRow wr.heap.size 5 1 vx x.length (u8s x)) (o : Obj)
    (ho1 : w1.ownsRow w.heap.size 22 1 v1 (rs.length + 1) (vs ++ [vx])) (g1 : (wo.alloc o).grownBy w1 t4.ownBlock) (a1 : v1.ownBlock = t4.ownBlock ∨ v1.ownBlock = some (wo.heap.size + 1)) :
    ScanRel bs w (k + n) v1 w1 ∧ k + n ≤ bs.length ∧ 6 ≤ n := by
  obtain ⟨q1, q2, q3, q4⟩ := Hw.frameOne_some hs
  obtain ⟨f, rfl⟩ : ∃ g, f = g + 1 := ⟨f - 1, by omega⟩
  simp only [Hw.scanGo, hs, List.drop_drop] at he
  simp only [List.length_drop] at q4
  have hle' := ho.1
  have hvl : vs.length = rs.length := by omega
  have hwo := hb.size
  have hbk : ∀ b, t4.ownBlock = some b → w.heap.size ≤ b ∧ b < wr.heap.size := fun b hb => ho.lt b hb
  have hx' : RdB (fun b => b < w.heap.size ∨ t4.ownBlock = some b) wo vx x := RdB.of_own hx (fun b hb hM => by
    have := (hx.lt b hb).1
    have := p1.size
    rcases hM with h | h
    · omega
    · have := (hbk b h).2; omega)
  have hr' := hr.upd (M' := fun b => b < w.heap.size ∨ t4.ownBlock = some b) (Upd.of_below (F := fun _ => False) hb) (fun _ h => h.elim) (fun _ h => .inl h)
  have hua := Upd.of_below (F := fun _ => False) (below_new wo o)
  have hsn := OwnRows.snoc (v1 := v1) (hr'.upd (M' := fun b => b < w.heap.size ∨ t4.ownBlock = some b) hua (fun _ h => h.elim) (fun _ h => .inl h)) (hx'.upd (M' := fun b => b < w.heap.size ∨ t4.ownBlock = some b) hua (fun _ h => h.elim) (fun _ h => .inl h))
    ho1 g1 (by
      rcases a1 with a | a
      · exact .inl a
      · exact .inr ⟨_, a, by simp⟩)
  refine ⟨⟨?_, rs ++ [x], f, by omega, ?_, by simp; omega, hsn⟩, by omega, by omega⟩
  · refine (p1.trans (hb.mono p1.size)).trans (((below_new wo o).mono (by have := p1.size; omega)).trans ?_)
    exact (Below.refl _ _).grown g1 (by have := p1.size; simp; omega) (fun b hb => (hbk b hb).1)
  · rw [he]; simp [Nat.add_assoc]
set_option maxRecDepth 100000 in
set_option maxHeartbeats 1000000 in
theorem frame_Scan (M : Nat → Prop) (v : Value) (bs : Hw.Bytes) (w : World) (h : RdB M w v bs) (hl : bs.length ≤ 1000000000000) :
    Calls Tryd.prog 41 #[v] w (ScanRet (Hw.frameScan bs) w) := by
  obtain ⟨i0, hi, hz0, hz1, hz2⟩ := info_parts rowsrow
  obtain ⟨A, c, rfl, h1, h2⟩ := h.len
  unfold maxLen at h2
  have H := Lib.hid h; clear h
  go_enter Tryd.func41, Tryd.ntmps41
  go_wp2
  go_loopw [4, 5] (fun t4 t5 wr => ∃ k : Nat, k ≤ bs.length ∧ t5 = .int .i64 k ∧ ScanRel bs w k t4 wr) (fun _ k _ => (bs.length - intOf k).toNat)
  case atStart => exact ⟨0, by omega, rfl, Below.refl _ _, [], bs.length + 1, by omega, by simp [Hw.frameScan], by simp, OwnRows.nil _ _⟩
  case round =>
    obtain ⟨k, hk, rfl, hrel⟩ := hrel
    have HR := Lib.hid hrel
    have hB := hrel.1.size
    have hfrom := RdB.from (RdC.below H.out hrel.1) k hk
    clear hrel
    by_cases hck : c = k
    · rw [if_pos hck] at hfrom
      have HF := Lib.hid hfrom; clear hfrom
      have hlk : bs.length = k := by omega
      have HLK := Lib.hid hlk; clear hlk
      obtain rfl := hck
      have hdr : bs.drop c = [] := List.drop_eq_nil_of_le (by have := HLK.out; omega)
      have hs : Hw.frameOne (bs.drop c) = none := by rw [hdr]; exact Hw.frameOne_nil
      have C := frame_One M (.slice A 0 0) (bs.drop c) _ (by have := HF.out; simpa [HLK.out] using this)
      rw [hs] at C
      have HS := Lib.hid hs
      have HC := Lib.hid C; clear C hs hdr
      go_wp2_with (go_at_call 17; refine HC.out.mono ?_; rintro e w1 ⟨hb1, rfl⟩; have HB1 := Lib.hid hb1; clear hb1)
      go_ret2
      exact HR.out.done HS.out HB1.out
    · rw [if_neg hck] at hfrom
      cases A with
      | none => obtain ⟨A', c', hv, _, _, _, h3, _⟩ := H.out; cases hv; have := h3 rfl; omega
      | some ad =>
        simp only [Option.map_some] at hfrom
        have C := frame_One M _ (bs.drop k) _ hfrom
        clear hfrom
        cases hs : Hw.frameOne (bs.drop k) with
        | none =>
          rw [hs] at C
          have HS := Lib.hid hs
          have HC := Lib.hid C; clear C hs
          go_wp2_with (go_at_call 17; refine HC.out.mono ?_; rintro e w1 ⟨hb1, rfl⟩; have HB1 := Lib.hid hb1; clear hb1)
          go_ret2
          exact HR.out.done HS.out HB1.out
        | some p =>
          obtain ⟨x, n⟩ := p
          rw [hs] at C
          have HS := Lib.hid hs
          have HC := Lib.hid C; clear C hs
          obtain ⟨hP, rs, f, hf, he, hle, vs, ho, hr⟩ := HR.out
          obtain ⟨hxl, _⟩ := Hw.frameOne_some HS.out
          have HP := Lib.hid (And.intro hP (And.intro hf he))
          have HQ := Lib.hid (And.intro ho hr)
          clear hP hf he ho hr HR
          go_wp2_with (first
            | (go_at_call 17; refine HC.out.mono ?_; rintro e w1 ⟨hb1, vx, rfl, hx1⟩; obtain ⟨A1, c1, rfl, _, _⟩ := RdB.len (RdB.of_own (M := fun _ => False) hx1 (fun _ _ h => h)); have HB1 := Lib.hid hb1; have hsz := hb1.size; have HX1 := Lib.hid hx1; clear hb1 hx1)
            | (at_builtin; refine wpAppend _ rfl _ _ 47 rfl w.heap.size 22 i0 (.slice none 0 0) 1 24 rowsslice hi hz0 hz1 hz2 rfl (by decide) _ _ _ rfl ((own_upd HQ.out.1 (Upd.of_below (F := fun _ => False) HB1.out) (fun _ _ h => h)).alloc _) (fun _ => False) _ 1 _ rfl (RdC.made _ 1 1 _ _ rfl (by decide) (fun h => h)) ?_ ?_ ?_ ?_ ?_))
          · simp [Value.oneCell']
          · unfold maxLen; omega
          · omega
          · simp; omega
          · intro v1 w2 o1 g1 a1
            have hn := ScanRel.next HP.out.1 HP.out.2.1 HP.out.2.2 hle HQ.out.1 HQ.out.2 hk HS.out HB1.out HX1.out _ o1 g1 (by simpa using a1)
            have HN := Lib.hid hn.1
            have hn2 := hn.2
            clear o1 g1 a1 hn
            go_wp2
            go_roundw
            case rel => exact ⟨k + n, hn2.1, by go_num, HN.out⟩
            case measure => simp [intOf]; omega
end Go.Proofs.YtihncdlbbhmglaaDoor

/- Walks: varint.Get. -/
namespace Go.Proofs.YtihncdlbbhmglaaDoor
open Go.RowKit
def GetRet (M : Nat → Prop) (r : Option (Int × Hw.Bytes)) (w : World) (e : Ending) (w' : World) : Prop :=
  (∃ n, w' = w.drewN n) ∧ match r with
    | none => e = .returned (.tuple #[.int .i64 0, .slice none 0 0, .bool false])
    | some (x, rest) => ∃ v', e = .returned (.tuple #[.int .i64 x, v', .bool true]) ∧ RdB M w v' rest
def GetRel (bs : Hw.Bytes) (k u : Nat) : Prop := k ≤ bs.length ∧ k ≤ 9 ∧ u < 2 ^ (7 * k) ∧ Hw.varGet bs = Hw.varGetGo k u (bs.drop k)
theorem and127 {c : Nat} (hc : c < 256) : bits .and .u8 (c : Int) 127 = ((c % 128 : Nat) : Int) := by
  have := u8_and_nat c 127 (by omega) (by omega)
  refine Eq.trans this ?_
  congr 1
  have : ∀ z : Fin 256, z.val &&& 127 = z.val % 128 := by decide +kernel
  exact this ⟨c, hc⟩
theorem pow7 (k : Nat) (hk : k ≤ 9) : 2 ^ (7 * k) ≤ 9223372036854775808 := Nat.pow_le_pow_right (n := 2) (by omega) (show 7 * k ≤ 63 by omega)
theorem get_fit {x k u : Nat} (hx : x < 256) (hk : k ≤ 9) (h9 : ¬ (k = 9 ∧ 1 < x)) (hu : u < 2 ^ (7 * k)) : x % 128 * 2 ^ (7 * k) + u < 18446744073709551616 := by
  have hp := pow7 k hk
  have hpp : 0 < 2 ^ (7 * k) := Nat.pow_pos (by omega)
  by_cases h : k = 9
  · subst h
    have : x ≤ 1 := by omega
    have h2 : x % 128 ≤ 1 := by omega
    have := Nat.mul_le_mul_right (2 ^ (7 * 9)) h2
    omega
  · have h2 : x % 128 ≤ 127 := by omega
    have := Nat.mul_le_mul_right (2 ^ (7 * k)) h2
    have hq : 2 ^ (7 * k) ≤ 72057594037927936 := Nat.pow_le_pow_right (n := 2) (by omega) (show 7 * k ≤ 56 by omega)
    omega
theorem get_or {x k u : Nat} (hx : x < 256) (hk : k ≤ 9) (h9 : ¬ (k = 9 ∧ 1 < x)) (hu : u < 2 ^ (7 * k)) :
    bits .or .u64 (u : Int) (IntKind.u64.wrap ((x : Int) % 128 * 2 ^ (7 * k))) = ((u + x % 128 * 2 ^ (7 * k) : Nat) : Int) := by
  have hf := get_fit hx hk h9 hu
  have e : IntKind.u64.wrap ((x : Int) % 128 * 2 ^ (7 * k)) = ((x % 128 * 2 ^ (7 * k) : Nat) : Int) := by
    have e1 : (x : Int) % 128 * 2 ^ (7 * k) = ((x % 128 * 2 ^ (7 * k) : Nat) : Int) := by push_cast; rfl
    rw [e1, IntKind.wrap_u64]; omega
  rw [e]
  refine Eq.trans (u64_or_nat u _ (by omega) (by omega)) ?_
  congr 1
  have := Nat.two_pow_add_eq_or_of_lt (i := 7 * k) hu (x % 128)
  rw [Nat.mul_comm, Nat.add_comm, Nat.or_comm] at this
  rw [this, Nat.mul_comm]
theorem get_go {bs : Hw.Bytes} {k u : Nat} (h : GetRel bs k u) (hlt : k < bs.length) : Hw.varGet bs =
    if k = 9 ∧ 1 < bs[k].toNat then none
    else if 128 ≤ bs[k].toNat then Hw.varGetGo (k + 1) (u + bs[k].toNat % 128 * 2 ^ (7 * k)) (bs.drop (k + 1))
    else if 0 < k ∧ bs[k].toNat = 0 then none
    else some (Hw.unzig (u + bs[k].toNat % 128 * 2 ^ (7 * k)), bs.drop (k + 1)) := by
  obtain ⟨h1, h2, h3, h4⟩ := h
  rw [h4, List.drop_eq_getElem_cons hlt, Hw.varGetGo, if_neg (by omega)]
theorem GetRel.next {bs : Hw.Bytes} {k u : Nat} (h : GetRel bs k u) (hlt : k < bs.length) (h9 : ¬ (k = 9 ∧ 1 < bs[k].toNat)) (hge : 128 ≤ bs[k].toNat) : GetRel bs (k + 1) (u + bs[k].toNat % 128 * 2 ^ (7 * k)) := by
  have hg := get_go h hlt
  rw [if_neg h9, if_pos hge] at hg
  have hx := UInt8.toNat_lt bs[k]
  have hk9 := h.2.1
  refine ⟨by omega, by omega, ?_, hg⟩
  have h3 := h.2.2.1
  have h2 : bs[k].toNat % 128 ≤ 127 := by omega
  have := Nat.mul_le_mul_right (2 ^ (7 * k)) h2
  have e : 2 ^ (7 * (k + 1)) = 2 ^ (7 * k) * 128 := by rw [show 7 * (k + 1) = 7 * k + 7 by omega, Nat.pow_add]
  omega
theorem and1_64 {U : Nat} (hU : U < 18446744073709551616) : bits .and .u64 (U : Int) 1 = ((U % 2 : Nat) : Int) := by
  have := u64_and_nat U 1 hU (by omega); rw [Nat.and_one_is_mod] at this; exact this
theorem get_end {M : Nat → Prop} {bs : Hw.Bytes} {w : World} {k x U : Nat} {p : Bool} {y : Int} {v' : Value} {nq : Nat} (hg : Hw.varGet bs = if 0 < k ∧ x = 0 then none else some (Hw.unzig U, bs.drop (k + 1))) (h0 : ¬ (0 < k ∧ x = 0))
    (hp : p = decide (U % 2 = 1)) (hf : RdB M w v' (bs.drop (k + 1))) (hy : y = if p then -((U / 2 : Nat) : Int) - 1 else ((U / 2 : Nat) : Int)) :
    GetRet M (Hw.varGet bs) w (.returned (.tuple #[.int .i64 y, v', .bool true])) (w.drewN nq) := by
  rw [hg, if_neg h0]
  refine ⟨⟨_, rfl⟩, v', ?_, hf⟩
  rw [hy, hp]; unfold Hw.unzig
  by_cases h : U % 2 = 1 <;> simp [h]
theorem not_i64 {U : Nat} (hU : U < 18446744073709551616) : bits .xor .i64 (-1) ((U : Int) / 2) = -((U : Int) / 2) - 1 := by
  show IntKind.i64.wrap ((BitVec.ofInt 64 (-1) ^^^ BitVec.ofInt 64 ((U : Int) / 2)).toNat : Int) = _
  have e1 : BitVec.ofInt 64 (-1) = BitVec.allOnes 64 := by decide
  have e2 : BitVec.ofInt 64 ((U : Int) / 2) = BitVec.ofNat 64 (U / 2) := by rw [← BitVec.ofInt_natCast]; congr 1
  rw [e1, e2, BitVec.allOnes_xor, BitVec.toNat_not, BitVec.toNat_ofNat, Nat.mod_eq_of_lt (by omega)]
  rw [IntKind.wrap_i64]; omega
set_option maxRecDepth 100000 in
set_option maxHeartbeats 1000000 in
theorem varint_Get (M : Nat → Prop) (v : Value) (bs : Hw.Bytes) (w : World) (h : RdB M w v bs) :
    Calls Tryd.prog 19 #[v] w (GetRet M (Hw.varGet bs) w) := by
  obtain ⟨A, c, rfl, h1, h2⟩ := h.len
  unfold maxLen at h2
  have H := Lib.hid h
  clear h
  go_enter Tryd.func19, Tryd.ntmps19
  go_wp2_with fail
  go_loop [5, 6] (fun t5 t6 => ∃ k u : Nat, t6 = .int .i64 k ∧ t5 = .int .u64 u ∧ GetRel bs k u) (fun _ k => (bs.length - intOf k).toNat)
  case atStart => exact ⟨0, 0, rfl, rfl, by omega, by omega, by decide, by simp [Hw.varGet]⟩
  case round =>
    obtain ⟨k, u, rfl, rfl, hr⟩ := hrel
    have hk9 := hr.2.1
    have HR := Lib.hid hr; clear hr
    by_cases hlt : k < bs.length
    · obtain ⟨b, o, c', hv, _, _, _, _, g4⟩ := H.out.at (by omega)
      cases hv
      have hc := g4 k _ (get_toNat bs k hlt)
      have hx := UInt8.toNat_lt bs[k]
      have hgo := get_go HR.out hlt
      have hnx := HR.out.next hlt
      have hor := get_or (u := u) hx hk9
      have hfit := get_fit (u := u) hx hk9
      have hu := HR.out.2.2.1
      generalize bs[k].toNat = x at *
      generalize hU : u + x % 128 * 2 ^ (7 * k) = U at *
      clear g4
      have ha := and127 hx
      by_cases hb : k = 9 ∧ 1 < x
      · rw [if_pos hb] at hgo
        have HG := Lib.hid hgo
        obtain ⟨rfl, hx1⟩ := hb
        clear hgo hnx hor hfit hU ha hu
        go_wp2_with fail
        go_ret3
        exact ⟨⟨0, rfl⟩, by rw [HG.out]; rfl⟩
      · rw [if_neg hb] at hgo
        have hor := hor hb hu
        have hfit := hfit hb hu
        have hU64 : U < 18446744073709551616 := by rw [← hU]; omega
        by_cases hge : 128 ≤ x
        · have hnx := hnx hb hge
          have HN := Lib.hid hnx
          have hk9' : k ≠ 9 := by omega
          have hk9'' : ((k : Int) == 9) = false := by simp; omega
          clear hnx hU hgo hfit hb hu
          go_wp2_with fail
          go_round
          case rel => exact ⟨k + 1, U, by go_num, rfl, HN.out⟩
          case measure => simp [intOf]; omega
        · rw [if_neg hge] at hgo
          have h9 : k = 9 → x ≤ 1 := by omega
          clear hnx hU hfit hb hu
          have h1b := and1_64 hU64
          have HGO := Lib.hid hgo; clear hgo
          have hkc : ∃ (d : Bool), (((k : Int) == 9) = d) ∧ (d = true → x ≤ 1) := ⟨_, rfl, fun h => h9 (by simp at h; omega)⟩
          obtain ⟨d, hd9, hdx⟩ := hkc
          clear h9
          by_cases h0 : 0 < k ∧ x = 0
          · obtain ⟨h0k, rfl⟩ := h0
            cases d
            all_goals
              go_wp2_with fail
              go_ret3
              exact ⟨⟨0, rfl⟩, by rw [HGO.out, if_pos (by simp [h0k])]; rfl⟩
          · have hkx : k = 0 ∨ x ≠ 0 := by omega
            have hpp : ∃ (p : Bool), (((U : Int) % 2 == 1) = p) ∧ p = decide (U % 2 = 1) := ⟨_, rfl, by rw [Bool.eq_iff_iff]; simp; omega⟩
            obtain ⟨p, hp, hpU⟩ := hpp
            have HPU := Lib.hid hpU; clear hpU
            have hfr := RdB.from H.out (k + 1) (by omega)
            have hwk : IntKind.i64.wrap ((k : Int) + 1) = (k : Int) + 1 := by rw [IntKind.wrap_i64]; omega
            have hnot := not_i64 hU64
            by_cases hck : c = k + 1
            · rw [if_pos hck] at hfr
              have HF := Lib.hid hfr; clear hfr
              cases p
              all_goals
                cases d
                case' true => have hx1 := hdx rfl
                all_goals
                  clear hdx
                  go_wp2_with fail
                  all_goals
                    go_quiet (fail)
                    go_wp2_with fail
                    go_ret3
                    exact get_end HGO.out (by omega) HPU.out (by have h := HF.out; rw [hck, Nat.sub_self] at h; exact h) (by simp [*])
            · rw [if_neg hck] at hfr
              simp only [Option.map_some, Addr.add_lit] at hfr
              have HF := Lib.hid hfr; clear hfr
              cases p
              all_goals
                cases d
                case' true => have hx1 := hdx rfl
                all_goals
                  clear hdx
                  go_wp2_with fail
                  all_goals
                    go_quiet (fail)
                    go_wp2_with fail
                    go_ret3
                    exact get_end HGO.out (by omega) HPU.out HF.out (by simp [*])
    · have hd : bs.drop k = [] := List.drop_eq_nil_of_le (by omega)
      have hg := HR.out.2.2.2
      rw [hd] at hg
      have HG := Lib.hid hg
      clear hg hd
      go_wp2_with fail
      go_ret3
      exact ⟨⟨0, rfl⟩, by rw [HG.out]; rfl⟩
end Go.Proofs.YtihncdlbbhmglaaDoor
