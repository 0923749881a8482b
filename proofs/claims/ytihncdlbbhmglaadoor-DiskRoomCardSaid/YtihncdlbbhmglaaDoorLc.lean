/- Words of the walks: a disk in memory. -/
import Derived.Test.YtihncdlbbhmglaaDoorLb
import Derived.Test.YtihncdlbbhmglaaDoorWi
namespace Go.Proofs.YtihncdlbbhmglaaDoor
open Go.RowKit

/-- A file, and where it lies: its own block, its bytes' block, its stamp in the map. -/
structure FE where
  name : Int
  file : Hw.HFile
  bf : Nat
  row : Option Nat
  born : Nat
def fme (x : FE) : ME := ⟨x.name, .pointer (some ⟨x.bf, 0, none⟩), x.born⟩
def FileAt (w : World) (bf : Nat) (row : Option Nat) (f : Hw.HFile) : Prop :=
  ∃ sv, w.heap[bf]? = some (.cells #[sv, .int .i64 (f.safe : Int)] 69 (0, 0)) ∧ sv.ownBlock = row ∧ w.ownsRow 0 5 1 sv f.bytes.length (u8s f.bytes)
structure DiskAt (w : World) (p : Nat) (d : Hw.HDisk) (F : Nat → Prop) (bm clock : Nat) (Fs : List FE) : Prop where
  top : w.heap[p]? = some (.cells #[.map (some bm), .int .i64 (d.room : Int), .int .i64 d.left, .bool d.stopped] 66 (0, 0))
  mp : MapIs w bm (Fs.map fme) clock
  files : d.files = Fs.map fun x => (x.name, x.file)
  each : ∀ x ∈ Fs, FileAt w x.bf x.row x.file
  bfs : (Fs.map (·.bf)).Nodup
  rows : (Fs.filterMap (·.row)).Nodup
  fp : ∀ b, F b ↔ b = p ∨ b = bm ∨ ∃ x ∈ Fs, b = x.bf ∨ x.row = some b
  left0 : -1 ≤ d.left
  left1 : d.left ≤ 9223372036854775807
  wf : Hw.HDisk.WF d
/-- The pointer to block p is a disk that has d; its memory is F. -/
def IsDisk (w : World) (p : Nat) (d : Hw.HDisk) (F : Nat → Prop) : Prop := ∃ bm clock Fs, DiskAt w p d F bm clock Fs
theorem blk_lt {w : World} {b : Nat} {o : Obj} (h : w.heap[b]? = some o) : b < w.heap.size := (Array.getElem?_eq_some_iff.1 h).1
theorem own_lt {w : World} {base size n : Nat} {e : TypeId} {v : Value} {xs : List Value} (h : w.ownsRow base e size v n xs) {k : Nat} (hk : v.ownBlock = some k) : k < w.heap.size := (h.lt k hk).2
theorem DiskAt.lt {w : World} {p : Nat} {d : Hw.HDisk} {F : Nat → Prop} {bm clock : Nat} {Fs : List FE} (h : DiskAt w p d F bm clock Fs) {b : Nat} (hb : F b) : b < w.heap.size := by
  rcases (h.fp b).1 hb with rfl | rfl | ⟨x, hx, h1⟩
  · exact blk_lt h.top
  · exact blk_lt h.mp.blk
  · obtain ⟨sv, g1, g2, g3⟩ := h.each x hx
    rcases h1 with rfl | h1
    · exact blk_lt g1
    · exact own_lt g3 (g2.trans h1)
theorem FileAt.upd {G : Nat → Prop} {w w' : World} {bf : Nat} {row : Option Nat} {f : Hw.HFile} (h : FileAt w bf row f) (hu : Upd G w w') (h1 : ¬ G bf) (h2 : ∀ b, row = some b → ¬ G b) : FileAt w' bf row f := by
  obtain ⟨sv, g1, g2, g3⟩ := h
  exact ⟨sv, (hu.block bf (blk_lt g1) h1).trans g1, g2, own_upd g3 hu (fun k hk => h2 k (g2.symm.trans hk))⟩
theorem MapIs.upd {G : Nat → Prop} {w w' : World} {bm clock : Nat} {l : List ME} (h : MapIs w bm l clock) (hu : Upd G w w') (h1 : ¬ G bm) : MapIs w' bm l clock :=
  ⟨(hu.block bm (blk_lt h.blk) h1).trans h.blk, h.borns, h.below⟩
theorem DiskAt.upd {G : Nat → Prop} {w w' : World} {p : Nat} {d : Hw.HDisk} {F : Nat → Prop} {bm clock : Nat} {Fs : List FE} (h : DiskAt w p d F bm clock Fs) (hu : Upd G w w') (hG : ∀ b, F b → ¬ G b) : DiskAt w' p d F bm clock Fs := by
  have hf := fun b => (h.fp b).2
  refine ⟨(hu.block p (blk_lt h.top) (hG p (hf p (.inl rfl)))).trans h.top, h.mp.upd hu (hG bm (hf bm (.inr (.inl rfl)))), h.files, fun x hx => ?_, h.bfs, h.rows, h.fp, h.left0, h.left1, h.wf⟩
  exact (h.each x hx).upd hu (hG _ (hf _ (.inr (.inr ⟨x, hx, .inl rfl⟩)))) (fun b hb => hG b (hf b (.inr (.inr ⟨x, hx, .inr hb⟩))))
theorem IsDisk.upd {G : Nat → Prop} {w w' : World} {p : Nat} {d : Hw.HDisk} {F : Nat → Prop} (h : IsDisk w p d F) (hu : Upd G w w') (hG : ∀ b, F b → ¬ G b) : IsDisk w' p d F := by
  obtain ⟨bm, clock, Fs, h⟩ := h; exact ⟨bm, clock, Fs, h.upd hu hG⟩
theorem IsDisk.below {w w' : World} {p : Nat} {d : Hw.HDisk} {F : Nat → Prop} (h : IsDisk w p d F) (hu : Below w.heap.size w w') : IsDisk w' p d F :=
  h.upd (G := fun _ => False) (Upd.of_below hu) (fun _ _ h => h)
theorem IsDisk.lt {w : World} {p : Nat} {d : Hw.HDisk} {F : Nat → Prop} (h : IsDisk w p d F) {b : Nat} (hb : F b) : b < w.heap.size := by
  obtain ⟨bm, clock, Fs, h⟩ := h; exact h.lt hb
/-- Blocks of several kinds are several. -/
theorem DiskAt.ne_map {w : World} {p : Nat} {d : Hw.HDisk} {F : Nat → Prop} {bm clock : Nat} {Fs : List FE} (h : DiskAt w p d F bm clock Fs) : p ≠ bm := by
  intro e; have h1 := h.top; rw [e, h.mp.blk] at h1; cases h1
theorem FileAt.ne_cells {w : World} {bf b : Nat} {row : Option Nat} {f : Hw.HFile} (h : FileAt w bf row f) {cs : Array Value} {t : TypeId} (hb : w.heap[b]? = some (.cells cs t (0, 0))) (ht : t ≠ 69) : b ≠ bf := by
  obtain ⟨sv, g1, _⟩ := h
  intro e; rw [e, g1] at hb; cases hb; exact ht rfl
theorem FileAt.ne_map {w : World} {bf b : Nat} {row : Option Nat} {f : Hw.HFile} (h : FileAt w bf row f) {es : Array MapEntry} {c : Nat} (hb : w.heap[b]? = some (.map es c)) : b ≠ bf := by
  obtain ⟨sv, g1, _⟩ := h
  intro e; rw [e, g1] at hb; cases hb
theorem FileAt.row_cells {w : World} {bf b k : Nat} {row : Option Nat} {f : Hw.HFile} (h : FileAt w bf row f) (hk : row = some k) {cs : Array Value} {t : TypeId} (hb : w.heap[b]? = some (.cells cs t (0, 0))) (ht : t ≠ 5) : b ≠ k := by
  obtain ⟨sv, _, g2, g3⟩ := h
  intro e
  rcases g3.2 with ⟨rfl, _⟩ | ⟨g, cap, cur, rfl, _, hg, _⟩
  · rw [hk] at g2; cases g2
  · rw [hk] at g2; cases g2; rw [e, hg] at hb; cases hb; exact ht rfl
theorem FileAt.row_map {w : World} {bf b k : Nat} {row : Option Nat} {f : Hw.HFile} (h : FileAt w bf row f) (hk : row = some k) {es : Array MapEntry} {c : Nat} (hb : w.heap[b]? = some (.map es c)) : b ≠ k := by
  obtain ⟨sv, _, g2, g3⟩ := h
  intro e
  rcases g3.2 with ⟨rfl, _⟩ | ⟨g, cap, cur, rfl, _, hg, _⟩
  · rw [hk] at g2; cases g2
  · rw [hk] at g2; cases g2; rw [e, hg] at hb; cases hb

theorem DiskAt.cell0 {w : World} {p : Nat} {d : Hw.HDisk} {F : Nat → Prop} {bm clock : Nat} {Fs : List FE} (h : DiskAt w p d F bm clock Fs) : w.cell? ⟨p, 0, none⟩ = some (.map (some bm)) := by simp [World.cell?, h.top]
theorem DiskAt.cell1 {w : World} {p : Nat} {d : Hw.HDisk} {F : Nat → Prop} {bm clock : Nat} {Fs : List FE} (h : DiskAt w p d F bm clock Fs) : w.cell? ⟨p, 1, none⟩ = some (.int .i64 (d.room : Int)) := by simp [World.cell?, h.top]
theorem DiskAt.cell3 {w : World} {p : Nat} {d : Hw.HDisk} {F : Nat → Prop} {bm clock : Nat} {Fs : List FE} (h : DiskAt w p d F bm clock Fs) : w.cell? ⟨p, 3, none⟩ = some (.bool d.stopped) := by simp [World.cell?, h.top]
/-! ### counting what has come -/
def leftN : List ME → Array Nat → Nat
  | [], _ => 0
  | x :: l, seen => (if seen.contains x.born then 0 else 1) + leftN l seen
theorem leftN_filter (seen : Array Nat) : ∀ l : List ME, ((l.map ment).filter fun e => !seen.contains e.born).length = leftN l seen := by
  intro l
  induction l with
  | nil => rfl
  | cons x l ih =>
    rw [List.map_cons, List.filter_cons, leftN, ← ih]
    cases h : seen.contains x.born <;> simp only [ment, h] <;> simp <;> omega
theorem rangeLeft_eq {w : World} {bm r clock : Nat} {l : List ME} {seen : Array Nat} (h : MapIs w bm l clock) (hi : IterAt w r bm clock seen) : w.rangeLeft bm r = leftN l seen := by
  simp only [World.rangeLeft, h.blk, show w.heap[r]? = _ from hi, leftOf]
  rw [← leftN_filter, ← Array.length_toList, Array.toList_filter]
theorem contains_push (seen : Array Nat) (a b : Nat) : (seen.push a).contains b = (seen.contains b || b == a) := by
  rw [Bool.eq_iff_iff]; simp
theorem leftN_push_le (seen : Array Nat) (b : Nat) : ∀ l : List ME, leftN l (seen.push b) ≤ leftN l seen := by
  intro l
  induction l with
  | nil => simp [leftN]
  | cons x l ih =>
    simp only [leftN, contains_push]
    cases seen.contains x.born <;> cases x.born == b <;> simp <;> omega
theorem leftN_push {seen : Array Nat} {x : ME} (hs : x.born ∉ seen) : ∀ {l : List ME}, x ∈ l → leftN l (seen.push x.born) < leftN l seen := by
  intro l
  induction l with
  | nil => intro h; cases h
  | cons y l ih =>
    intro hx
    have hle := leftN_push_le seen x.born l
    simp only [leftN, contains_push]
    rcases List.mem_cons.1 hx with rfl | hx
    · have : seen.contains x.born = false := by simpa using hs
      simp only [this, beq_self_eq_true, Bool.or_true, if_true, Bool.false_eq_true, if_false]; omega
    · have := ih hx
      cases seen.contains y.born <;> cases y.born == x.born <;> simp <;> omega
def wsum (g : FE → Nat) (Fs : List FE) (seen : Array Nat) : Nat := (Fs.map fun x => if x.born ∈ seen then g x else 0).sum
theorem wsum_empty (g : FE → Nat) (Fs : List FE) : wsum g Fs #[] = 0 := by
  unfold wsum
  induction Fs with
  | nil => rfl
  | cons x l ih => simp at ih ⊢; exact ih
theorem wsum_all {g : FE → Nat} {Fs : List FE} {seen : Array Nat} (h : ∀ x ∈ Fs, x.born ∈ seen) : wsum g Fs seen = (Fs.map g).sum := by
  unfold wsum
  congr 1
  apply List.map_congr_left
  intro x hx; rw [if_pos (h x hx)]
theorem wsum_le (g : FE → Nat) (Fs : List FE) (seen : Array Nat) : wsum g Fs seen ≤ (Fs.map g).sum := by
  unfold wsum
  induction Fs with
  | nil => simp
  | cons x l ih => simp only [List.map_cons, List.sum_cons]; split <;> omega
theorem wsum_push {g : FE → Nat} {Fs : List FE} {seen : Array Nat} {x : FE} (hn : (Fs.map (·.born)).Nodup) (hx : x ∈ Fs) (hs : x.born ∉ seen) : wsum g Fs (seen.push x.born) = wsum g Fs seen + g x := by
  unfold wsum
  induction Fs with
  | nil => cases hx
  | cons y l ih =>
    simp only [List.map_cons, List.nodup_cons] at hn
    simp only [List.map_cons, List.sum_cons]
    rcases List.mem_cons.1 hx with rfl | hx
    · have hrest : (l.map fun z => if z.born ∈ seen.push x.born then g z else 0) = l.map fun z => if z.born ∈ seen then g z else 0 := by
        apply List.map_congr_left
        intro z hz
        have : z.born ≠ x.born := fun e => hn.1 (by rw [← e]; exact List.mem_map.2 ⟨z, hz, rfl⟩)
        simp [this]
      rw [hrest]; simp [hs]; omega
    · have hy : y.born ≠ x.born := fun e => hn.1 (by rw [e]; exact List.mem_map.2 ⟨x, hx, rfl⟩)
      rw [ih hn.2 hx]; simp [hy]; omega
end Go.Proofs.YtihncdlbbhmglaaDoor
