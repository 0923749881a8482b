/- Words of the laws' walks: strings of bytes, literals, a disk of the call's own. -/
import Derived.Test.YtihncdlbbhmglaaDoorWq
import Derived.Laws.BytesArg
import Derived.Lib.SlBytesConst
import Derived.Lib.BufferRead
namespace Go.Proofs.YtihncdlbbhmglaaDoor
open Go.RowKit

def strB (bs : Hw.Bytes) : ByteArray := ⟨bs.toArray⟩
theorem strB_inj {a b : Hw.Bytes} : strB a = strB b ↔ a = b := by
  constructor
  · intro h
    have := congrArg (fun s : ByteArray => s.data.toList) h
    simpa [strB] using this
  · rintro rfl; rfl
theorem strOfNums_u8 (bs : Hw.Bytes) : strOfNums (bs.map fun c => (c.toNat : Int)) = strB bs := by
  unfold strOfNums strB
  congr 1
  rw [List.map_map]
  congr 1
  conv => rhs; rw [← List.map_id bs]
  apply List.map_congr_left
  intro c _
  simp
theorem RdB.str {M : Nat → Prop} {w : World} {v : Value} {bs : Hw.Bytes} (h : RdB M w v bs) : (convert 22 9 v).run Tryd.prog w = .ok (.string (strB bs)) w := by
  by_cases hn : 0 < bs.length
  · obtain ⟨b, o, c, rfl, _, _, _, _, hc⟩ := h.at hn
    rw [run_convert_bytes_arg w 22 5 Tryd.underlying22 Tryd.underlying5 b o bs.length c (bs.map fun c => (c.toNat : Int)) (by simp) (fun i hi => by
      rw [hc i _ (List.getElem?_eq_getElem hi)]
      simp [List.getD, List.getElem?_eq_getElem hi]) 9 Tryd.underlying9, strOfNums_u8]
  · have : bs = [] := List.eq_nil_of_length_eq_zero (by omega)
    subst this
    obtain ⟨A, c, rfl, h0, h1, h2, h3, h4⟩ := h
    cases A with
    | none => exact run_convert_bytes_nil w _ _ Tryd.underlying22 Tryd.underlying5 _ _ _ Tryd.underlying9
    | some ad =>
      obtain ⟨g1, g2, g3, g4⟩ := h4 ad rfl
      have ha : ad = ⟨ad.block, ad.off, none⟩ := by cases ad; simp_all
      rw [ha]
      exact run_convert_bytes_arg w 22 5 Tryd.underlying22 Tryd.underlying5 ad.block ad.off 0 c [] rfl (fun i hi => by omega) 9 Tryd.underlying9
/-- A literal's row. -/
theorem RdB.lit (M : Nat → Prop) (w : World) (bs : Hw.Bytes) (e : TypeId) (fr : Nat × Nat) (hM : ¬ M w.heap.size) (hm : bs.length ≤ maxLen) :
    RdB M (w.alloc (.cells (u8s bs).toArray e fr)) (.slice (some ⟨w.heap.size, 0, none⟩) bs.length bs.length) bs := by
  refine ⟨_, _, rfl, by simp [u8s_length], Nat.le_refl _, hm, fun h => (by cases h), fun ad h => ?_⟩
  cases h
  refine ⟨rfl, hM, by simp, fun i x hx => ?_⟩
  have hb : (w.alloc (.cells (u8s bs).toArray e fr)).heap[w.heap.size]? = some (.cells (u8s bs).toArray e fr) := by
    show (w.heap.push _)[w.heap.size]? = _
    simp
  unfold World.cell?
  simp only [hb]
  simpa using hx
theorem litc (w : World) (C : Array Value) (n c : Nat) : (convert 22 22 (.slice (some ⟨w.heap.size, 0, none⟩) n c)).run Tryd.prog (w.alloc (.cells C 5)) = .ok (.slice (some ⟨w.heap.size, 0, none⟩) n c) (w.alloc (.cells C 5 (C.size, C.size + 1))) :=
  Lib.run_convert_bytes_const w 22 5 C n c Tryd.underlying22 Tryd.underlying5

theorem IsDisk.wf {w : World} {p : Nat} {d : Hw.HDisk} {F : Nat → Prop} (h : IsDisk w p d F) : Hw.HDisk.WF d := by obtain ⟨_, _, _, h⟩ := h; exact h.wf
/-- A disk of the call's own: all its blocks are from B on; below B the world is as w0 was. -/
structure DD (B : Nat) (w0 w : World) (p : Nat) (d : Hw.HDisk) (F : Nat → Prop) : Prop where
  disk : IsDisk w p d F
  own : ∀ b, F b → B ≤ b
  bel : Below B w0 w
  base : B ≤ w0.heap.size
theorem DD.size {B : Nat} {w0 w : World} {p : Nat} {d : Hw.HDisk} {F : Nat → Prop} (h : DD B w0 w p d F) : B ≤ w.heap.size := Nat.le_trans h.base h.bel.size
theorem DD.upd {B : Nat} {w0 w w' : World} {p : Nat} {d : Hw.HDisk} {F G : Nat → Prop} (h : DD B w0 w p d F) (hu : Upd G w w') (hG : ∀ b, G b → B ≤ b ∧ ¬ F b) : DD B w0 w' p d F :=
  ⟨h.disk.upd hu (fun b hb hg => (hG b hg).2 hb), h.own, h.bel.trans (hu.below h.size (fun b hb => (hG b hb).1)), h.base⟩
theorem DD.new {B : Nat} {w0 w w' : World} {p : Nat} {d : Hw.HDisk} {F : Nat → Prop} (h : DD B w0 w p d F) (hu : Upd (fun _ => False) w w') : DD B w0 w' p d F := h.upd hu (fun _ h => h.elim)
theorem DD.below {B : Nat} {w0 w w' : World} {p : Nat} {d : Hw.HDisk} {F : Nat → Prop} (h : DD B w0 w p d F) (hu : Below w.heap.size w w') : DD B w0 w' p d F := h.new (Upd.of_below hu)
theorem DD.of {w0 w w' : World} {n : Int} {e : Ending} (hb : Below w0.heap.size w0 w) (h : OfRet n w e w') :
    ∃ p F, e = .returned (.pointer (some ⟨p, 0, none⟩)) ∧ DD w0.heap.size w0 w' p (Hw.HDisk.new n) F ∧ Below w0.heap.size w0 w' := by
  obtain ⟨p, rfl, h1, h2, h3⟩ := h
  have hb' : Below w0.heap.size w0 w' := hb.trans (h3.mono hb.size)
  exact ⟨p, _, rfl, ⟨h1, fun b hb' => by rcases hb' with rfl | rfl; exact Nat.le_trans hb.size h2; exact hb.size, hb', Nat.le_refl _⟩, hb'⟩
/-- Behind a deed of the disk. -/
def DRet (B : Nat) (w0 : World) (p : Nat) (F : Nat → Prop) (w : World) (v : Value) (d' : Hw.HDisk) (e : Ending) (w' : World) : Prop :=
  e = .returned v ∧ ∃ F', DD B w0 w' p d' F' ∧ (∀ b, F' b → F b ∨ w.heap.size ≤ b) ∧ Upd F w w'
theorem DD.ret {B : Nat} {w0 w w' : World} {p : Nat} {d d' : Hw.HDisk} {F : Nat → Prop} {k : Int} {v : Value} {e : Ending} (h : DD B w0 w p d F) (hr : DiskRet p (k, d') F w e w') (hv : errV k = v) : DRet B w0 p F w v d' e w' := by
  obtain ⟨rfl, F', h1, h2, h3⟩ := hr
  exact ⟨by rw [hv], F', ⟨h1, fun b hb => (h2 b hb).elim (h.own b) (fun h' => Nat.le_trans h.size h'), h.bel.trans (h3.below h.size h.own), h.base⟩, h2, h3⟩
theorem dd_Append {B : Nat} {w0 w : World} {p : Nat} {d d' : Hw.HDisk} {F : Nat → Prop} (h : DD B w0 w p d F) {n : Int} {v : Value} {bs : Hw.Bytes} (hv : RdB F w v bs) (hbl : bs.length ≤ 1000000000000000) {k : Int} (hr : d.append n bs = (k, d')) {r : Value} (hk : errV k = r) :
    Calls Tryd.prog 10 #[.pointer (some ⟨p, 0, none⟩), .int .i64 n, v] w (DRet B w0 p F w r d') :=
  (disk_Append p d F F n v bs w h.disk hv (fun _ h => h) hbl).mono fun e w' hh => h.ret (by rwa [hr] at hh) hk
theorem dd_Sync {B : Nat} {w0 w : World} {p : Nat} {d d' : Hw.HDisk} {F : Nat → Prop} (h : DD B w0 w p d F) {n : Int} {k : Int} (hr : d.sync n = (k, d')) {r : Value} (hk : errV k = r) :
    Calls Tryd.prog 30 #[.pointer (some ⟨p, 0, none⟩), .int .i64 n] w (DRet B w0 p F w r d') :=
  (disk_Sync p d F n w h.disk).mono fun e w' hh => h.ret (by rwa [hr] at hh) hk
theorem dd_Restart {B : Nat} {w0 w : World} {p : Nat} {d d' : Hw.HDisk} {F : Nat → Prop} (h : DD B w0 w p d F) {n : Int} (hr : d.restart n = d') :
    Calls Tryd.prog 28 #[.pointer (some ⟨p, 0, none⟩), .int .i64 n] w (fun e w' => e = .returned (.tuple #[]) ∧ DD B w0 w' p d' F ∧ Upd F w w') :=
  (disk_Restart p d F n w h.disk).mono fun e w' hh => by
    obtain ⟨rfl, h1, h2⟩ := hh
    rw [hr] at h1
    exact ⟨rfl, ⟨h1, h.own, h.bel.trans (h2.below h.size h.own), h.base⟩, h2⟩
theorem dd_Used {B : Nat} {w0 w : World} {p : Nat} {d : Hw.HDisk} {F : Nat → Prop} (h : DD B w0 w p d F) :
    Calls Tryd.prog 13 #[.pointer (some ⟨p, 0, none⟩)] w (fun e w' => e = .returned (.int .i64 (d.used : Nat)) ∧ DD B w0 w' p d F ∧ Upd (fun _ => False) w w') := by
  obtain ⟨bm, clock, Fs, hd⟩ := h.disk
  refine (disk_Used p d F bm clock Fs w hd).mono fun e w' hh => ?_
  exact ⟨hh.1, h.below hh.2, Upd.of_below hh.2⟩
end Go.Proofs.YtihncdlbbhmglaaDoor
