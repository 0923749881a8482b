/- Walks: varint.Put, All. -/
import Derived.Test.YtihncdlbbhmglaaDoorWa
namespace Go.Proofs.YtihncdlbbhmglaaDoor
open Go.RowKit
theorem u8row : (Tryd.prog.info? 5).map (fun i => (i.zero, i.size, i.bytes)) = some (some (.int .u8 0), 1, 1) := by kernel_rfl
theorem u8slice : Tryd.prog.underlying 22 = some (.slice 5) := by kernel_rfl

/-- It returns an owned slice of these cells; of what was there nothing has turned but the row. -/
def OwnRet (base : Nat) (e size n : Nat) (xs : List Value) (v : Value) (w : World) (en : Ending) (w' : World) : Prop :=
  ∃ v', en = .returned v' ∧ w'.ownsRow base e size v' n xs ∧ w.grownBy w' v.ownBlock ∧ (v'.ownBlock = v.ownBlock ∨ ∃ k, v'.ownBlock = some k ∧ w.heap.size ≤ k)
theorem zig_neg {x : Int} (h0 : -9223372036854775808 ≤ x) (h : x < 0) : bits .xor .u64 IntKind.u64.max (IntKind.u64.wrap (IntKind.u64.wrap x * 2)) = ((Hw.zig x : Nat) : Int) := by
  have e : IntKind.u64.wrap (IntKind.u64.wrap x * 2) = (((2 * x) % 18446744073709551616).toNat : Int) := by simp only [IntKind.wrap_u64]; omega
  rw [e]
  have hz : (((2 * x) % 18446744073709551616).toNat) < 18446744073709551616 := by omega
  have h1 := u64_xor_nat 18446744073709551615 _ (by omega) hz
  have h2 : ∀ z : Nat, z < 18446744073709551616 → 18446744073709551615 ^^^ z = 18446744073709551615 - z := by
    intro z hz
    have := congrArg BitVec.toNat (BitVec.allOnes_xor (x := BitVec.ofNat 64 z))
    rw [BitVec.toNat_xor, BitVec.toNat_not, BitVec.toNat_ofNat, Nat.mod_eq_of_lt (by omega)] at this
    simpa using this
  rw [h2 _ hz] at h1
  refine Eq.trans h1 ?_
  unfold Hw.zig; rw [if_pos h]; omega
theorem zig_pos {x : Int} (h1 : x ≤ 9223372036854775807) (h : ¬ x < 0) : IntKind.u64.wrap (IntKind.u64.wrap x * 2) = ((Hw.zig x : Nat) : Int) := by
  simp only [IntKind.wrap_u64]
  unfold Hw.zig; rw [if_neg h]; omega
theorem put_low (u : Nat) : bits .or .u8 ((u : Int) % 256) 128 = ((u % 128 + 128 : Nat) : Int) := by
  have e : (u : Int) % 256 = ((u % 256 : Nat) : Int) := by omega
  rw [e]
  have := u8_or_nat (u % 256) 128 (by omega) (by omega)
  refine Eq.trans this ?_
  congr 1
  have : ∀ z : Fin 256, z.val ||| 128 = z.val % 128 + 128 := by decide +kernel
  have := this ⟨u % 256, by omega⟩
  simp only at this; rw [this]; omega
theorem put_last {u : Nat} (hu : u < 128) : (u : Int) % 256 = ((UInt8.ofNat u).toNat : Int) := by
  rw [Hw.ofNat_toNat (by omega)]; omega
def PutRel (base : Nat) (v : Value) (n : Nat) (xs : List Value) (x : Int) (w : World) (t0 t5 : Value) (wr : World) : Prop :=
  ∃ (u k : Nat) (ys : Hw.Bytes), t5 = .int .u64 u ∧ u < 18446744073709551616 ∧ wr.ownsRow base 5 1 t0 (n + k) (xs ++ u8s ys) ∧ ys ++ Hw.putU u = Hw.varPut x ∧ k = ys.length ∧
    w.grownBy wr v.ownBlock ∧ (t0.ownBlock = v.ownBlock ∨ ∃ b, t0.ownBlock = some b ∧ w.heap.size ≤ b)
theorem at_grown {w wr w1 : World} {v t0 v1 : Value} (h1 : w.grownBy wr v.ownBlock) (h2 : t0.ownBlock = v.ownBlock ∨ ∃ b, t0.ownBlock = some b ∧ w.heap.size ≤ b)
    (g1 : wr.grownBy w1 t0.ownBlock) (g2 : v1.ownBlock = t0.ownBlock ∨ ∃ b, v1.ownBlock = some b ∧ wr.heap.size ≤ b) :
    w.grownBy w1 v.ownBlock ∧ (v1.ownBlock = v.ownBlock ∨ ∃ b, v1.ownBlock = some b ∧ w.heap.size ≤ b) := by
  have hs := h1.size
  refine ⟨⟨g1.os.trans h1.os, g1.tape.trans h1.tape, g1.output.trans h1.output, Nat.le_trans hs g1.size, fun k hk hn => ?_⟩, ?_⟩
  · refine (g1.block k (by omega) (fun e => ?_)).trans (h1.block k hk hn)
    rcases h2 with h2 | ⟨b, h2, hb⟩
    · rw [h2] at e; exact hn e
    · rw [h2] at e; cases e; omega
  · rcases g2 with g2 | ⟨b, g2, hb⟩
    · rw [g2]; exact h2
    · exact .inr ⟨b, g2, by omega⟩
theorem varPut_len0 (x : Int) (h0 : -9223372036854775808 ≤ x) (h1 : x ≤ 9223372036854775807) (ys : Hw.Bytes) (u : Nat) (h : ys ++ Hw.putU u = Hw.varPut x) : ys.length ≤ 10 := by
  have := Hw.varPut_len h0 h1
  rw [← h, List.length_append] at this; omega

theorem put_step {v t0 v1 : Value} {k : Nat} {x : Int} {w wr w1 : World} {ys tl : Hw.Bytes} {u : Nat} {c : UInt8}
    (hg : w.grownBy wr v.ownBlock) (ho : t0.ownBlock = v.ownBlock ∨ ∃ b, t0.ownBlock = some b ∧ w.heap.size ≤ b) (hys : ys ++ Hw.putU u = Hw.varPut x) (hk : k = ys.length) (hf : Hw.putU u = c :: tl)
    (o : Obj) (g1 : (wr.alloc o).grownBy w1 t0.ownBlock) (g2 : v1.ownBlock = t0.ownBlock ∨ v1.ownBlock = some (wr.heap.size + 1)) :
    (ys ++ [c]) ++ tl = Hw.varPut x ∧ k + 1 = (ys ++ [c]).length ∧ w.grownBy w1 v.ownBlock ∧ (v1.ownBlock = v.ownBlock ∨ ∃ b, v1.ownBlock = some b ∧ w.heap.size ≤ b) := by
  refine ⟨by rw [← hys, hf]; simp, by simp [hk], ?_⟩
  have ha : wr.grownBy (wr.alloc o) t0.ownBlock := World.grownBy_alloc _ _ _
  refine at_grown hg ho (ha.trans g1) ?_
  rcases g2 with g2 | g2
  · exact .inl g2
  · exact .inr ⟨_, g2, by simp⟩
theorem put_next {base : Nat} {v t0 v1 : Value} {n k : Nat} {xs : List Value} {x : Int} {w wr w1 : World} {ys : Hw.Bytes} {u : Nat}
    (hg : w.grownBy wr v.ownBlock) (ho : t0.ownBlock = v.ownBlock ∨ ∃ b, t0.ownBlock = some b ∧ w.heap.size ≤ b) (hys : ys ++ Hw.putU u = Hw.varPut x) (hk : k = ys.length)
    (hf : Hw.putU u = UInt8.ofNat (u % 128 + 128) :: Hw.putU (u / 128)) {o : Obj} (hown : w1.ownsRow base 5 1 v1 (n + k + 1) (xs ++ (u8s ys ++ [.int .u8 ((u : Int) % 128 + 128)])))
    (g1 : (wr.alloc o).grownBy w1 t0.ownBlock) (g2 : v1.ownBlock = t0.ownBlock ∨ v1.ownBlock = some (wr.heap.size + 1)) (hnx : u / 128 < 18446744073709551616) :
    PutRel base v n xs x w v1 (.int .u64 ((u : Int) / 128)) w1 := by
  obtain ⟨p1, p2, p3, p4⟩ := put_step hg ho hys hk hf o g1 g2
  refine ⟨u / 128, k + 1, ys ++ [UInt8.ofNat (u % 128 + 128)], rfl, hnx, ?_, p1, p2, p3, p4⟩
  rw [u8s_append, ← Nat.add_assoc]
  have : u8s [UInt8.ofNat (u % 128 + 128)] = [.int .u8 ((u : Int) % 128 + 128)] := by simp only [u8s, List.map_cons, List.map_nil]; rw [Hw.ofNat_toNat (by omega)]; rfl
  rw [this]; exact hown
theorem put_end {base : Nat} {v t0 v1 : Value} {n k : Nat} {xs : List Value} {x : Int} {w wr w1 : World} {ys : Hw.Bytes} {u : Nat}
    (hg : w.grownBy wr v.ownBlock) (ho : t0.ownBlock = v.ownBlock ∨ ∃ b, t0.ownBlock = some b ∧ w.heap.size ≤ b) (hys : ys ++ Hw.putU u = Hw.varPut x) (hk : k = ys.length)
    (hf : Hw.putU u = [UInt8.ofNat u]) {o : Obj} (hu : u < 128) (hown : w1.ownsRow base 5 1 v1 (n + k + 1) (xs ++ (u8s ys ++ [.int .u8 (u : Int)])))
    (g1 : (wr.alloc o).grownBy w1 t0.ownBlock) (g2 : v1.ownBlock = t0.ownBlock ∨ v1.ownBlock = some (wr.heap.size + 1)) :
    w1.ownsRow base 5 1 v1 (n + (Hw.varPut x).length) (xs ++ u8s (Hw.varPut x)) ∧ w.grownBy w1 v.ownBlock ∧ (v1.ownBlock = v.ownBlock ∨ ∃ b, v1.ownBlock = some b ∧ w.heap.size ≤ b) := by
  obtain ⟨p1, p2, p3, p4⟩ := put_step hg ho hys hk hf o g1 g2
  refine ⟨?_, p3, p4⟩
  rw [← p1, List.append_nil, ← p2, u8s_append, ← Nat.add_assoc]
  have : u8s [UInt8.ofNat u] = [.int .u8 (u : Int)] := by simp only [u8s, List.map_cons, List.map_nil]; rw [Hw.ofNat_toNat (by omega)]
  rw [this]; exact hown

set_option maxRecDepth 100000 in
set_option maxHeartbeats 400000 in
theorem varint_Put (base : Nat) (v : Value) (n : Nat) (xs : List Value) (x : Int) (w : World) (hown : w.ownsRow base 5 1 v n xs) (hb : base ≤ w.heap.size) (hn : n ≤ 1000000000000)
    (hx0 : -9223372036854775808 ≤ x) (hx1 : x ≤ 9223372036854775807) :
    Calls Tryd.prog 39 #[v, .int .i64 x] w (OwnRet base 5 1 (n + (Hw.varPut x).length) (xs ++ u8s (Hw.varPut x)) v w) := by
  obtain ⟨i0, hi, hz0, hz1, hz2⟩ := info_parts u8row
  have hzig := Hw.zig_lt hx0 hx1
  have hlen := varPut_len0 x hx0 hx1
  have HL := Lib.hid hlen; clear hlen
  have e1 : x < 0 → bits .xor .u64 IntKind.u64.max (IntKind.u64.wrap (IntKind.u64.wrap x * 2)) = ((Hw.zig x : Nat) : Int) := zig_neg hx0
  have e2 : ¬ x < 0 → IntKind.u64.wrap (IntKind.u64.wrap x * 2) = ((Hw.zig x : Nat) : Int) := zig_pos hx1
  have hstart : PutRel base v n xs x w v (.int .u64 (Hw.zig x : Nat)) w := ⟨Hw.zig x, 0, [], rfl, hzig, by simpa [u8s] using hown, rfl, rfl, ⟨rfl, rfl, rfl, Nat.le_refl _, fun _ _ _ => rfl⟩, .inl rfl⟩
  clear hx0 hx1 hzig hown
  by_cases hneg : x < 0
  all_goals
    first | (have e := e1 hneg; clear e1 e2) | (have e := e2 hneg; clear e1 e2)
    go_enter Tryd.func39, Tryd.ntmps39
    go_wp2
    go_loopw [0, 5] (fun t0 t5 wr => PutRel base v n xs x w t0 t5 wr) (fun _ u _ => (intOf u).toNat)
    case atStart => exact hstart
    case round =>
      clear e hstart
      obtain ⟨u, k, ys, rfl, hu, hown, hys, hk, hg, ho⟩ := hrel
      have hk10 := HL.out ys u hys
      have hsz : w.heap.size ≤ _ := hg.size
      have HYS := Lib.hid hys; clear hys
      have HG := Lib.hid hg; clear hg
      have HO := Lib.hid ho; clear ho
      have hk' : k ≤ 10 := by omega
      have HK := Lib.hid hk; clear hk
      by_cases hge : 128 ≤ u
      · have hlow := put_low u
        have hnx : u / 128 < 18446744073709551616 := by omega
        have hfin := Hw.putU_ge hge
        have HF := Lib.hid hfin; clear hfin
        clear hu
        go_wp2_with (at_builtin; refine wpAppend _ rfl _ _ 22 rfl base 5 i0 (.int .u8 0) 1 1 u8slice hi hz0 hz1 hz2 rfl (by decide) _ _ _ rfl (hown.alloc _) (fun _ => False) _ 1 _ rfl (RdC.made _ 1 1 _ _ rfl (by decide) (fun h => h)) ?_ ?_ ?_ ?_ ?_)
        · simp [Value.oneCell']
        · unfold maxLen; omega
        · omega
        · simp; omega
        · intro v1 w1 hown1 hg1 hat1
          have hrel := put_next HG.out HO.out HYS.out HK.out HF.out hown1 hg1 hat1 hnx
          have HR := Lib.hid hrel; clear hrel hown1 hg1 hat1 hown
          go_wp2
          go_roundw
          case rel => exact HR.out
          case measure => simp [intOf]; omega
      · have hlast := put_last (u := u) (by omega)
        have hfin := Hw.putU_lt (u := u) (by omega)
        have HF := Lib.hid hfin; clear hfin
        clear hu
        go_wp2_with (at_builtin; refine wpAppend _ rfl _ _ 22 rfl base 5 i0 (.int .u8 0) 1 1 u8slice hi hz0 hz1 hz2 rfl (by decide) _ _ _ rfl (hown.alloc _) (fun _ => False) _ 1 _ rfl (RdC.made _ 1 1 _ _ rfl (by decide) (fun h => h)) ?_ ?_ ?_ ?_ ?_)
        · simp [Value.oneCell']
        · unfold maxLen; omega
        · omega
        · simp; omega
        · intro v1 w1 hown1 hg1 hat1
          have hrel := put_end HG.out HO.out HYS.out HK.out HF.out (by omega) hown1 hg1 hat1
          have HR := Lib.hid hrel; clear hrel hown1 hg1 hat1 hown
          go_wp2
          go_ret
          exact ⟨_, rfl, HR.out⟩
end Go.Proofs.YtihncdlbbhmglaaDoor
