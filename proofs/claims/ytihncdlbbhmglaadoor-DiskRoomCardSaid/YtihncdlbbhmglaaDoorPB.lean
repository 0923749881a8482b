/- Plain laws of crc, varint and frame: what is made is read again. -/
import Derived.Test.YtihncdlbbhmglaaDoorPA
namespace Hw

theorem ofNat_toNat {n : Nat} (h : n < 256) : (UInt8.ofNat n).toNat = n := by
  rw [UInt8.toNat_ofNat']; omega

/-! ### varint -/
theorem putU_lt {u : Nat} (h : u < 128) : putU u = [UInt8.ofNat u] := by
  rw [putU]; simp; omega
theorem putU_ge {u : Nat} (h : 128 ≤ u) : putU u = UInt8.ofNat (u % 128 + 128) :: putU (u / 128) := by
  rw [putU]; simp [h]
theorem getGo_put (v : Nat) : ∀ (k u : Nat) (rest : Bytes), (k ≤ 8 → v < 2 ^ (64 - 7 * k)) → k ≤ 9 → (k = 9 → v ≤ 1) → (0 < k → 0 < v) →
    varGetGo k u (putU v ++ rest) = some (unzig (u + v * 2 ^ (7 * k)), rest) := by
  induction v using Nat.strongRecOn with
  | _ v ih =>
    intro k u rest h1 h9 h2 h3
    by_cases hv : 128 ≤ v
    · rw [putU_ge hv]
      have hk : k ≤ 8 := by
        rcases Nat.lt_or_ge k 9 with h | h
        · omega
        · have := h2 (by omega); omega
      have hb : (UInt8.ofNat (v % 128 + 128)).toNat = v % 128 + 128 := ofNat_toNat (by omega)
      have h1' := h1 hk
      have hp : 2 ^ (64 - 7 * k) = 128 * 2 ^ (64 - 7 * (k + 1)) ∨ (k = 9) := by
        left
        rw [show (128 : Nat) = 2 ^ 7 from rfl, ← Nat.pow_add]; congr 1; omega
      have hp := hp.resolve_right (by omega)
      have hq : 2 ^ (7 * (k + 1)) = 2 ^ (7 * k) * 128 := by rw [show 7 * (k + 1) = 7 * k + 7 by omega, Nat.pow_add]
      have := ih (v / 128) (by omega) (k + 1) (u + v % 128 * 2 ^ (7 * k)) rest
        (fun hk' => by rw [hp] at h1'; exact Nat.div_lt_of_lt_mul (by rw [Nat.mul_comm] at h1' ⊢; exact h1')) (by omega)
        (fun hk' => by
          have : k = 8 := by omega
          subst this; omega)
        (fun _ => by omega)
      simp only [List.cons_append, varGetGo, hb]
      rw [if_neg (by omega), if_neg (by omega), if_pos (by omega), show (v % 128 + 128) % 128 = v % 128 by omega, this]
      have e : v % 128 * 2 ^ (7 * k) + v / 128 * 2 ^ (7 * (k + 1)) = v * 2 ^ (7 * k) := by
        rw [hq, ← Nat.mul_assoc, Nat.mul_right_comm, ← Nat.add_mul]
        congr 1; omega
      rw [Nat.add_assoc, e]
    · rw [putU_lt (by omega)]
      have hb : (UInt8.ofNat v).toNat = v := ofNat_toNat (by omega)
      simp only [List.cons_append, List.nil_append, varGetGo, hb]
      rw [if_neg (by omega), if_neg (by intro ⟨h, h'⟩; have := h2 h; omega), if_neg (by omega), if_neg (by intro ⟨h, h'⟩; have := h3 h; omega), Nat.mod_eq_of_lt (by omega)]
theorem unzig_zig (n : Int) : unzig (zig n) = n := by
  unfold unzig zig
  by_cases h : n < 0
  · rw [if_pos h, if_pos (by omega)]; omega
  · rw [if_neg h, if_neg (by omega)]; omega
theorem zig_lt {n : Int} (h0 : -9223372036854775808 ≤ n) (h1 : n ≤ 9223372036854775807) : zig n < 18446744073709551616 := by
  unfold zig; split <;> omega
theorem varGet_put {n : Int} (h0 : -9223372036854775808 ≤ n) (h1 : n ≤ 9223372036854775807) (rest : Bytes) :
    varGet (varPut n ++ rest) = some (n, rest) := by
  unfold varGet varPut
  rw [getGo_put (zig n) 0 0 rest (fun _ => by simpa using zig_lt h0 h1) (by omega) (by omega) (by omega)]
  simp [unzig_zig]

theorem putU_len (k : Nat) : ∀ v : Nat, v < 128 ^ (k + 1) → (putU v).length ≤ k + 1 := by
  induction k with
  | zero => intro v h; rw [putU_lt (by omega)]; simp
  | succ k ih =>
    intro v h
    by_cases hv : 128 ≤ v
    · rw [putU_ge hv]
      have := ih (v / 128) (Nat.div_lt_of_lt_mul (by rw [Nat.mul_comm, ← Nat.pow_succ]; exact h))
      simp; omega
    · rw [putU_lt (by omega)]; simp
theorem varPut_len {n : Int} (h0 : -9223372036854775808 ≤ n) (h1 : n ≤ 9223372036854775807) : (varPut n).length ≤ 10 :=
  putU_len 9 _ (Nat.lt_of_lt_of_le (zig_lt h0 h1) (by decide))
theorem putU_pos (v : Nat) : 0 < (putU v).length := by
  by_cases hv : 128 ≤ v
  · rw [putU_ge hv]; simp
  · rw [putU_lt (by omega)]; simp

/-! ### frame -/
theorem crcRound_lt {r : Nat} (h : r < 4294967296) : crcRound r < 4294967296 := by
  unfold crcRound
  split
  · exact Nat.xor_lt_two_pow (n := 32) (by omega) (by omega)
  · omega
theorem crcIter_lt (n : Nat) : ∀ {r : Nat}, r < 4294967296 → crcIter n r < 4294967296 := by
  induction n with
  | zero => exact fun h => h
  | succ n ih => exact fun h => ih (crcRound_lt h)
theorem crcStep_lt {r c : Nat} (h : r < 4294967296) (hc : c < 256) : crcStep r c < 4294967296 :=
  crcIter_lt 8 (Nat.xor_lt_two_pow (n := 32) (by omega) (by omega))
theorem crcFrom_lt (b : Bytes) : ∀ {r : Nat}, r < 4294967296 → crcFrom r b < 4294967296 := by
  induction b with
  | nil => exact fun h => h
  | cons c b ih => exact fun h => ih (crcStep_lt h c.toNat_lt)
theorem crcSum_lt (b : Bytes) : crcSum b < 4294967296 := by unfold crcSum; omega

theorem frameOf_length (b : Bytes) : (frameOf b).length = 6 + b.length := by simp [frameOf, be16, be32]; omega
theorem frameOf_ne (b : Bytes) : frameOf b ≠ [] := by intro h; have := frameOf_length b; rw [h] at this; simp at this; omega
theorem frameOf_drop (b rest : Bytes) : (frameOf b ++ rest).drop 6 = b ++ rest := by simp [frameOf, be16, be32]
theorem nat16_frame {b rest : Bytes} (h : b.length ≤ 16384) : nat16 (frameOf b ++ rest) = b.length := by
  simp only [nat16, frameOf, be16, be32, List.cons_append, List.getD_cons_zero, List.getD_cons_succ]
  rw [ofNat_toNat (by omega), UInt8.toNat_ofNat']; omega
theorem nat32_frame (b rest : Bytes) : nat32 (frameOf b ++ rest) = crcSum b := by
  have := crcSum_lt b
  simp only [nat32, frameOf, be16, be32, List.cons_append, List.nil_append, List.getD_cons_zero, List.getD_cons_succ]
  simp only [UInt8.toNat_ofNat']; omega
theorem frameOne_of {b : Bytes} (h : b.length ≤ 16384) (rest : Bytes) : frameOne (frameOf b ++ rest) = some (b, 6 + b.length) := by
  unfold frameOne
  rw [if_neg (by simp [frameOf_length]; omega), nat16_frame h, if_neg (by simp [frameOf_length]; omega), frameOf_drop, nat32_frame]
  simp
/-- Of a frame whose end is missing nothing is read. -/
theorem frameOne_torn {b : Bytes} (h : b.length ≤ 16384) (n : Nat) (hn : n < 6 + b.length) : frameOne ((frameOf b).take n) = none := by
  unfold frameOne
  by_cases h6 : n < 6
  · rw [if_pos (by simp; omega)]
  · rw [if_neg (by simp [frameOf_length]; omega)]
    have e : (frameOf b).take n = (frameOf b).take 6 ++ ((frameOf b).drop 6).take (n - 6) := by
      rw [show n = 6 + (n - 6) by omega, List.take_add]; simp
    have e16 : nat16 ((frameOf b).take n) = b.length := by
      have h0 := nat16_frame (rest := []) h
      rw [List.append_nil] at h0
      rw [← h0]; unfold nat16
      rw [List.getD_eq_getElem?_getD, List.getD_eq_getElem?_getD, List.getElem?_take_of_lt (by omega), List.getElem?_take_of_lt (by omega)]
      simp [List.getD_eq_getElem?_getD]
    rw [e16, if_pos (by simp [frameOf_length]; omega)]
theorem six (b : Bytes) (h : ¬ b.length < 6) : ∃ a0 a1 a2 a3 a4 a5 r, b = a0 :: a1 :: a2 :: a3 :: a4 :: a5 :: r := by
  match b, h with
  | a0 :: a1 :: a2 :: a3 :: a4 :: a5 :: r, _ => exact ⟨_, _, _, _, _, _, _, rfl⟩
  | [], h => simp at h
  | [_], h => simp at h
  | [_, _], h => simp at h
  | [_, _, _], h => simp at h
  | [_, _, _, _], h => simp at h
  | [_, _, _, _, _], h => simp at h
/-- What is read is what its bytes are made of. -/
theorem frameOne_some {b x : Bytes} {n : Nat} (h : frameOne b = some (x, n)) : x.length ≤ 16384 ∧ n = 6 + x.length ∧ b.take n = frameOf x ∧ n ≤ b.length := by
  unfold frameOne at h
  split at h
  · cases h
  split at h
  · cases h
  split at h
  · cases h
  rename_i h1 h2 h3
  simp only [Option.some.injEq, Prod.mk.injEq] at h
  obtain ⟨rfl, rfl⟩ := h
  have hl : ((b.drop 6).take (nat16 b)).length = nat16 b := by simp; omega
  have h3 : crcSum ((b.drop 6).take (nat16 b)) = nat32 b := Decidable.not_not.1 h3
  refine ⟨by omega, by omega, ?_, by omega⟩
  unfold frameOf
  rw [hl, h3, List.take_add]
  congr 1
  obtain ⟨a0, a1, a2, a3, a4, a5, r, rfl⟩ := six b h1
  clear h1 h2 h3 hl
  have := a0.toNat_lt; have := a1.toNat_lt; have := a2.toNat_lt; have := a3.toNat_lt; have := a4.toNat_lt; have := a5.toNat_lt
  simp only [be16, be32, nat16, nat32, List.getD_cons_zero, List.getD_cons_succ, List.take_succ_cons, List.take_zero, List.cons_append, List.nil_append]
  simp only [List.cons.injEq, and_true]
  refine ⟨?_, ?_, ?_, ?_, ?_, ?_⟩ <;> (apply UInt8.toNat_inj.1; rw [UInt8.toNat_ofNat']; omega)

/-! ### scan -/
def frames (rs : List Bytes) : Bytes := rs.flatMap frameOf
@[simp] theorem frames_nil : frames [] = [] := rfl
@[simp] theorem frames_cons (r : Bytes) (rs : List Bytes) : frames (r :: rs) = frameOf r ++ frames rs := by simp [frames]
@[simp] theorem frames_append (rs qs : List Bytes) : frames (rs ++ qs) = frames rs ++ frames qs := by simp [frames]
theorem scanGo_frames : ∀ (rs : List Bytes) (f : Nat) (t : Bytes), (∀ r ∈ rs, r.length ≤ 16384) → frameOne t = none → rs.length < f →
    scanGo f (frames rs ++ t) = (rs, (frames rs).length) := by
  intro rs
  induction rs with
  | nil =>
    intro f t _ ht hf
    obtain ⟨f, rfl⟩ : ∃ g, f = g + 1 := ⟨f - 1, by simp at hf; omega⟩
    simp [scanGo, ht]
  | cons r rs ih =>
    intro f t hr ht hf
    obtain ⟨f, rfl⟩ : ∃ g, f = g + 1 := ⟨f - 1, by simp at hf; omega⟩
    have hr0 := hr r (by simp)
    have hi := ih f t (fun x hx => hr x (by simp [hx])) ht (by simp at hf; omega)
    rw [frames_cons, List.append_assoc]
    have hd : (frameOf r ++ (frames rs ++ t)).drop (6 + r.length) = frames rs ++ t := by
      rw [← frameOf_length]; simp
    simp only [scanGo, frameOne_of hr0, hd, hi]
    simp [frameOf_length]
theorem frames_length_ge (rs : List Bytes) : rs.length ≤ (frames rs).length := by
  induction rs with
  | nil => simp
  | cons r rs ih => rw [frames_cons, List.length_append, frameOf_length]; simp; omega
theorem scan_frames {rs : List Bytes} {t : Bytes} (hr : ∀ r ∈ rs, r.length ≤ 16384) (ht : frameOne t = none) :
    frameScan (frames rs ++ t) = (rs, (frames rs).length) :=
  scanGo_frames rs _ t hr ht (by have := frames_length_ge rs; simp; omega)
theorem frameOne_nil : frameOne [] = none := by simp [frameOne]
theorem scan_frames' {rs : List Bytes} (hr : ∀ r ∈ rs, r.length ≤ 16384) : frameScan (frames rs) = (rs, (frames rs).length) := by
  have := scan_frames hr frameOne_nil
  simpa using this
/-- What is scanned is what stands there. -/
theorem scanGo_sound : ∀ (f : Nat) (b : Bytes), (∀ r ∈ (scanGo f b).1, r.length ≤ 16384) ∧ b.take (scanGo f b).2 = frames (scanGo f b).1 ∧ (scanGo f b).2 ≤ b.length := by
  intro f
  induction f with
  | zero => intro b; simp [scanGo]
  | succ f ih =>
    intro b
    unfold scanGo
    cases h : frameOne b with
    | none => simp
    | some p =>
      obtain ⟨x, n⟩ := p
      obtain ⟨h1, h2, h3, h4⟩ := frameOne_some h
      obtain ⟨i1, i2, i3⟩ := ih (b.drop n)
      refine ⟨?_, ?_, ?_⟩
      · intro r hr
        simp only [List.mem_cons] at hr
        rcases hr with rfl | hr
        · exact h1
        · exact i1 r hr
      · simp only [frames_cons]; rw [List.take_add, h3, i2]
      · simp only [List.length_drop] at i3; simp only; omega
theorem scan_sound (b : Bytes) : (∀ r ∈ (frameScan b).1, r.length ≤ 16384) ∧ b.take (frameScan b).2 = frames (frameScan b).1 ∧ (frameScan b).2 ≤ b.length := scanGo_sound _ b
/-- A beginning of frames is so many whole ones, and one whose end is missing. -/
theorem frames_take : ∀ (rs : List Bytes) (n : Nat), (∀ r ∈ rs, r.length ≤ 16384) → ∃ k t, k ≤ rs.length ∧ (frames rs).take n = frames (rs.take k) ++ t ∧ frameOne t = none := by
  intro rs
  induction rs with
  | nil => intro n _; exact ⟨0, [], by simp, by simp, frameOne_nil⟩
  | cons r rs ih =>
    intro n hr
    have hr0 := hr r (by simp)
    by_cases hn : n < 6 + r.length
    · refine ⟨0, (frameOf r).take n, by simp, ?_, frameOne_torn hr0 n hn⟩
      rw [frames_cons, List.take_append_of_le_length (by rw [frameOf_length]; omega)]; simp
    · obtain ⟨k, t, hk, he, ht⟩ := ih (n - (6 + r.length)) (fun x hx => hr x (by simp [hx]))
      refine ⟨k + 1, t, by simp; omega, ?_, ht⟩
      rw [frames_cons, List.take_append, List.take_of_length_le (by rw [frameOf_length]; omega), frameOf_length, he]
      simp
theorem scan_take {rs qs : List Bytes} (n : Nat) (hr : ∀ r ∈ rs, r.length ≤ 16384) (hq : ∀ r ∈ qs, r.length ≤ 16384) :
    ∃ k, k ≤ qs.length ∧ (frameScan (frames rs ++ (frames qs).take n)).1 = rs ++ qs.take k := by
  obtain ⟨k, t, hk, he, ht⟩ := frames_take qs n hq
  refine ⟨k, hk, ?_⟩
  rw [he, ← List.append_assoc, ← frames_append, scan_frames _ ht]
  intro r h
  rcases List.mem_append.1 h with h | h
  · exact hr r h
  · exact hq r (List.mem_of_mem_take h)
end Hw
