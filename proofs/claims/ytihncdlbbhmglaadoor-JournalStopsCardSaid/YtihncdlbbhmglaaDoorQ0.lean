/- Texts that build together: PA PB PC PD PE PF PG. -/
set_option linter.unusedVariables false
set_option linter.unusedSimpArgs false
/- The plain mirror of the layers crc, varint, frame, disk, journal: functions on lists and numbers, no Go and no memory. -/
namespace Hw
abbrev Bytes := List UInt8

/-! ### crc -/
def crcRound (r : Nat) : Nat := if r % 2 = 1 then (r / 2) ^^^ 3988292384 else r / 2
def crcIter : Nat → Nat → Nat
  | 0, r => r
  | n + 1, r => crcIter n (crcRound r)
def crcStep (r c : Nat) : Nat := crcIter 8 (r ^^^ c)
def crcFrom (r : Nat) (b : Bytes) : Nat := b.foldl (fun r c => crcStep r c.toNat) r
def crcSum (b : Bytes) : Nat := 4294967295 - crcFrom 4294967295 b

/-! ### varint -/
def zig (n : Int) : Nat := if n < 0 then (-2 * n - 1).toNat else (2 * n).toNat
def unzig (u : Nat) : Int := if u % 2 = 1 then -((u / 2 : Nat) : Int) - 1 else ((u / 2 : Nat) : Int)
def putU (u : Nat) : Bytes := if _h : 128 ≤ u then UInt8.ofNat (u % 128 + 128) :: putU (u / 128) else [UInt8.ofNat u]
def varPut (n : Int) : Bytes := putU (zig n)
def varGetGo : Nat → Nat → Bytes → Option (Int × Bytes)
  | _, _, [] => none
  | k, u, c :: rest =>
    if 10 ≤ k then none
    else if k = 9 ∧ 1 < c.toNat then none
    else if 128 ≤ c.toNat then varGetGo (k + 1) (u + c.toNat % 128 * 2 ^ (7 * k)) rest
    else if 0 < k ∧ c.toNat = 0 then none
    else some (unzig (u + c.toNat % 128 * 2 ^ (7 * k)), rest)
def varGet (b : Bytes) : Option (Int × Bytes) := varGetGo 0 0 b
def varAll (ns : List Int) : Bytes := ns.flatMap varPut

/-! ### frame -/
def be16 (n : Nat) : Bytes := [UInt8.ofNat (n / 256), UInt8.ofNat n]
def be32 (s : Nat) : Bytes := [UInt8.ofNat (s / 16777216), UInt8.ofNat (s / 65536), UInt8.ofNat (s / 256), UInt8.ofNat s]
def frameOf (b : Bytes) : Bytes := be16 b.length ++ be32 (crcSum b) ++ b
def frameMake (b : Bytes) : Option Bytes := if 16384 < b.length then none else some (frameOf b)
def nat16 (b : Bytes) : Nat := (b.getD 0 0).toNat * 256 + (b.getD 1 0).toNat
def nat32 (b : Bytes) : Nat := (b.getD 2 0).toNat * 16777216 + (b.getD 3 0).toNat * 65536 + (b.getD 4 0).toNat * 256 + (b.getD 5 0).toNat
def frameOne (b : Bytes) : Option (Bytes × Nat) :=
  if b.length < 6 then none
  else if 16384 < nat16 b ∨ b.length < 6 + nat16 b then none
  else if crcSum ((b.drop 6).take (nat16 b)) ≠ nat32 b then none
  else some ((b.drop 6).take (nat16 b), 6 + nat16 b)
def scanGo : Nat → Bytes → List Bytes × Nat
  | 0, _ => ([], 0)
  | f + 1, b => match frameOne b with
    | none => ([], 0)
    | some (x, n) => (x :: (scanGo f (b.drop n)).1, n + (scanGo f (b.drop n)).2)
def frameScan (b : Bytes) : List Bytes × Nat := scanGo (b.length + 1) b

/-! ### disk -/
structure HFile where
  bytes : Bytes
  safe : Nat
  deriving DecidableEq
structure HDisk where
  files : List (Int × HFile)
  room : Nat
  left : Int
  stopped : Bool
  deriving DecidableEq
namespace HDisk
def new (room : Int) : HDisk := ⟨[], (max 0 (min room 262144)).toNat, -1, false⟩
def find (d : HDisk) (n : Int) : Option HFile := d.files.lookup n
def used (d : HDisk) : Nat := (d.files.map fun p => p.2.bytes.length).sum
/-- `works`: the disk behind it; whether the change is done is `!stopped`. -/
def works (d : HDisk) : HDisk := { d with stopped := d.stopped || d.left == 0, left := if 0 < d.left then d.left - 1 else d.left }
def setAt : List (Int × HFile) → Int → HFile → List (Int × HFile)
  | [], n, f => [(n, f)]
  | p :: l, n, f => if p.1 = n then (n, f) :: l else p :: setAt l n f
def delAt (l : List (Int × HFile)) (n : Int) : List (Int × HFile) := l.filter fun p => p.1 != n
def put (d : HDisk) (n : Int) (f : HFile) : HDisk := { d with files := setAt d.files n f }
def del (d : HDisk) (n : Int) : HDisk := { d with files := delAt d.files n }
def arm (d : HDisk) (n : Int) : HDisk := { d with left := max 0 n }
def append (d : HDisk) (n : Int) (b : Bytes) : Int × HDisk :=
  if d.stopped then (12, d)
  else if d.room < d.used + b.length then (8, d)
  else
    let f := (d.find n).getD ⟨[], 0⟩
    (if d.works.stopped then 12 else 0, d.works.put n ⟨f.bytes ++ b, f.safe⟩)
def sync (d : HDisk) (n : Int) : Int × HDisk :=
  if d.stopped then (12, d)
  else match d.find n with
    | none => (2, d)
    | some f => if d.works.stopped then (12, d.works) else (0, d.works.put n ⟨f.bytes, f.bytes.length⟩)
def rename (d : HDisk) (a b : Int) : Int × HDisk :=
  if d.stopped then (12, d)
  else match d.find a with
    | none => (2, d)
    | some f => if d.works.stopped then (12, d.works) else (0, (d.works.del a).put b f)
def remove (d : HDisk) (n : Int) : Int × HDisk :=
  if d.stopped then (12, d)
  else match d.find n with
    | none => (2, d)
    | some _ => if d.works.stopped then (12, d.works) else (0, d.works.del n)
def cut (d : HDisk) (n m : Int) : Int × HDisk :=
  if d.stopped then (12, d)
  else match d.find n with
    | none => (2, d)
    | some f =>
      if m < 0 ∨ (f.bytes.length : Int) < m then (13, d)
      else if d.works.stopped then (12, d.works) else (0, d.works.put n ⟨f.bytes.take m.toNat, m.toNat⟩)
def read (d : HDisk) (n : Int) : Option Bytes := (d.find n).map (·.bytes)
def insertSorted (x : Int) : List Int → List Int
  | [] => [x]
  | y :: l => if x ≤ y then x :: y :: l else y :: insertSorted x l
def sortInts (l : List Int) : List Int := l.foldr insertSorted []
def names (d : HDisk) : List Int := sortInts (d.files.map (·.1))
def keepOf (keep : Int) (f : HFile) : HFile :=
  let m := f.safe + (keep % ((f.bytes.length - f.safe : Nat) + 1 : Int)).toNat
  ⟨f.bytes.take m, m⟩
def restart (d : HDisk) (keep : Int) : HDisk := { d with files := d.files.map fun p => (p.1, keepOf keep p.2), stopped := false, left := -1 }
end HDisk

/-! ### journal -/
/-- An int of 64 bits wraps round. -/
def w64 (x : Int) : Int := (x + 9223372036854775808) % 18446744073709551616 - 9223372036854775808
structure HJ where
  turn : Int
  base : Bytes
  records : List Bytes
  broken : Bool
  deriving DecidableEq
namespace HJ
def removeAll (keep : Int) : List Int → HDisk → Int × HDisk
  | [], d => (0, d)
  | n :: l, d => if n ≠ 0 ∧ n ≠ keep then
      (let r := d.remove n; if r.1 ≠ 0 then r else removeAll keep l r.2)
    else removeAll keep l d
/-- `Open`: the error (0: none), the journal, and the disk. -/
def openRest (d : HDisk) (turn : Int) (base : Bytes) : Int × HJ × HDisk :=
  let r := removeAll (w64 (2 + turn)) d.names d
  if r.1 ≠ 0 then (r.1, ⟨0, [], [], false⟩, r.2)
  else
    let s := frameScan ((r.2.read (w64 (2 + turn))).getD [])
    match r.2.read (w64 (2 + turn)) with
    | none => (0, ⟨turn, base, s.1, false⟩, r.2)
    | some b =>
      if s.2 < b.length then
        (let c := r.2.cut (w64 (2 + turn)) s.2; if c.1 ≠ 0 then (c.1, ⟨0, [], [], false⟩, c.2) else (0, ⟨turn, base, s.1, false⟩, c.2))
      else (0, ⟨turn, base, s.1, false⟩, r.2)
def openD (d : HDisk) : Int × HJ × HDisk :=
  match d.read 0 with
  | none => openRest d 0 []
  | some b =>
    match frameOne b with
    | none => (11, ⟨0, [], [], false⟩, d)
    | some (x, n) =>
      if n ≠ b.length then (11, ⟨0, [], [], false⟩, d)
      else match varGet x with
        | none => (11, ⟨0, [], [], false⟩, d)
        | some (t, rest) => if t < 1 then (11, ⟨0, [], [], false⟩, d) else openRest d t rest
def fail (j : HJ) (e : Int) : HJ := if e = 12 then { j with broken := true } else j
/-- `put`: the error, the journal, the disk. -/
def put (j : HJ) (d : HDisk) (n : Int) (b : Bytes) : Int × HJ × HDisk :=
  let r := d.append n b
  if r.1 ≠ 0 then (r.1, j.fail r.1, r.2)
  else let s := r.2.sync n; (s.1, j.fail s.1, s.2)
def append (j : HJ) (d : HDisk) (rs : List Bytes) : Int × HJ × HDisk :=
  if j.broken then (12, j, d)
  else if rs.any (fun r => decide (16384 < r.length)) then (13, j, d)
  else
    let p := j.put d (w64 (2 + j.turn)) (rs.flatMap frameOf)
    if p.1 ≠ 0 then p else (0, { p.2.1 with records := p.2.1.records ++ rs }, p.2.2)
def save (j : HJ) (d : HDisk) (b : Bytes) : Int × HJ × HDisk :=
  if j.broken then (12, j, d)
  else if 16384 < (varPut (w64 (j.turn + 1)) ++ b).length then (13, j, d)
  else
    let p := j.put d 1 (frameOf (varPut (w64 (j.turn + 1)) ++ b))
    if p.1 ≠ 0 then p
    else
      let r := p.2.2.rename 1 0
      if r.1 ≠ 0 then (r.1, p.2.1.fail r.1, r.2)
      else
        let j' : HJ := ⟨w64 (j.turn + 1), b, [], p.2.1.broken⟩
        match r.2.read (w64 (2 + j.turn)) with
        | none => (0, j', r.2)
        | some _ => let m := r.2.remove (w64 (2 + j.turn)); (m.1, j'.fail m.1, m.2)
end HJ
end Hw

/- Plain laws of crc, varint and frame: what is made is read again. -/
namespace Hw

theorem ofNat_toNat {n : Nat} (h : n < 256) : (UInt8.ofNat n).toNat = n := by
  rw [UInt8.toNat_ofNat']; omega

/-! ### varint -/
theorem putU_lt {u : Nat} (h : u < 128) : putU u = [UInt8.ofNat u] := by
  rw [putU]; simp; omega
theorem putU_ge {u : Nat} (h : 128 ≤ u) : putU u = UInt8.ofNat (u % 128 + 128) :: putU (u / 128) := by
  rw [putU]; simp [h]
theorem getGo_put (v : Nat) : ∀ (k u : Nat) (rest : Bytes), (k ≤ 8 → v < 2 ^ (64 - 7 * k)) → k ≤ 9 → (k = 9 → v ≤ 1) → (0 < k → 0 < v) →
    varGetGo k u (putU v ++ rest) = some (unzig (u + v * 2 ^ (7 * k)), rest) := by
  induction v using Nat.strongRecOn with
  | _ v ih =>
    intro k u rest h1 h9 h2 h3
    by_cases hv : 128 ≤ v
    · rw [putU_ge hv]
      have hk : k ≤ 8 := by
        rcases Nat.lt_or_ge k 9 with h | h
        · omega
        · have := h2 (by omega); omega
      have hb : (UInt8.ofNat (v % 128 + 128)).toNat = v % 128 + 128 := ofNat_toNat (by omega)
      have h1' := h1 hk
      have hp : 2 ^ (64 - 7 * k) = 128 * 2 ^ (64 - 7 * (k + 1)) ∨ (k = 9) := by
        left
        rw [show (128 : Nat) = 2 ^ 7 from rfl, ← Nat.pow_add]; congr 1; omega
      have hp := hp.resolve_right (by omega)
      have hq : 2 ^ (7 * (k + 1)) = 2 ^ (7 * k) * 128 := by rw [show 7 * (k + 1) = 7 * k + 7 by omega, Nat.pow_add]
      have := ih (v / 128) (by omega) (k + 1) (u + v % 128 * 2 ^ (7 * k)) rest
        (fun hk' => by rw [hp] at h1'; exact Nat.div_lt_of_lt_mul (by rw [Nat.mul_comm] at h1' ⊢; exact h1')) (by omega)
        (fun hk' => by
          have : k = 8 := by omega
          subst this; omega)
        (fun _ => by omega)
      simp only [List.cons_append, varGetGo, hb]
      rw [if_neg (by omega), if_neg (by omega), if_pos (by omega), show (v % 128 + 128) % 128 = v % 128 by omega, this]
      have e : v % 128 * 2 ^ (7 * k) + v / 128 * 2 ^ (7 * (k + 1)) = v * 2 ^ (7 * k) := by
        rw [hq, ← Nat.mul_assoc, Nat.mul_right_comm, ← Nat.add_mul]
        congr 1; omega
      rw [Nat.add_assoc, e]
    · rw [putU_lt (by omega)]
      have hb : (UInt8.ofNat v).toNat = v := ofNat_toNat (by omega)
      simp only [List.cons_append, List.nil_append, varGetGo, hb]
      rw [if_neg (by omega), if_neg (by intro ⟨h, h'⟩; have := h2 h; omega), if_neg (by omega), if_neg (by intro ⟨h, h'⟩; have := h3 h; omega), Nat.mod_eq_of_lt (by omega)]
theorem unzig_zig (n : Int) : unzig (zig n) = n := by
  unfold unzig zig
  by_cases h : n < 0
  · rw [if_pos h, if_pos (by omega)]; omega
  · rw [if_neg h, if_neg (by omega)]; omega
theorem zig_lt {n : Int} (h0 : -9223372036854775808 ≤ n) (h1 : n ≤ 9223372036854775807) : zig n < 18446744073709551616 := by
  unfold zig; split <;> omega
theorem varGet_put {n : Int} (h0 : -9223372036854775808 ≤ n) (h1 : n ≤ 9223372036854775807) (rest : Bytes) :
    varGet (varPut n ++ rest) = some (n, rest) := by
  unfold varGet varPut
  rw [getGo_put (zig n) 0 0 rest (fun _ => by simpa using zig_lt h0 h1) (by omega) (by omega) (by omega)]
  simp [unzig_zig]

theorem putU_len (k : Nat) : ∀ v : Nat, v < 128 ^ (k + 1) → (putU v).length ≤ k + 1 := by
  induction k with
  | zero => intro v h; rw [putU_lt (by omega)]; simp
  | succ k ih =>
    intro v h
    by_cases hv : 128 ≤ v
    · rw [putU_ge hv]
      have := ih (v / 128) (Nat.div_lt_of_lt_mul (by rw [Nat.mul_comm, ← Nat.pow_succ]; exact h))
      simp; omega
    · rw [putU_lt (by omega)]; simp
theorem varPut_len {n : Int} (h0 : -9223372036854775808 ≤ n) (h1 : n ≤ 9223372036854775807) : (varPut n).length ≤ 10 :=
  putU_len 9 _ (Nat.lt_of_lt_of_le (zig_lt h0 h1) (by decide))
theorem putU_pos (v : Nat) : 0 < (putU v).length := by
  by_cases hv : 128 ≤ v
  · rw [putU_ge hv]; simp
  · rw [putU_lt (by omega)]; simp

/-! ### frame -/
theorem crcRound_lt {r : Nat} (h : r < 4294967296) : crcRound r < 4294967296 := by
  unfold crcRound
  split
  · exact Nat.xor_lt_two_pow (n := 32) (by omega) (by omega)
  · omega
theorem crcIter_lt (n : Nat) : ∀ {r : Nat}, r < 4294967296 → crcIter n r < 4294967296 := by
  induction n with
  | zero => exact fun h => h
  | succ n ih => exact fun h => ih (crcRound_lt h)
theorem crcStep_lt {r c : Nat} (h : r < 4294967296) (hc : c < 256) : crcStep r c < 4294967296 :=
  crcIter_lt 8 (Nat.xor_lt_two_pow (n := 32) (by omega) (by omega))
theorem crcFrom_lt (b : Bytes) : ∀ {r : Nat}, r < 4294967296 → crcFrom r b < 4294967296 := by
  induction b with
  | nil => exact fun h => h
  | cons c b ih => exact fun h => ih (crcStep_lt h c.toNat_lt)
theorem crcSum_lt (b : Bytes) : crcSum b < 4294967296 := by unfold crcSum; omega

theorem frameOf_length (b : Bytes) : (frameOf b).length = 6 + b.length := by simp [frameOf, be16, be32]; omega
theorem frameOf_ne (b : Bytes) : frameOf b ≠ [] := by intro h; have := frameOf_length b; rw [h] at this; simp at this; omega
theorem frameOf_drop (b rest : Bytes) : (frameOf b ++ rest).drop 6 = b ++ rest := by simp [frameOf, be16, be32]
theorem nat16_frame {b rest : Bytes} (h : b.length ≤ 16384) : nat16 (frameOf b ++ rest) = b.length := by
  simp only [nat16, frameOf, be16, be32, List.cons_append, List.getD_cons_zero, List.getD_cons_succ]
  rw [ofNat_toNat (by omega), UInt8.toNat_ofNat']; omega
theorem nat32_frame (b rest : Bytes) : nat32 (frameOf b ++ rest) = crcSum b := by
  have := crcSum_lt b
  simp only [nat32, frameOf, be16, be32, List.cons_append, List.nil_append, List.getD_cons_zero, List.getD_cons_succ]
  simp only [UInt8.toNat_ofNat']; omega
theorem frameOne_of {b : Bytes} (h : b.length ≤ 16384) (rest : Bytes) : frameOne (frameOf b ++ rest) = some (b, 6 + b.length) := by
  unfold frameOne
  rw [if_neg (by simp [frameOf_length]; omega), nat16_frame h, if_neg (by simp [frameOf_length]; omega), frameOf_drop, nat32_frame]
  simp
/-- Of a frame whose end is missing nothing is read. -/
theorem frameOne_torn {b : Bytes} (h : b.length ≤ 16384) (n : Nat) (hn : n < 6 + b.length) : frameOne ((frameOf b).take n) = none := by
  unfold frameOne
  by_cases h6 : n < 6
  · rw [if_pos (by simp; omega)]
  · rw [if_neg (by simp [frameOf_length]; omega)]
    have e : (frameOf b).take n = (frameOf b).take 6 ++ ((frameOf b).drop 6).take (n - 6) := by
      rw [show n = 6 + (n - 6) by omega, List.take_add]; simp
    have e16 : nat16 ((frameOf b).take n) = b.length := by
      have h0 := nat16_frame (rest := []) h
      rw [List.append_nil] at h0
      rw [← h0]; unfold nat16
      rw [List.getD_eq_getElem?_getD, List.getD_eq_getElem?_getD, List.getElem?_take_of_lt (by omega), List.getElem?_take_of_lt (by omega)]
      simp [List.getD_eq_getElem?_getD]
    rw [e16, if_pos (by simp [frameOf_length]; omega)]
theorem six (b : Bytes) (h : ¬ b.length < 6) : ∃ a0 a1 a2 a3 a4 a5 r, b = a0 :: a1 :: a2 :: a3 :: a4 :: a5 :: r := by
  match b, h with
  | a0 :: a1 :: a2 :: a3 :: a4 :: a5 :: r, _ => exact ⟨_, _, _, _, _, _, _, rfl⟩
  | [], h => simp at h
  | [_], h => simp at h
  | [_, _], h => simp at h
  | [_, _, _], h => simp at h
  | [_, _, _, _], h => simp at h
  | [_, _, _, _, _], h => simp at h
/-- What is read is what its bytes are made of. -/
theorem frameOne_some {b x : Bytes} {n : Nat} (h : frameOne b = some (x, n)) : x.length ≤ 16384 ∧ n = 6 + x.length ∧ b.take n = frameOf x ∧ n ≤ b.length := by
  unfold frameOne at h
  split at h
  · cases h
  split at h
  · cases h
  split at h
  · cases h
  rename_i h1 h2 h3
  simp only [Option.some.injEq, Prod.mk.injEq] at h
  obtain ⟨rfl, rfl⟩ := h
  have hl : ((b.drop 6).take (nat16 b)).length = nat16 b := by simp; omega
  have h3 : crcSum ((b.drop 6).take (nat16 b)) = nat32 b := Decidable.not_not.1 h3
  refine ⟨by omega, by omega, ?_, by omega⟩
  unfold frameOf
  rw [hl, h3, List.take_add]
  congr 1
  obtain ⟨a0, a1, a2, a3, a4, a5, r, rfl⟩ := six b h1
  clear h1 h2 h3 hl
  have := a0.toNat_lt; have := a1.toNat_lt; have := a2.toNat_lt; have := a3.toNat_lt; have := a4.toNat_lt; have := a5.toNat_lt
  simp only [be16, be32, nat16, nat32, List.getD_cons_zero, List.getD_cons_succ, List.take_succ_cons, List.take_zero, List.cons_append, List.nil_append]
  simp only [List.cons.injEq, and_true]
  refine ⟨?_, ?_, ?_, ?_, ?_, ?_⟩ <;> (apply UInt8.toNat_inj.1; rw [UInt8.toNat_ofNat']; omega)

/-! ### scan -/
def frames (rs : List Bytes) : Bytes := rs.flatMap frameOf
@[simp] theorem frames_nil : frames [] = [] := rfl
@[simp] theorem frames_cons (r : Bytes) (rs : List Bytes) : frames (r :: rs) = frameOf r ++ frames rs := by simp [frames]
@[simp] theorem frames_append (rs qs : List Bytes) : frames (rs ++ qs) = frames rs ++ frames qs := by simp [frames]
theorem scanGo_frames : ∀ (rs : List Bytes) (f : Nat) (t : Bytes), (∀ r ∈ rs, r.length ≤ 16384) → frameOne t = none → rs.length < f →
    scanGo f (frames rs ++ t) = (rs, (frames rs).length) := by
  intro rs
  induction rs with
  | nil =>
    intro f t _ ht hf
    obtain ⟨f, rfl⟩ : ∃ g, f = g + 1 := ⟨f - 1, by simp at hf; omega⟩
    simp [scanGo, ht]
  | cons r rs ih =>
    intro f t hr ht hf
    obtain ⟨f, rfl⟩ : ∃ g, f = g + 1 := ⟨f - 1, by simp at hf; omega⟩
    have hr0 := hr r (by simp)
    have hi := ih f t (fun x hx => hr x (by simp [hx])) ht (by simp at hf; omega)
    rw [frames_cons, List.append_assoc]
    have hd : (frameOf r ++ (frames rs ++ t)).drop (6 + r.length) = frames rs ++ t := by
      rw [← frameOf_length]; simp
    simp only [scanGo, frameOne_of hr0, hd, hi]
    simp [frameOf_length]
theorem frames_length_ge (rs : List Bytes) : rs.length ≤ (frames rs).length := by
  induction rs with
  | nil => simp
  | cons r rs ih => rw [frames_cons, List.length_append, frameOf_length]; simp; omega
theorem scan_frames {rs : List Bytes} {t : Bytes} (hr : ∀ r ∈ rs, r.length ≤ 16384) (ht : frameOne t = none) :
    frameScan (frames rs ++ t) = (rs, (frames rs).length) :=
  scanGo_frames rs _ t hr ht (by have := frames_length_ge rs; simp; omega)
theorem frameOne_nil : frameOne [] = none := by simp [frameOne]
theorem scan_frames' {rs : List Bytes} (hr : ∀ r ∈ rs, r.length ≤ 16384) : frameScan (frames rs) = (rs, (frames rs).length) := by
  have := scan_frames hr frameOne_nil
  simpa using this
/-- What is scanned is what stands there. -/
theorem scanGo_sound : ∀ (f : Nat) (b : Bytes), (∀ r ∈ (scanGo f b).1, r.length ≤ 16384) ∧ b.take (scanGo f b).2 = frames (scanGo f b).1 ∧ (scanGo f b).2 ≤ b.length := by
  intro f
  induction f with
  | zero => intro b; simp [scanGo]
  | succ f ih =>
    intro b
    unfold scanGo
    cases h : frameOne b with
    | none => simp
    | some p =>
      obtain ⟨x, n⟩ := p
      obtain ⟨h1, h2, h3, h4⟩ := frameOne_some h
      obtain ⟨i1, i2, i3⟩ := ih (b.drop n)
      refine ⟨?_, ?_, ?_⟩
      · intro r hr
        simp only [List.mem_cons] at hr
        rcases hr with rfl | hr
        · exact h1
        · exact i1 r hr
      · simp only [frames_cons]; rw [List.take_add, h3, i2]
      · simp only [List.length_drop] at i3; simp only; omega
theorem scan_sound (b : Bytes) : (∀ r ∈ (frameScan b).1, r.length ≤ 16384) ∧ b.take (frameScan b).2 = frames (frameScan b).1 ∧ (frameScan b).2 ≤ b.length := scanGo_sound _ b
/-- A beginning of frames is so many whole ones, and one whose end is missing. -/
theorem frames_take : ∀ (rs : List Bytes) (n : Nat), (∀ r ∈ rs, r.length ≤ 16384) → ∃ k t, k ≤ rs.length ∧ (frames rs).take n = frames (rs.take k) ++ t ∧ frameOne t = none := by
  intro rs
  induction rs with
  | nil => intro n _; exact ⟨0, [], by simp, by simp, frameOne_nil⟩
  | cons r rs ih =>
    intro n hr
    have hr0 := hr r (by simp)
    by_cases hn : n < 6 + r.length
    · refine ⟨0, (frameOf r).take n, by simp, ?_, frameOne_torn hr0 n hn⟩
      rw [frames_cons, List.take_append_of_le_length (by rw [frameOf_length]; omega)]; simp
    · obtain ⟨k, t, hk, he, ht⟩ := ih (n - (6 + r.length)) (fun x hx => hr x (by simp [hx]))
      refine ⟨k + 1, t, by simp; omega, ?_, ht⟩
      rw [frames_cons, List.take_append, List.take_of_length_le (by rw [frameOf_length]; omega), frameOf_length, he]
      simp
theorem scan_take {rs qs : List Bytes} (n : Nat) (hr : ∀ r ∈ rs, r.length ≤ 16384) (hq : ∀ r ∈ qs, r.length ≤ 16384) :
    ∃ k, k ≤ qs.length ∧ (frameScan (frames rs ++ (frames qs).take n)).1 = rs ++ qs.take k := by
  obtain ⟨k, t, hk, he, ht⟩ := frames_take qs n hq
  refine ⟨k, hk, ?_⟩
  rw [he, ← List.append_assoc, ← frames_append, scan_frames _ ht]
  intro r h
  rcases List.mem_append.1 h with h | h
  · exact hr r h
  · exact hq r (List.mem_of_mem_take h)
end Hw

/- Plain laws of the disk: what is found behind each deed, how many bytes there are, which names. -/
namespace Hw
namespace HDisk

/-! ### lists of files -/
abbrev Keys (l : List (Int × HFile)) : List Int := l.map (·.1)
abbrev Used (l : List (Int × HFile)) : Nat := (l.map fun p => p.2.bytes.length).sum
theorem lookup_c (p : Int × HFile) (l : List (Int × HFile)) (n : Int) : (p :: l).lookup n = if n = p.1 then some p.2 else l.lookup n := by
  obtain ⟨k, v⟩ := p
  rw [List.lookup_cons]
  by_cases h : n = k
  · subst h; simp
  · have : (n == k) = false := by simp [h]
    rw [this, if_neg h]
theorem lookup_setAt_same (l : List (Int × HFile)) (n : Int) (f : HFile) : (setAt l n f).lookup n = some f := by
  induction l with
  | nil => simp [setAt]
  | cons p l ih =>
    unfold setAt; split
    · simp
    · rename_i h; rw [lookup_c, if_neg (fun e => h e.symm)]; exact ih
theorem lookup_setAt_ne (l : List (Int × HFile)) {n m : Int} (f : HFile) (h : m ≠ n) : (setAt l n f).lookup m = l.lookup m := by
  induction l with
  | nil => simp only [setAt]; rw [lookup_c, if_neg h]
  | cons p l ih =>
    unfold setAt; split
    · rename_i e; subst e; rw [lookup_c, lookup_c, if_neg h, if_neg h]
    · rw [lookup_c, lookup_c, ih]
theorem lookup_delAt_same (l : List (Int × HFile)) (n : Int) : (delAt l n).lookup n = none := by
  unfold delAt
  induction l with
  | nil => simp
  | cons p l ih =>
    rw [List.filter_cons]; split
    · rename_i h; rw [lookup_c, if_neg (by intro e; simp [e] at h)]; exact ih
    · exact ih
theorem lookup_delAt_ne (l : List (Int × HFile)) {n m : Int} (h : m ≠ n) : (delAt l n).lookup m = l.lookup m := by
  unfold delAt
  induction l with
  | nil => simp
  | cons p l ih =>
    rw [List.filter_cons]; split
    · rw [lookup_c, lookup_c, ih]
    · rename_i e
      have e : p.1 = n := by simpa using e
      rw [lookup_c, ih, if_neg (by rw [e]; exact h)]
theorem mem_keys_setAt (l : List (Int × HFile)) (n m : Int) (f : HFile) : m ∈ Keys (setAt l n f) ↔ m = n ∨ m ∈ Keys l := by
  induction l with
  | nil => simp [setAt]
  | cons p l ih =>
    unfold setAt; split
    · rename_i e; subst e; simp
    · simp only [Keys, List.map_cons, List.mem_cons] at ih ⊢; rw [ih]
      constructor
      · rintro (h | h | h) <;> simp [h]
      · rintro (h | h | h) <;> simp [h]
theorem nodup_setAt {l : List (Int × HFile)} (h : (Keys l).Nodup) (n : Int) (f : HFile) : (Keys (setAt l n f)).Nodup := by
  induction l with
  | nil => simp [setAt]
  | cons p l ih =>
    simp only [Keys, List.map_cons, List.nodup_cons] at h
    unfold setAt; split
    · rename_i e; subst e; simpa using h
    · rename_i e
      simp only [Keys, List.map_cons, List.nodup_cons]
      refine ⟨fun hm => ?_, ih h.2⟩
      rcases (mem_keys_setAt l n p.1 f).1 hm with he | hm
      · exact e he
      · exact h.1 hm
theorem nodup_delAt {l : List (Int × HFile)} (h : (Keys l).Nodup) (n : Int) : (Keys (delAt l n)).Nodup :=
  h.sublist ((List.filter_sublist).map _)
theorem mem_keys_delAt (l : List (Int × HFile)) (n m : Int) : m ∈ Keys (delAt l n) ↔ m ≠ n ∧ m ∈ Keys l := by
  simp only [Keys, delAt, List.mem_map, List.mem_filter]
  constructor
  · rintro ⟨p, ⟨hp, hn⟩, rfl⟩; exact ⟨by simpa using hn, p, hp, rfl⟩
  · rintro ⟨hn, p, hp, rfl⟩; exact ⟨p, ⟨hp, by simpa using hn⟩, rfl⟩
theorem mem_keys_iff (l : List (Int × HFile)) (n : Int) : n ∈ Keys l ↔ (l.lookup n).isSome := by
  induction l with
  | nil => simp
  | cons p l ih =>
    simp only [Keys, List.map_cons, List.mem_cons] at ih ⊢
    rw [lookup_c, ih]
    by_cases h : n = p.1
    · simp [h]
    · simp [h]
theorem lookup_none {l : List (Int × HFile)} {n : Int} (h : n ∉ Keys l) : l.lookup n = none := by
  rw [mem_keys_iff] at h
  cases e : l.lookup n with
  | none => rfl
  | some f => rw [e] at h; exact absurd rfl h
def Len (l : List (Int × HFile)) (n : Int) : Nat := ((l.lookup n).map (·.bytes.length)).getD 0
theorem len_c (p : Int × HFile) (l : List (Int × HFile)) (n : Int) : Len (p :: l) n = if n = p.1 then p.2.bytes.length else Len l n := by
  unfold Len; rw [lookup_c]; split <;> simp
theorem used_c (p : Int × HFile) (l : List (Int × HFile)) : Used (p :: l) = p.2.bytes.length + Used l := by simp [Used]
theorem used_setAt (l : List (Int × HFile)) (n : Int) (f : HFile) : Used (setAt l n f) + Len l n = Used l + f.bytes.length := by
  induction l with
  | nil => simp [setAt, Used, Len]
  | cons p l ih =>
    unfold setAt; split
    · rename_i e; subst e; rw [used_c, used_c, len_c, if_pos rfl]; simp only; omega
    · rename_i e
      rw [used_c, used_c, len_c, if_neg (fun h => e h.symm)]; omega
theorem used_delAt {l : List (Int × HFile)} (h : (Keys l).Nodup) (n : Int) : Used (delAt l n) + Len l n = Used l := by
  induction l with
  | nil => simp [delAt, Used, Len]
  | cons p l ih =>
    simp only [Keys, List.map_cons, List.nodup_cons] at h
    have ih := ih h.2
    unfold delAt at ih ⊢
    by_cases e : p.1 = n
    · subst e
      have e2 : (l.filter fun q => q.1 != p.1) = l := by
        apply List.filter_eq_self.2
        intro q hq; simp only [bne_iff_ne, ne_eq]; intro e; apply h.1; rw [← e]; exact List.mem_map.2 ⟨q, hq, rfl⟩
      rw [List.filter_cons, if_neg (by simp), e2, len_c, if_pos rfl, used_c]; omega
    · rw [List.filter_cons, if_pos (by simp [e]), len_c, if_neg (fun h => e h.symm), used_c, used_c]; omega
theorem len_le_used (l : List (Int × HFile)) (n : Int) : Len l n ≤ Used l := by
  induction l with
  | nil => simp [Len]
  | cons p l ih => rw [len_c, used_c]; split <;> omega

/-! ### names -/
theorem mem_insertSorted (x y : Int) (l : List Int) : y ∈ insertSorted x l ↔ y = x ∨ y ∈ l := by
  induction l with
  | nil => simp [insertSorted]
  | cons z l ih =>
    unfold insertSorted; split
    · simp
    · simp only [List.mem_cons, ih]; constructor
      · rintro (h | h | h) <;> simp [h]
      · rintro (h | h | h) <;> simp [h]
theorem mem_sortInts (y : Int) (l : List Int) : y ∈ sortInts l ↔ y ∈ l := by
  induction l with
  | nil => simp [sortInts]
  | cons z l ih => simp only [sortInts, List.foldr_cons] at ih ⊢; rw [mem_insertSorted, ih]; simp
theorem perm_insertSorted (x : Int) (l : List Int) : (insertSorted x l).Perm (x :: l) := by
  induction l with
  | nil => exact .refl _
  | cons y l ih =>
    unfold insertSorted; split
    · exact .refl _
    · exact (ih.cons y).trans (.swap x y l)
theorem perm_sortInts (l : List Int) : (sortInts l).Perm l := by
  induction l with
  | nil => exact .refl _
  | cons y l ih => exact (perm_insertSorted y _).trans (ih.cons y)
theorem pairwise_insertSorted {x : Int} {l : List Int} (h : l.Pairwise (· ≤ ·)) : (insertSorted x l).Pairwise (· ≤ ·) := by
  induction l with
  | nil => simp [insertSorted]
  | cons y l ih =>
    unfold insertSorted; split
    · rename_i hx
      refine List.pairwise_cons.2 ⟨fun z hz => ?_, h⟩
      rcases List.mem_cons.1 hz with rfl | hz
      · exact hx
      · exact Int.le_trans hx ((List.pairwise_cons.1 h).1 z hz)
    · rename_i hx
      refine List.pairwise_cons.2 ⟨fun z hz => ?_, ih (List.pairwise_cons.1 h).2⟩
      rcases (mem_insertSorted x z l).1 hz with rfl | hz
      · omega
      · exact (List.pairwise_cons.1 h).1 z hz
theorem pairwise_sortInts (l : List Int) : (sortInts l).Pairwise (· ≤ ·) := by
  induction l with
  | nil => simp [sortInts]
  | cons y l ih => exact pairwise_insertSorted ih
theorem nodup_names {d : HDisk} (h : (Keys d.files).Nodup) : d.names.Nodup := (perm_sortInts _).nodup_iff.2 h
theorem mem_names (d : HDisk) (n : Int) : n ∈ d.names ↔ (d.find n).isSome := by
  unfold names find; rw [mem_sortInts]; exact mem_keys_iff _ _

/-! ### the deeds -/
/-- The names are told apart; what is safe is there; all has room. -/
structure WF (d : HDisk) : Prop where
  nodup : (Keys d.files).Nodup
  safe : ∀ n f, d.find n = some f → f.safe ≤ f.bytes.length
  room : d.used ≤ d.room
  most : d.room ≤ 262144
theorem find_put_same (d : HDisk) (n : Int) (f : HFile) : (d.put n f).find n = some f := lookup_setAt_same _ _ _
theorem find_put_ne (d : HDisk) {n m : Int} (f : HFile) (h : m ≠ n) : (d.put n f).find m = d.find m := lookup_setAt_ne _ _ h
theorem find_del_same (d : HDisk) (n : Int) : (d.del n).find n = none := lookup_delAt_same _ _
theorem find_del_ne (d : HDisk) {n m : Int} (h : m ≠ n) : (d.del n).find m = d.find m := lookup_delAt_ne _ h
@[simp] theorem find_works (d : HDisk) (n : Int) : d.works.find n = d.find n := rfl
@[simp] theorem used_works (d : HDisk) : d.works.used = d.used := rfl
@[simp] theorem files_works (d : HDisk) : d.works.files = d.files := rfl
@[simp] theorem room_works (d : HDisk) : d.works.room = d.room := rfl
@[simp] theorem room_put (d : HDisk) (n : Int) (f : HFile) : (d.put n f).room = d.room := rfl
@[simp] theorem left_put (d : HDisk) (n : Int) (f : HFile) : (d.put n f).left = d.left := rfl
@[simp] theorem stopped_put (d : HDisk) (n : Int) (f : HFile) : (d.put n f).stopped = d.stopped := rfl
@[simp] theorem room_del (d : HDisk) (n : Int) : (d.del n).room = d.room := rfl
@[simp] theorem left_del (d : HDisk) (n : Int) : (d.del n).left = d.left := rfl
@[simp] theorem stopped_del (d : HDisk) (n : Int) : (d.del n).stopped = d.stopped := rfl
def len (d : HDisk) (n : Int) : Nat := Len d.files n
theorem len_eq (d : HDisk) (n : Int) : d.len n = ((d.find n).map (·.bytes.length)).getD 0 := rfl
theorem len_some {d : HDisk} {n : Int} {f : HFile} (h : d.find n = some f) : d.len n = f.bytes.length := by simp [len_eq, h]
theorem len_none {d : HDisk} {n : Int} (h : d.find n = none) : d.len n = 0 := by simp [len_eq, h]
theorem used_put (d : HDisk) (n : Int) (f : HFile) : (d.put n f).used + d.len n = d.used + f.bytes.length := used_setAt _ _ _
theorem used_del {d : HDisk} (h : (Keys d.files).Nodup) (n : Int) : (d.del n).used + d.len n = d.used := used_delAt h n
theorem len_le (d : HDisk) (n : Int) : d.len n ≤ d.used := len_le_used _ _
/-- A disk that is not armed works on, as it was. -/
theorem works_calm {d : HDisk} (hs : d.stopped = false) (hl : d.left = -1) : d.works = d := by
  cases d; simp only [works] at *; subst hs; subst hl; simp

theorem WF.works {d : HDisk} (h : WF d) : WF d.works := ⟨h.nodup, h.safe, h.room, h.most⟩
theorem WF.put {d : HDisk} (h : WF d) (n : Int) (f : HFile) (hs : f.safe ≤ f.bytes.length) (hr : d.used + f.bytes.length ≤ d.room + d.len n) : WF (d.put n f) :=
  ⟨nodup_setAt h.nodup n f, fun m g hm => by
    by_cases e : m = n
    · subst e; rw [find_put_same] at hm; cases hm; exact hs
    · rw [find_put_ne d f e] at hm; exact h.safe m g hm,
    by have := used_put d n f; simp only [room_put]; omega, h.most⟩
theorem WF.del {d : HDisk} (h : WF d) (n : Int) : WF (d.del n) :=
  ⟨nodup_delAt h.nodup n, fun m g hm => by
    by_cases e : m = n
    · subst e; rw [find_del_same] at hm; cases hm
    · rw [find_del_ne d e] at hm; exact h.safe m g hm,
    by have := used_del h.nodup n; have := h.room; simp only [room_del]; omega, h.most⟩
theorem WF.new (room : Int) : WF (new room) := ⟨by simp [HDisk.new], by simp [HDisk.new, find], by simp [HDisk.new, used], by simp [HDisk.new]; omega⟩
theorem WF.arm {d : HDisk} (h : WF d) (n : Int) : WF (d.arm n) := ⟨h.nodup, h.safe, h.room, h.most⟩
theorem WF.append {d : HDisk} (h : WF d) (n : Int) (b : Bytes) : WF (d.append n b).2 := by
  unfold HDisk.append
  split
  · exact h
  split
  · exact h
  rename_i h1 h2
  refine h.works.put _ _ ?_ ?_
  · cases hf : d.find n with
    | none => simp
    | some f => simp; have := h.safe n f hf; omega
  · cases hf : d.find n with
    | none => simp; omega
    | some f => have := len_some hf; simp [len_eq] at this ⊢; omega
theorem WF.sync {d : HDisk} (h : WF d) (n : Int) : WF (d.sync n).2 := by
  unfold HDisk.sync
  split
  · exact h
  split
  · exact h
  rename_i f hf
  split
  · exact h.works
  · refine h.works.put _ _ (Nat.le_refl _) ?_
    have := len_some hf
    have := h.room
    have e : d.works.len n = d.len n := rfl
    simp only [room_works, used_works] at *; omega
theorem WF.rename {d : HDisk} (h : WF d) (a b : Int) : WF (d.rename a b).2 := by
  unfold HDisk.rename
  split
  · exact h
  split
  · exact h
  rename_i f hf
  split
  · exact h.works
  · refine (h.works.del a).put _ _ (h.safe a f hf) ?_
    have := used_del h.works.nodup a
    have := len_some hf
    have := h.room
    have e : d.works.len a = d.len a := rfl
    simp only [room_del, room_works, used_works] at *; omega
theorem WF.remove {d : HDisk} (h : WF d) (n : Int) : WF (d.remove n).2 := by
  unfold HDisk.remove
  split
  · exact h
  split
  · exact h
  split
  · exact h.works
  · exact h.works.del n
theorem WF.cut {d : HDisk} (h : WF d) (n m : Int) : WF (d.cut n m).2 := by
  unfold HDisk.cut
  split
  · exact h
  split
  · exact h
  rename_i f hf
  split
  · exact h
  split
  · exact h.works
  · rename_i h1 _
    refine h.works.put _ _ (by simp; omega) ?_
    have := len_some hf
    have := h.room
    have e : d.works.len n = d.len n := rfl
    simp only [room_works, used_works, List.length_take] at *; omega
theorem keepOf_safe {keep : Int} {f : HFile} (h : f.safe ≤ f.bytes.length) : (keepOf keep f).safe = (keepOf keep f).bytes.length ∧ f.safe ≤ (keepOf keep f).safe ∧ (keepOf keep f).safe ≤ f.bytes.length := by
  have h1 : 0 ≤ keep % ((f.bytes.length - f.safe : Nat) + 1 : Int) := Int.emod_nonneg _ (by omega)
  have h2 : keep % ((f.bytes.length - f.safe : Nat) + 1 : Int) < ((f.bytes.length - f.safe : Nat) + 1 : Int) := Int.emod_lt_of_pos _ (by omega)
  unfold keepOf; simp only [List.length_take]; omega
theorem lookup_map_snd (g : HFile → HFile) (l : List (Int × HFile)) (n : Int) : (l.map fun p => (p.1, g p.2)).lookup n = (l.lookup n).map g := by
  induction l with
  | nil => simp
  | cons p l ih => rw [List.map_cons, lookup_c, lookup_c, ih]; simp only; split <;> simp
theorem find_restart (d : HDisk) (keep n : Int) : (d.restart keep).find n = (d.find n).map (keepOf keep) := lookup_map_snd _ _ _
theorem WF.restart {d : HDisk} (h : WF d) (keep : Int) : WF (d.restart keep) := by
  refine ⟨?_, ?_, ?_, h.most⟩
  · have : Keys (d.restart keep).files = Keys d.files := by simp [HDisk.restart, Keys]
    rw [this]; exact h.nodup
  · intro n f hf
    rw [find_restart] at hf
    cases hn : d.find n with
    | none => rw [hn] at hf; cases hf
    | some g => rw [hn] at hf; cases hf; exact Nat.le_of_eq (keepOf_safe (h.safe n g hn)).1
  · refine Nat.le_trans ?_ h.room
    simp only [used, HDisk.restart, List.map_map]
    generalize d.files = l
    induction l with
    | nil => simp
    | cons p l ih => simp only [List.map_cons, List.sum_cons, Function.comp]; simp only [keepOf, List.length_take] at ih ⊢; omega
end HDisk
end Hw

/- Plain laws of the journal: what is opened behind a stop, and what each deed makes. -/
namespace Hw
open HDisk

/-- A disk that goes on, and is not armed. -/
def Calm (d : HDisk) : Prop := d.stopped = false ∧ d.left = -1
theorem Calm.works {d : HDisk} (h : Calm d) : d.works = d := works_calm h.1 h.2
theorem Calm.put {d : HDisk} (h : Calm d) (n : Int) (f : HFile) : Calm (d.put n f) := h
theorem Calm.del {d : HDisk} (h : Calm d) (n : Int) : Calm (d.del n) := h
theorem Calm.restart (d : HDisk) (keep : Int) : Calm (d.restart keep) := ⟨rfl, rfl⟩
theorem Calm.new (r : Int) : Calm (HDisk.new r) := ⟨rfl, rfl⟩
theorem remove_calm {d : HDisk} (h : Calm d) {n : Int} (hf : (d.find n).isSome) : d.remove n = (0, d.del n) := by
  unfold HDisk.remove
  rw [h.1, h.works]
  cases e : d.find n with
  | none => rw [e] at hf; cases hf
  | some f => simp [h.1]
theorem removeAll_calm (keep : Int) : ∀ (l : List Int) (d : HDisk), Calm d → WF d → l.Nodup → (∀ n ∈ l, (d.find n).isSome) →
    ∃ d', HJ.removeAll keep l d = (0, d') ∧ Calm d' ∧ WF d' ∧ d'.room = d.room ∧ (∀ n, d'.find n = if n ∈ l ∧ n ≠ 0 ∧ n ≠ keep then none else d.find n) := by
  intro l
  induction l with
  | nil => intro d hc hw _ _; exact ⟨d, rfl, hc, hw, rfl, by simp⟩
  | cons m l ih =>
    intro d hc hw hn hf
    rw [List.nodup_cons] at hn
    unfold HJ.removeAll
    by_cases hm : m ≠ 0 ∧ m ≠ keep
    · rw [if_pos hm]
      simp only [remove_calm hc (hf m (by simp))]
      obtain ⟨d', h1, h2, h3, h4, h5⟩ := ih (d.del m) (hc.del m) (hw.del m) hn.2 (fun n hnl => by
        rw [find_del_ne d (by rintro rfl; exact hn.1 hnl)]; exact hf n (by simp [hnl]))
      refine ⟨d', by simpa using h1, h2, h3, h4, fun n => ?_⟩
      rw [h5]
      by_cases e : n = m
      · subst e; simp [hm, find_del_same]
      · rw [find_del_ne d e]; simp [e]
    · rw [if_neg hm]
      obtain ⟨d', h1, h2, h3, h4, h5⟩ := ih d hc hw hn.2 (fun n hnl => hf n (by simp [hnl]))
      refine ⟨d', h1, h2, h3, h4, fun n => ?_⟩
      rw [h5]
      by_cases e : n = m
      · subst e; simp [hm, hn.1]
      · simp [e]

/-- The snapshot is of this turn, and this base. -/
def Snap (d : HDisk) (t : Int) (b : Bytes) : Prop :=
  (t = 0 ∧ b = [] ∧ d.find 0 = none) ∨ (1 ≤ t ∧ (varPut t ++ b).length ≤ 16384 ∧ ∃ f, d.find 0 = some f ∧ f.bytes = frameOf (varPut t ++ b))
def Small (t : Int) : Prop := 0 ≤ t ∧ t ≤ 4611686018427387904
theorem w64_small {t : Int} (h0 : -9223372036854775808 ≤ t) (h1 : t ≤ 9223372036854775807) : w64 t = t := by unfold w64; omega
theorem open_snap {d : HDisk} {t : Int} {b : Bytes} (hs : Snap d t b) (ht : Small t) : HJ.openD d = HJ.openRest d t b := by
  unfold HJ.openD HDisk.read
  rcases hs with ⟨rfl, rfl, h⟩ | ⟨h1, hl, f, hf, hb⟩
  · rw [h]; rfl
  · rw [hf, Option.map_some, hb]
    have h1' := frameOne_of hl []
    rw [List.append_nil] at h1'
    simp only [h1', frameOf_length]
    have := ht.2
    rw [varGet_put (by omega) (by omega)]
    simp only [ne_eq, not_true_eq_false, if_false]
    rw [if_neg (by omega)]
/-- The bytes of the file of the records. -/
def recBytes (d : HDisk) (t : Int) : Bytes := (d.read (2 + t)).getD []
theorem open_any {d : HDisk} {t : Int} {b : Bytes} (hc : Calm d) (hw : WF d) (hs : Snap d t b) (ht : Small t) :
    ∃ d', HJ.openD d = (0, ⟨t, b, (frameScan (recBytes d t)).1, false⟩, d') ∧ Calm d' ∧ WF d' ∧ d'.room = d.room ∧ d'.find 0 = d.find 0 ∧
      (∀ n, n ≠ 0 → n ≠ 2 + t → d'.find n = none) ∧
      (d'.find (2 + t) = (d.find (2 + t)).map fun f => if (frameScan f.bytes).2 < f.bytes.length then ⟨f.bytes.take (frameScan f.bytes).2, (frameScan f.bytes).2⟩ else f) := by
  rw [open_snap hs ht]
  unfold HJ.openRest
  have := ht.1; have := ht.2
  rw [w64_small (by omega) (by omega)]
  obtain ⟨d', h1, h2, h3, h4, h5⟩ := removeAll_calm (2 + t) d.names d hc hw (nodup_names hw.nodup) (fun n hn => (mem_names d n).1 hn)
  have h50 : d'.find 0 = d.find 0 := by rw [h5, if_neg (by simp)]
  have h5t : d'.find (2 + t) = d.find (2 + t) := by rw [h5, if_neg (by simp)]
  have h5n : ∀ n, n ≠ 0 → n ≠ 2 + t → d'.find n = none := by
    intro n hn hn'
    rw [h5]
    split
    · rfl
    · rename_i h
      cases e : d.find n with
      | none => rfl
      | some f => exact absurd ⟨(mem_names d n).2 (by rw [e]; rfl), hn, hn'⟩ h
  simp only [h1, ne_eq, not_true_eq_false, if_false]
  cases e : d.find (2 + t) with
  | none =>
    have er : d'.read (2 + t) = none := by unfold HDisk.read; rw [h5t, e]; rfl
    have eb : recBytes d t = [] := by unfold recBytes HDisk.read; rw [e]; rfl
    rw [er, eb]
    exact ⟨d', rfl, h2, h3, h4, h50, h5n, by rw [h5t, e]; rfl⟩
  | some f =>
    have er : d'.read (2 + t) = some f.bytes := by unfold HDisk.read; rw [h5t, e]; rfl
    have eb : recBytes d t = f.bytes := by unfold recBytes HDisk.read; rw [e]; rfl
    simp only [er, Option.getD_some, eb, Option.map_some]
    by_cases hlt : (frameScan f.bytes).2 < f.bytes.length
    · rw [if_pos hlt, if_pos hlt]
      have ec : d'.cut (2 + t) ((frameScan f.bytes).2 : Int) = (0, d'.put (2 + t) ⟨f.bytes.take (frameScan f.bytes).2, (frameScan f.bytes).2⟩) := by
        unfold HDisk.cut
        rw [h2.1, h5t, e, h2.works]
        simp only [Bool.false_eq_true, if_false]
        rw [if_neg (by omega), if_neg (by rw [h2.1]; simp)]
        simp
      rw [ec]
      refine ⟨_, rfl, h2.put _ _, ?_, h4, ?_, ?_, find_put_same _ _ _⟩
      · have hx := h3.cut (2 + t) ((frameScan f.bytes).2 : Int)
        rw [ec] at hx; exact hx
      · rw [find_put_ne _ _ (by omega)]; exact h50
      · intro n hn hn'; rw [find_put_ne _ _ hn']; exact h5n n hn hn'
    · rw [if_neg hlt, if_neg hlt]
      exact ⟨d', rfl, h2, h3, h4, h50, h5n, by rw [h5t, e]⟩

/-- The disk has a journal: of this turn, base and records, all of it safe, and nothing else. -/
structure JD (d : HDisk) (t : Int) (b : Bytes) (rs : List Bytes) : Prop where
  wf : WF d
  small : Small t
  snap : Snap d t b
  snapSafe : ∀ f, d.find 0 = some f → f.safe = f.bytes.length
  recs : (rs = [] ∧ d.find (2 + t) = none) ∨ d.find (2 + t) = some ⟨frames rs, (frames rs).length⟩
  lens : ∀ r ∈ rs, r.length ≤ 16384
  others : ∀ n, n ≠ 0 → n ≠ 2 + t → d.find n = none

theorem files_nil {d : HDisk} (h : ∀ n, d.find n = none) : d.files = [] := by
  cases e : d.files with
  | nil => rfl
  | cons p l =>
    have := h p.1
    unfold HDisk.find at this
    rw [e, lookup_c, if_pos rfl] at this; cases this
/-- How many bytes a disk has that has two files at most. -/
theorem used_two {d : HDisk} (hw : WF d) {a b : Int} (hab : a ≠ b) (h : ∀ n, n ≠ a → n ≠ b → d.find n = none) : d.used = d.len a + d.len b := by
  have h1 := used_del hw.nodup a
  have h2 := used_del (hw.del a).nodup b
  have h3 : ((d.del a).del b).used = 0 := by
    have : ((d.del a).del b).files = [] := files_nil fun n => by
      by_cases hb : n = b
      · subst hb; exact find_del_same _ _
      · rw [find_del_ne _ hb]
        by_cases ha : n = a
        · subst ha; exact find_del_same _ _
        · rw [find_del_ne _ ha]; exact h n ha hb
    simp [HDisk.used, this]
  have h4 : (d.del a).len b = d.len b := by rw [len_eq, len_eq, find_del_ne _ (fun e => hab e.symm)]
  omega
def snapLen (t : Int) (b : Bytes) : Nat := if t = 0 then 0 else (frameOf (varPut t ++ b)).length
theorem JD.used {d : HDisk} {t : Int} {b : Bytes} {rs : List Bytes} (h : JD d t b rs) : d.used = snapLen t b + (frames rs).length := by
  have hs := h.small.1
  rw [used_two h.wf (a := 0) (b := 2 + t) (by omega) h.others]
  congr 1
  · rcases h.snap with ⟨rfl, rfl, e⟩ | ⟨h1, _, f, hf, hb⟩
    · rw [len_none e]; rfl
    · rw [len_some hf, hb]; unfold snapLen; rw [if_neg (by omega)]
  · rcases h.recs with ⟨rfl, e⟩ | e
    · rw [len_none e]; rfl
    · rw [len_some e]
theorem JD.recBytes {d : HDisk} {t : Int} {b : Bytes} {rs : List Bytes} (h : JD d t b rs) : recBytes d t = frames rs := by
  unfold Hw.recBytes HDisk.read
  rcases h.recs with ⟨rfl, e⟩ | e <;> rw [e] <;> rfl
theorem JD.new (room : Int) : JD (HDisk.new room) 0 [] [] :=
  ⟨WF.new room, ⟨by decide, by decide⟩, .inl ⟨rfl, rfl, rfl⟩, fun f hf => by simp [HDisk.new, HDisk.find] at hf, .inl ⟨rfl, rfl⟩, by simp, fun n _ _ => rfl⟩
/-- A journal that is opened anew is the same. -/
theorem JD.open {d : HDisk} {t : Int} {b : Bytes} {rs : List Bytes} (h : JD d t b rs) (hc : Calm d) :
    ∃ d', HJ.openD d = (0, ⟨t, b, rs, false⟩, d') ∧ Calm d' ∧ JD d' t b rs ∧ d'.room = d.room := by
  obtain ⟨d', h1, h2, h3, h4, h5, h6, h7⟩ := open_any hc h.wf h.snap h.small
  rw [h.recBytes, scan_frames' h.lens] at h1
  refine ⟨d', h1, h2, ⟨h3, h.small, ?_, ?_, ?_, h.lens, h6⟩, h4⟩
  · unfold Snap; rw [h5]; exact h.snap
  · rw [h5]; exact h.snapSafe
  · rw [h7]
    rcases h.recs with ⟨rfl, e⟩ | hr
    · left; rw [e]; exact ⟨rfl, rfl⟩
    · right; rw [hr]; simp [scan_frames' h.lens]

/-- What a disk has behind some deeds, a stop among them: this snapshot, safe; these records, safe, and others, of which a beginning may be there. -/
structure JG (d : HDisk) (t : Int) (b : Bytes) (rs qs : List Bytes) : Prop where
  wf : WF d
  small : Small t
  snap : Snap d t b
  snapSafe : ∀ f, d.find 0 = some f → f.safe = f.bytes.length
  recs : (rs = [] ∧ d.find (2 + t) = none) ∨ ∃ f, d.find (2 + t) = some f ∧ f.bytes = frames rs ++ frames qs ∧ (frames rs).length ≤ f.safe
  lens : ∀ r ∈ rs, r.length ≤ 16384
  lens' : ∀ r ∈ qs, r.length ≤ 16384
theorem JD.g {d : HDisk} {t : Int} {b : Bytes} {rs : List Bytes} (h : JD d t b rs) : JG d t b rs [] :=
  ⟨h.wf, h.small, h.snap, h.snapSafe, h.recs.imp id fun e => ⟨_, e, by simp, Nat.le_refl _⟩, h.lens, by simp⟩
theorem JG.open {d : HDisk} {t : Int} {b : Bytes} {rs qs : List Bytes} (h : JG d t b rs qs) (keep : Int) :
    ∃ d' k, k ≤ qs.length ∧ HJ.openD (d.restart keep) = (0, ⟨t, b, rs ++ qs.take k, false⟩, d') ∧ Calm d' ∧ JD d' t b (rs ++ qs.take k) ∧ d'.room = d.room := by
  have hsafe : ∀ f, d.find 0 = some f → keepOf keep f = f := by
    intro f hf
    have hk := h.snapSafe f hf
    unfold keepOf; rw [hk]; simp
    cases f; simp_all
  have hs0 : (d.restart keep).find 0 = d.find 0 := by
    rw [find_restart]
    cases e : d.find 0 with
    | none => rfl
    | some f => rw [Option.map_some, hsafe f e]
  have hsn : Snap (d.restart keep) t b := by unfold Snap; rw [hs0]; exact h.snap
  obtain ⟨d', h1, h2, h3, h4, h5, h6, h7⟩ := open_any (Calm.restart d keep) (h.wf.restart keep) hsn h.small
  have key : ∃ k, k ≤ qs.length ∧ (frameScan (recBytes (d.restart keep) t)).1 = rs ++ qs.take k := by
    unfold recBytes HDisk.read
    rw [find_restart]
    rcases h.recs with ⟨rfl, hr⟩ | ⟨f, hf, hb, hs⟩
    · rw [hr]; exact ⟨0, by simp, by rw [List.take_zero]; exact congrArg Prod.fst (scan_frames' (rs := []) (by simp))⟩
    · rw [hf]
      have hk := keepOf_safe (keep := keep) (h.wf.safe _ _ hf)
      obtain ⟨k, hk1, hk2⟩ := scan_take ((keepOf keep f).safe - (frames rs).length) h.lens h.lens'
      refine ⟨k, hk1, ?_⟩
      rw [← hk2]
      simp only [Option.map_some, Option.getD_some]
      have : (keepOf keep f).bytes = f.bytes.take (keepOf keep f).safe := rfl
      rw [this, hb, List.take_append, List.take_of_length_le (by omega)]
  obtain ⟨k, hk, hscan⟩ := key
  refine ⟨d', k, hk, by rw [h1, hscan], h2, ⟨h3, h.small, ?_, ?_, ?_, ?_, h6⟩, h4⟩
  · unfold Snap; rw [h5]; exact hsn
  · rw [h5, hs0]; exact h.snapSafe
  · rw [h7, find_restart]
    have hsc := scan_sound (recBytes (d.restart keep) t)
    rw [hscan] at hsc
    rcases h.recs with ⟨rfl, hr⟩ | ⟨f, hf, hb, hs⟩
    · left
      unfold recBytes HDisk.read at hscan
      rw [find_restart, hr] at hscan
      rw [hr]; refine ⟨?_, rfl⟩
      rw [← hscan]; exact congrArg Prod.fst (scan_frames' (rs := []) (by simp))
    · right
      have er : recBytes (d.restart keep) t = (keepOf keep f).bytes := by unfold recBytes HDisk.read; rw [find_restart, hf]; rfl
      rw [er] at hsc
      rw [hf]; simp only [Option.map_some, Option.some.injEq]
      split
      · rw [hsc.2.1]
        congr 1
        rw [← hsc.2.1, List.length_take]; omega
      · rename_i hge
        have he : (frameScan (keepOf keep f).bytes).2 = (keepOf keep f).bytes.length := by omega
        rw [he, List.take_length] at hsc
        have hk := (keepOf_safe (keep := keep) (h.wf.safe _ _ hf)).1
        rw [← hsc.2.1]
        cases hh : keepOf keep f; rw [hh] at hk; simp only at hk ⊢; rw [hk]
  · intro r hr
    rcases List.mem_append.1 hr with hr | hr
    · exact h.lens r hr
    · exact h.lens' r (List.mem_of_mem_take hr)

/-! ### the deeds -/
theorem works_cases (d : HDisk) : d.works.stopped = (d.stopped || d.left == 0) := rfl
theorem append_ok {d : HDisk} (hst : d.stopped = false) {n : Int} {b : Bytes} (h : d.used + b.length ≤ d.room) :
    d.append n b = (if d.works.stopped = true then 12 else 0, d.works.put n ⟨((d.find n).getD ⟨[], 0⟩).bytes ++ b, ((d.find n).getD ⟨[], 0⟩).safe⟩) := by
  unfold HDisk.append; rw [if_neg (by rw [hst]; simp), if_neg (by omega)]
theorem append_full {d : HDisk} (hst : d.stopped = false) {n : Int} {b : Bytes} (h : d.room < d.used + b.length) : d.append n b = (8, d) := by
  unfold HDisk.append; rw [if_neg (by rw [hst]; simp), if_pos h]
theorem put_full {d : HDisk} (hst : d.stopped = false) (j : HJ) {n : Int} {b : Bytes} (h : d.room < d.used + b.length) : j.put d n b = (8, j, d) := by
  unfold HJ.put; rw [append_full hst h]; rfl
/-- Append: with room. -/
theorem JD.append {d : HDisk} {t : Int} {b : Bytes} {rs qs : List Bytes} (h : JD d t b rs) (hst : d.stopped = false) (hq : ∀ r ∈ qs, r.length ≤ 16384)
    (hroom : d.used + (frames qs).length ≤ d.room) :
    (∃ d', HJ.append ⟨t, b, rs, false⟩ d qs = (0, ⟨t, b, rs ++ qs, false⟩, d') ∧ JD d' t b (rs ++ qs) ∧ d'.stopped = false ∧ d'.room = d.room ∧ (d.left = -1 → d'.left = -1)) ∨
    (∃ d', HJ.append ⟨t, b, rs, false⟩ d qs = (12, ⟨t, b, rs, true⟩, d') ∧ JG d' t b rs qs ∧ d'.stopped = true ∧ d'.room = d.room ∧ 0 ≤ d.left) := by
  have hs := h.small.1; have hs2 := h.small.2
  have hany : (qs.any fun r => decide (16384 < r.length)) = false := by
    rw [List.any_eq_false]; intro r hr; have := hq r hr; simp; omega
  have hfr : (qs.flatMap frameOf) = frames qs := rfl
  have hw : w64 (2 + t) = 2 + t := w64_small (by omega) (by omega)
  have hfind : (d.find (2 + t)).getD ⟨[], 0⟩ = ⟨frames rs, (frames rs).length⟩ := by
    rcases h.recs with ⟨rfl, e⟩ | e <;> rw [e] <;> rfl
  have ha := append_ok hst (n := 2 + t) hroom
  rw [hfind] at ha
  unfold HJ.append
  simp only [Bool.false_eq_true, if_false, hany, hw, hfr]
  have hdw : ∀ s, s ≤ (frames rs ++ frames qs).length → WF (d.works.put (2 + t) ⟨frames rs ++ frames qs, s⟩) := fun s hs' => by
    refine h.wf.works.put _ _ hs' ?_
    have hl : d.works.len (2 + t) = (frames rs).length := by
      rcases h.recs with ⟨rfl, e⟩ | e
      · exact len_none (d := d.works) e
      · exact len_some (d := d.works) e
    rw [hl]; simp only [used_works, room_works, List.length_append]; omega
  have hg : ∀ s, (frames rs).length ≤ s → s ≤ (frames rs ++ frames qs).length → JG (d.works.put (2 + t) ⟨frames rs ++ frames qs, s⟩) t b rs qs := fun s h1 h2 => by
    have e0 : (d.works.put (2 + t) ⟨frames rs ++ frames qs, s⟩).find 0 = d.find 0 := find_put_ne _ _ (by omega)
    refine ⟨hdw s h2, h.small, ?_, ?_, .inr ⟨_, find_put_same _ _ _, rfl, h1⟩, h.lens, hq⟩
    · unfold Snap; rw [e0]; exact h.snap
    · rw [e0]; exact h.snapSafe
  by_cases hz : d.left = 0
  · right
    have hws : d.works.stopped = true := by rw [works_cases, hz]; simp
    rw [hws, if_pos rfl] at ha
    have hp : HJ.put ⟨t, b, rs, false⟩ d (2 + t) (frames qs) = (12, ⟨t, b, rs, true⟩, d.works.put (2 + t) ⟨frames rs ++ frames qs, (frames rs).length⟩) := by
      unfold HJ.put; rw [ha]; rfl
    rw [hp]
    exact ⟨_, rfl, hg _ (Nat.le_refl _) (by simp), hws, rfl, by omega⟩
  · have hws : d.works.stopped = false := by rw [works_cases, hst]; simp [hz]
    rw [hws, if_neg (by simp)] at ha
    have hsy : (d.works.put (2 + t) ⟨frames rs ++ frames qs, (frames rs).length⟩).sync (2 + t) = if (d.works.put (2 + t) ⟨frames rs ++ frames qs, (frames rs).length⟩).works.stopped = true
        then (12, (d.works.put (2 + t) ⟨frames rs ++ frames qs, (frames rs).length⟩).works) else (0, (d.works.put (2 + t) ⟨frames rs ++ frames qs, (frames rs).length⟩).works.put (2 + t) ⟨frames rs ++ frames qs, (frames rs ++ frames qs).length⟩) := by
      unfold HDisk.sync
      rw [stopped_put, hws, find_put_same, if_neg (by simp)]
    by_cases hz2 : (d.works.put (2 + t) ⟨frames rs ++ frames qs, (frames rs).length⟩).works.stopped = true
    · right
      rw [if_pos hz2] at hsy
      have hp : HJ.put ⟨t, b, rs, false⟩ d (2 + t) (frames qs) = (12, ⟨t, b, rs, true⟩, (d.works.put (2 + t) ⟨frames rs ++ frames qs, (frames rs).length⟩).works) := by
        unfold HJ.put; rw [ha]; simp only [ne_eq, not_true_eq_false, if_false]; rw [hsy]; rfl
      rw [hp]
      refine ⟨_, rfl, ?_, hz2, rfl, ?_⟩
      · have := hg _ (Nat.le_refl _) (by simp)
        exact ⟨this.wf.works, this.small, this.snap, this.snapSafe, this.recs, this.lens, this.lens'⟩
      · rw [works_cases] at hz2
        simp only [stopped_put, hws, Bool.false_or, left_put, beq_iff_eq] at hz2
        unfold HDisk.works at hz2; simp only at hz2
        split at hz2 <;> omega
    · left
      rw [if_neg hz2] at hsy
      have hp : HJ.put ⟨t, b, rs, false⟩ d (2 + t) (frames qs) = (0, ⟨t, b, rs, false⟩, (d.works.put (2 + t) ⟨frames rs ++ frames qs, (frames rs).length⟩).works.put (2 + t) ⟨frames rs ++ frames qs, (frames rs ++ frames qs).length⟩) := by
        unfold HJ.put; rw [ha]; simp only [ne_eq, not_true_eq_false, if_false]; rw [hsy]; rfl
      rw [hp]
      have hz2 : (d.works.put (2 + t) ⟨frames rs ++ frames qs, (frames rs).length⟩).works.stopped = false := by simpa using hz2
      refine ⟨_, rfl, ?_, hz2, rfl, ?_⟩
      · have hn : ∀ n, n ≠ 2 + t → ((d.works.put (2 + t) ⟨frames rs ++ frames qs, (frames rs).length⟩).works.put (2 + t) ⟨frames rs ++ frames qs, (frames rs ++ frames qs).length⟩).find n = d.find n := by
          intro n hn
          rw [find_put_ne _ _ hn, find_works, find_put_ne _ _ hn, find_works]
        have e0 := hn 0 (by omega)
        refine ⟨?_, h.small, ?_, ?_, .inr ?_, ?_, fun n h0 h1 => by rw [hn n h1]; exact h.others n h0 h1⟩
        · refine (hdw _ (by simp)).works.put _ _ (Nat.le_refl _) ?_
          have hr := (hdw (frames rs).length (by simp)).room
          have hl : (d.works.put (2 + t) ⟨frames rs ++ frames qs, (frames rs).length⟩).works.len (2 + t) = (frames rs ++ frames qs).length := len_some (find_put_same _ _ _)
          rw [hl]; simp only [used_works, room_works]; omega
        · unfold Snap; rw [e0]; exact h.snap
        · rw [e0]; exact h.snapSafe
        · rw [find_put_same, frames_append]
        · intro r hr
          rcases List.mem_append.1 hr with hr | hr
          · exact h.lens r hr
          · exact hq r hr
      · intro hl
        have hc : Calm d := ⟨hst, hl⟩
        rw [hc.works]
        have : Calm (d.put (2 + t) ⟨frames rs ++ frames qs, (frames rs).length⟩) := hc
        rw [this.works]; exact hl
/-- Append: without room. -/
theorem HJ.append_full {d : HDisk} {j : HJ} {qs : List Bytes} (hb : j.broken = false) (hst : d.stopped = false) (hq : ∀ r ∈ qs, r.length ≤ 16384) (hroom : d.room < d.used + (frames qs).length) :
    j.append d qs = (8, j, d) := by
  have hany : (qs.any fun r => decide (16384 < r.length)) = false := by
    rw [List.any_eq_false]; intro r hr; have := hq r hr; simp; omega
  unfold HJ.append
  have hfr : (qs.flatMap frameOf) = frames qs := rfl
  simp only [hb, Bool.false_eq_true, if_false, hany, hfr, put_full hst j hroom]
  rfl
end Hw

/- Plain laws of the journal: a snapshot. -/
namespace Hw
open HDisk

theorem stop_left {d : HDisk} (hst : d.stopped = false) (h : d.works.stopped = true) : d.left = 0 := by
  rw [works_cases, hst] at h; simpa using h
theorem works_left {d : HDisk} (hl : d.left = -1) : d.works.left = -1 := by simp [HDisk.works, hl]
theorem works_left0 {d : HDisk} (h : 0 ≤ d.works.left) : 0 ≤ d.left := by
  unfold HDisk.works at h; simp only at h; split at h <;> omega
theorem sync_ok {d : HDisk} (hst : d.stopped = false) {n : Int} {f : HFile} (hf : d.find n = some f) :
    d.sync n = if d.works.stopped = true then (12, d.works) else (0, d.works.put n ⟨f.bytes, f.bytes.length⟩) := by
  unfold HDisk.sync; rw [if_neg (by rw [hst]; simp), hf]
theorem rename_ok {d : HDisk} (hst : d.stopped = false) {n m : Int} {f : HFile} (hf : d.find n = some f) :
    d.rename n m = if d.works.stopped = true then (12, d.works) else (0, (d.works.del n).put m f) := by
  unfold HDisk.rename; rw [if_neg (by rw [hst]; simp), hf]
theorem remove_ok {d : HDisk} (hst : d.stopped = false) {n : Int} {f : HFile} (hf : d.find n = some f) :
    d.remove n = if d.works.stopped = true then (12, d.works) else (0, d.works.del n) := by
  unfold HDisk.remove; rw [if_neg (by rw [hst]; simp), hf]
theorem JD.gs {d d' : HDisk} {t : Int} {b : Bytes} {rs : List Bytes} (h : JD d t b rs) (hw : WF d') (h0 : d'.find 0 = d.find 0) (h2 : d'.find (2 + t) = d.find (2 + t)) : JG d' t b rs [] :=
  ⟨hw, h.small, by unfold Snap; rw [h0]; exact h.snap, by rw [h0]; exact h.snapSafe, by
    rcases h.recs with ⟨e, e2⟩ | e
    · exact .inl ⟨e, by rw [h2]; exact e2⟩
    · exact .inr ⟨_, by rw [h2]; exact e, by simp [frames], Nat.le_refl _⟩, h.lens, by simp⟩
theorem snap_new {d : HDisk} {t : Int} {c : Bytes} (ht : 1 ≤ t) (hl : (varPut t ++ c).length ≤ 16384) (h0 : d.find 0 = some ⟨frameOf (varPut t ++ c), (frameOf (varPut t ++ c)).length⟩) : Snap d t c :=
  .inr ⟨ht, hl, _, h0, rfl⟩
theorem jg_new {d : HDisk} {t : Int} {c : Bytes} (hw : WF d) (ht : 1 ≤ t) (hs : Small t) (hl : (varPut t ++ c).length ≤ 16384) (h0 : d.find 0 = some ⟨frameOf (varPut t ++ c), (frameOf (varPut t ++ c)).length⟩) (h2 : d.find (2 + t) = none) : JG d t c [] [] :=
  ⟨hw, hs, snap_new ht hl h0, fun f hf => by rw [h0] at hf; cases hf; rfl, .inl ⟨rfl, h2⟩, by simp, by simp⟩
theorem jd_new {d : HDisk} {t : Int} {c : Bytes} (hw : WF d) (ht : 1 ≤ t) (hs : Small t) (hl : (varPut t ++ c).length ≤ 16384) (h0 : d.find 0 = some ⟨frameOf (varPut t ++ c), (frameOf (varPut t ++ c)).length⟩) (h2 : ∀ n, n ≠ 0 → d.find n = none) : JD d t c [] :=
  ⟨hw, hs, snap_new ht hl h0, fun f hf => by rw [h0] at hf; cases hf; rfl, .inl ⟨rfl, h2 _ (by omega)⟩, by simp, fun n hn _ => h2 n hn⟩
/-- Save: with room. -/
theorem JD.save {d : HDisk} {t : Int} {b c : Bytes} {rs : List Bytes} (h : JD d t b rs) (hst : d.stopped = false) (ht1 : Small (t + 1)) (hc : (varPut (t + 1) ++ c).length ≤ 16384)
    (hroom : d.used + (frameOf (varPut (t + 1) ++ c)).length ≤ d.room) :
    (∃ d', HJ.save ⟨t, b, rs, false⟩ d c = (0, ⟨t + 1, c, [], false⟩, d') ∧ JD d' (t + 1) c [] ∧ d'.stopped = false ∧ d'.room = d.room ∧ (d.left = -1 → d'.left = -1)) ∨
    (∃ d' j', HJ.save ⟨t, b, rs, false⟩ d c = (12, j', d') ∧ j'.broken = true ∧ (JG d' t b rs [] ∨ JG d' (t + 1) c [] []) ∧ d'.stopped = true ∧ d'.room = d.room ∧ 0 ≤ d.left) := by
  have hs := h.small.1; have hs2 := h.small.2
  have hw : w64 (2 + t) = 2 + t := w64_small (by omega) (by omega)
  have hw1 : w64 (t + 1) = t + 1 := w64_small (by omega) (by omega)
  have f1 : d.find 1 = none := h.others 1 (by omega) (by omega)
  unfold HJ.save
  simp only [Bool.false_eq_true, if_false, hw, hw1]
  rw [if_neg (by omega)]
  generalize hfr : frameOf (varPut (t + 1) ++ c) = fr at hroom ⊢
  have ha := append_ok hst (n := 1) hroom
  rw [f1] at ha
  simp only [Option.getD_none, List.nil_append] at ha
  have w1 := h.wf.append 1 fr
  rw [ha] at w1; simp only at w1
  generalize hd1 : d.works.put 1 ⟨fr, 0⟩ = d1 at ha w1
  have e1 : ∀ n, n ≠ 1 → d1.find n = d.find n := fun n hn => by rw [← hd1, find_put_ne _ _ hn, find_works]
  have e11 : d1.find 1 = some ⟨fr, 0⟩ := by rw [← hd1, find_put_same]
  have r1 : d1.room = d.room := by rw [← hd1]; rfl
  have s1 : d1.stopped = d.works.stopped := by rw [← hd1]; rfl
  have l1 : d1.left = d.works.left := by rw [← hd1]; rfl
  by_cases z1 : d.works.stopped = true
  · right
    rw [z1, if_pos rfl] at ha
    have hp : HJ.put ⟨t, b, rs, false⟩ d 1 fr = (12, ⟨t, b, rs, true⟩, d1) := by unfold HJ.put; rw [ha]; rfl
    rw [hp]
    exact ⟨_, _, rfl, rfl, .inl (h.gs w1 (e1 0 (by omega)) (e1 _ (by omega))), s1.trans z1, r1, by have := stop_left hst z1; omega⟩
  · rw [if_neg z1] at ha
    have z1 : d.works.stopped = false := by simpa using z1
    have hy := sync_ok (d := d1) (s1.trans z1) e11
    have w2 := w1.sync 1
    by_cases z2 : d1.works.stopped = true
    · right
      rw [if_pos z2] at hy
      have hp : HJ.put ⟨t, b, rs, false⟩ d 1 fr = (12, ⟨t, b, rs, true⟩, d1.works) := by unfold HJ.put; rw [ha]; simp only [ne_eq, not_true_eq_false, if_false]; rw [hy]; rfl
      rw [hp]
      refine ⟨_, _, rfl, rfl, .inl (h.gs w1.works (e1 0 (by omega)) (e1 _ (by omega))), z2, r1, ?_⟩
      have := stop_left (s1.trans z1) z2
      rw [l1] at this
      exact works_left0 (by omega)
    · rw [if_neg z2] at hy
      rw [hy] at w2
      have z2 : d1.works.stopped = false := by simpa using z2
      simp only at hy w2
      generalize hd2 : d1.works.put 1 ⟨fr, fr.length⟩ = d2 at hy w2
      have e2 : ∀ n, n ≠ 1 → d2.find n = d.find n := fun n hn => by rw [← hd2, find_put_ne _ _ hn, find_works, e1 n hn]
      have e21 : d2.find 1 = some ⟨fr, fr.length⟩ := by rw [← hd2, find_put_same]
      have r2 : d2.room = d.room := by rw [← hd2]; exact r1
      have s2 : d2.stopped = false := by rw [← hd2]; exact z2
      have l2 : d2.left = d1.works.left := by rw [← hd2]; rfl
      have hp : HJ.put ⟨t, b, rs, false⟩ d 1 fr = (0, ⟨t, b, rs, false⟩, d2) := by unfold HJ.put; rw [ha]; simp only [ne_eq, not_true_eq_false, if_false]; rw [hy]; rfl
      rw [hp]
      simp only [ne_eq, not_true_eq_false, if_false]
      have hr := rename_ok (m := 0) s2 e21
      have w3 := w2.rename 1 0
      by_cases z3 : d2.works.stopped = true
      · right
        rw [if_pos z3] at hr
        rw [hr]
        refine ⟨_, _, rfl, rfl, .inl (h.gs w2.works (e2 0 (by omega)) (e2 _ (by omega))), z3, r2, ?_⟩
        have := stop_left s2 z3
        rw [l2] at this
        have := works_left0 (d := d1) (by omega)
        rw [l1] at this
        exact works_left0 this
      · rw [if_neg z3] at hr
        rw [hr] at w3
        have z3 : d2.works.stopped = false := by simpa using z3
        simp only at w3
        rw [hr]
        simp only [ne_eq, not_true_eq_false, if_false]
        generalize hd3 : (d2.works.del 1).put 0 ⟨fr, fr.length⟩ = d3 at w3
        have e30 : d3.find 0 = some ⟨fr, fr.length⟩ := by rw [← hd3, find_put_same]
        have e31 : d3.find 1 = none := by rw [← hd3, find_put_ne _ _ (by omega), find_del_same]
        have e3 : ∀ n, n ≠ 0 → n ≠ 1 → d3.find n = d.find n := fun n h0 h1 => by rw [← hd3, find_put_ne _ _ h0, find_del_ne _ h1, find_works, e2 n h1]
        have r3 : d3.room = d.room := by rw [← hd3]; exact r2
        have s3 : d3.stopped = false := by rw [← hd3]; exact z3
        have l3 : d3.left = d2.works.left := by rw [← hd3]; rfl
        rw [← hfr] at e30
        cases hf : d.find (2 + t) with
        | none =>
          left
          have : d3.read (2 + t) = none := by unfold HDisk.read; rw [e3 _ (by omega) (by omega), hf]; rfl
          rw [this]
          refine ⟨_, rfl, jd_new w3 (by omega) ht1 hc e30 (fun n hn => ?_), s3, r3, fun hl => ?_⟩
          · by_cases h1 : n = 1
            · subst h1; exact e31
            · rw [e3 n hn h1]
              by_cases h2 : n = 2 + t
              · rw [h2]; exact hf
              · exact h.others n hn h2
          · rw [l3]; exact works_left (l2.trans (works_left (l1.trans (works_left hl))))
        | some f =>
          have hf3 : d3.find (2 + t) = some f := by rw [e3 _ (by omega) (by omega)]; exact hf
          have : d3.read (2 + t) = some f.bytes := by unfold HDisk.read; rw [hf3]; rfl
          rw [this]
          have hm := remove_ok s3 hf3
          have w4 := w3.remove (2 + t)
          simp only
          by_cases z4 : d3.works.stopped = true
          · right
            rw [if_pos z4] at hm
            rw [hm]
            refine ⟨_, _, rfl, rfl, .inr (jg_new w3.works (by omega) ht1 hc e30 ?_), z4, r3, ?_⟩
            · show d3.find _ = none
              rw [e3 _ (by omega) (by omega)]; exact h.others _ (by omega) (by omega)
            · have := stop_left s3 z4
              rw [l3] at this
              have := works_left0 (d := d2) (by omega)
              rw [l2] at this
              have := works_left0 this
              rw [l1] at this
              exact works_left0 this
          · left
            rw [if_neg z4] at hm
            rw [hm] at w4 ⊢
            have z4 : d3.works.stopped = false := by simpa using z4
            refine ⟨_, rfl, jd_new w4 (by omega) ht1 hc ?_ (fun n hn => ?_), z4, r3, fun hl => ?_⟩
            · rw [find_del_ne _ (by omega), find_works]; exact e30
            · by_cases h2 : n = 2 + t
              · rw [h2, find_del_same]
              · rw [find_del_ne _ h2, find_works]
                by_cases h1 : n = 1
                · subst h1; exact e31
                · rw [e3 n hn h1]; exact h.others n hn h2
            · show d3.works.left = -1
              exact works_left (l3.trans (works_left (l2.trans (works_left (l1.trans (works_left hl))))))
/-- Save: without room. -/
theorem HJ.save_full {d : HDisk} {j : HJ} {c : Bytes} (hb : j.broken = false) (hst : d.stopped = false) (hc : (varPut (w64 (j.turn + 1)) ++ c).length ≤ 16384) (hroom : d.room < d.used + (frameOf (varPut (w64 (j.turn + 1)) ++ c)).length) :
    j.save d c = (8, j, d) := by
  unfold HJ.save
  simp only [hb, Bool.false_eq_true, if_false]
  rw [if_neg (by omega), put_full hst j hroom]; rfl
theorem HJ.save_long {d : HDisk} {j : HJ} {c : Bytes} (hb : j.broken = false) (hc : 16384 < (varPut (w64 (j.turn + 1)) ++ c).length) : j.save d c = (13, j, d) := by
  unfold HJ.save; rw [if_neg (by rw [hb]; simp), if_pos hc]
theorem HJ.append_long {d : HDisk} {j : HJ} {qs : List Bytes} (hb : j.broken = false) {r : Bytes} (hr : r ∈ qs) (hl : 16384 < r.length) : j.append d qs = (13, j, d) := by
  unfold HJ.append; rw [if_neg (by rw [hb]; simp), if_pos]
  rw [List.any_eq_true]; exact ⟨r, hr, by simpa using hl⟩
theorem HJ.append_broken {d : HDisk} {j : HJ} {qs : List Bytes} (hb : j.broken = true) : j.append d qs = (12, j, d) := by
  unfold HJ.append; rw [if_pos hb]
theorem HJ.save_broken {d : HDisk} {j : HJ} {c : Bytes} (hb : j.broken = true) : j.save d c = (12, j, d) := by
  unfold HJ.save; rw [if_pos hb]
theorem frames_len (rs : List Bytes) : (frames rs).length = 6 * rs.length + (rs.map List.length).sum := by
  induction rs with
  | nil => rfl
  | cons r l ih =>
    have : frames (r :: l) = frameOf r ++ frames l := rfl
    rw [this, List.length_append, frameOf_length, ih]; simp; omega
theorem frames_len_le {rs : List Bytes} {n : Nat} (h : ∀ r ∈ rs, r.length ≤ n) : (frames rs).length ≤ (6 + n) * rs.length := by
  induction rs with
  | nil => simp [frames]
  | cons r l ih =>
    have e : frames (r :: l) = frameOf r ++ frames l := rfl
    rw [e, List.length_append, frameOf_length]
    have := ih (fun r hr => h r (by simp [hr]))
    have := h r (by simp)
    simp only [List.length_cons, Nat.mul_add]; omega
end Hw

/- Plain laws of a journal on a disk that does not stop. -/
namespace Hw
open HDisk

/-- A journal on a disk that does not stop. -/
structure JC (d : HDisk) (t : Int) (b : Bytes) (rs : List Bytes) : Prop where
  jd : JD d t b rs
  calm : Calm d
theorem JC.new (room : Int) : JC (HDisk.new room) 0 [] [] := ⟨JD.new room, Calm.new room⟩
theorem JC.open {d : HDisk} {t : Int} {b : Bytes} {rs : List Bytes} (h : JC d t b rs) : ∃ d', HJ.openD d = (0, ⟨t, b, rs, false⟩, d') ∧ JC d' t b rs ∧ d'.room = d.room := by
  obtain ⟨d', h1, h2, h3, h4⟩ := h.jd.open h.calm
  exact ⟨d', h1, ⟨h3, h2⟩, h4⟩
theorem JC.append {d : HDisk} {t : Int} {b : Bytes} {rs qs : List Bytes} (h : JC d t b rs) (hq : ∀ r ∈ qs, r.length ≤ 16384) (hroom : d.used + (frames qs).length ≤ d.room) :
    ∃ d', HJ.append ⟨t, b, rs, false⟩ d qs = (0, ⟨t, b, rs ++ qs, false⟩, d') ∧ JC d' t b (rs ++ qs) ∧ d'.room = d.room := by
  rcases h.jd.append h.calm.1 hq hroom with ⟨d', h1, h2, h3, h4, h5⟩ | ⟨d', _, _, _, _, h5⟩
  · exact ⟨d', h1, ⟨h2, h3, h5 h.calm.2⟩, h4⟩
  · have := h.calm.2; omega
theorem JC.append_full {d : HDisk} {t : Int} {b : Bytes} {rs qs : List Bytes} (h : JC d t b rs) (hq : ∀ r ∈ qs, r.length ≤ 16384) (hroom : d.room < d.used + (frames qs).length) :
    HJ.append ⟨t, b, rs, false⟩ d qs = (8, ⟨t, b, rs, false⟩, d) := HJ.append_full rfl h.calm.1 hq hroom
theorem Small.w64 {t : Int} (h : Small t) : w64 (t + 1) = t + 1 := w64_small (by have := h.1; omega) (by have := h.2; omega)
theorem JC.save {d : HDisk} {t : Int} {b c : Bytes} {rs : List Bytes} (h : JC d t b rs) (ht1 : Small (t + 1)) (hc : (varPut (t + 1) ++ c).length ≤ 16384) (hroom : d.used + (frameOf (varPut (t + 1) ++ c)).length ≤ d.room) :
    ∃ d', HJ.save ⟨t, b, rs, false⟩ d c = (0, ⟨t + 1, c, [], false⟩, d') ∧ JC d' (t + 1) c [] ∧ d'.room = d.room := by
  rcases h.jd.save h.calm.1 ht1 hc hroom with ⟨d', h1, h2, h3, h4, h5⟩ | ⟨d', _, _, _, _, _, _, h5⟩
  · exact ⟨d', h1, ⟨h2, h3, h5 h.calm.2⟩, h4⟩
  · have := h.calm.2; omega
theorem JC.save_full {d : HDisk} {t : Int} {b c : Bytes} {rs : List Bytes} (h : JC d t b rs) (hc : (varPut (t + 1) ++ c).length ≤ 16384) (hroom : d.room < d.used + (frameOf (varPut (t + 1) ++ c)).length) :
    HJ.save ⟨t, b, rs, false⟩ d c = (8, ⟨t, b, rs, false⟩, d) := by
  have e := h.jd.small.w64
  exact HJ.save_full rfl h.calm.1 (by simp only [e]; exact hc) (by simp only [e]; exact hroom)
theorem varSmall {t : Int} (h : Small t) : (varPut t).length ≤ 10 := varPut_len (by have := h.1; omega) (by have := h.2; omega)
theorem snapLen_le {t : Int} {b : Bytes} {n : Nat} (h : Small t) (hb : b.length ≤ n) : snapLen t b ≤ 16 + n := by
  unfold snapLen; split
  · omega
  · have := varSmall h; simp [frameOf_length]; omega
theorem saveLen_le {t : Int} {b : Bytes} {n : Nat} (h : Small t) (hb : b.length ≤ n) : (frameOf (varPut t ++ b)).length ≤ 16 + n := by
  have := varSmall h; simp [frameOf_length]; omega
/-- Bytes that begin with no record, behind records. -/
theorem JC.torn {d : HDisk} {t : Int} {b : Bytes} {rs : List Bytes} {tail : Bytes} (h : JC d t b rs) (hf : frameOne tail = none) (hroom : d.used + tail.length ≤ d.room) :
    ∃ d1 d', d.append (2 + t) tail = (0, d1) ∧ HJ.openD d1 = (0, ⟨t, b, rs, false⟩, d') ∧ JC d' t b rs ∧ d'.room = d.room := by
  have hs := h.jd.small.1
  have ha := append_ok h.calm.1 (n := 2 + t) hroom
  have w1 := h.jd.wf.append (2 + t) tail
  rw [h.calm.works] at ha
  rw [h.calm.1] at ha
  simp only [Bool.false_eq_true, if_false] at ha
  have hfind : (d.find (2 + t)).getD ⟨[], 0⟩ = ⟨frames rs, (frames rs).length⟩ := by
    rcases h.jd.recs with ⟨rfl, e⟩ | e <;> rw [e] <;> rfl
  rw [hfind] at ha
  rw [ha] at w1; simp only at w1 ha
  generalize hd1 : d.put (2 + t) ⟨frames rs ++ tail, (frames rs).length⟩ = d1 at ha w1
  have c1 : Calm d1 := by rw [← hd1]; exact h.calm
  have e0 : d1.find 0 = d.find 0 := by rw [← hd1, find_put_ne _ _ (by omega)]
  have et : d1.find (2 + t) = some ⟨frames rs ++ tail, (frames rs).length⟩ := by rw [← hd1, find_put_same]
  have s1 : Snap d1 t b := by unfold Snap; rw [e0]; exact h.jd.snap
  obtain ⟨d', h1, h2, h3, h4, h5, h6, h7⟩ := open_any c1 w1 s1 h.jd.small
  have hr : recBytes d1 t = frames rs ++ tail := by unfold recBytes HDisk.read; rw [et]; rfl
  rw [hr, scan_frames h.jd.lens hf] at h1
  rw [et] at h7
  simp only [Option.map_some, scan_frames h.jd.lens hf] at h7
  refine ⟨d1, d', ha, h1, ⟨⟨h3, h.jd.small, ?_, ?_, .inr ?_, h.jd.lens, h6⟩, h2⟩, ?_⟩
  · unfold Snap; rw [h5]; exact s1
  · rw [h5, e0]; exact h.jd.snapSafe
  · rw [h7]
    split
    · simp
    · rename_i hn
      have : tail = [] := List.eq_nil_of_length_eq_zero (by simp at hn; simpa using hn)
      rw [this]; simp
  · rw [h4, ← hd1]; rfl
theorem getGo_lt : ∀ (b : Bytes) (k u : Nat) (t : Int) (rest : Bytes), u < 2 ^ (7 * k) → varGetGo k u b = some (t, rest) → -9223372036854775808 ≤ t ∧ t ≤ 9223372036854775807 := by
  intro b
  induction b with
  | nil => intro k u t rest _ h; cases h
  | cons c b ih =>
    intro k u t rest hu h
    have hc := c.toNat_lt
    unfold varGetGo at h
    split at h
    · cases h
    · rename_i hk
      have hp : 2 ^ (7 * (k + 1)) = 128 * 2 ^ (7 * k) := by rw [show 7 * (k + 1) = 7 + 7 * k by omega, Nat.pow_add]
      have hm : c.toNat % 128 * 2 ^ (7 * k) ≤ 127 * 2 ^ (7 * k) := Nat.mul_le_mul_right _ (by omega)
      have hn : u + c.toNat % 128 * 2 ^ (7 * k) < 2 ^ (7 * (k + 1)) := by rw [hp]; omega
      split at h
      · cases h
      · rename_i h9
        split at h
        · exact ih _ _ _ _ hn h
        · split at h
          · cases h
          · simp only [Option.some.injEq, Prod.mk.injEq] at h
            have hU : u + c.toNat % 128 * 2 ^ (7 * k) < 18446744073709551616 := by
              by_cases k9 : k = 9
              · subst k9
                have : c.toNat ≤ 1 := by omega
                have h2 : c.toNat % 128 * 2 ^ (7 * 9) ≤ 1 * 2 ^ (7 * 9) := Nat.mul_le_mul_right _ (by omega)
                have e1 : (2 : Nat) ^ (7 * 9) = 9223372036854775808 := by decide
                rw [e1] at h2 hu ⊢; omega
              · have : 2 ^ (7 * (k + 1)) ≤ 2 ^ 63 := Nat.pow_le_pow_right (by omega) (by omega)
                have e1 : (2 : Nat) ^ 63 = 9223372036854775808 := by decide
                omega
            generalize u + c.toNat % 128 * 2 ^ (7 * k) = U at h hU
            rw [← h.1]; unfold unzig; split <;> omega
theorem varGet_lt {b : Bytes} {t : Int} {rest : Bytes} (h : varGet b = some (t, rest)) : -9223372036854775808 ≤ t ∧ t ≤ 9223372036854775807 := getGo_lt b 0 0 t rest (by simp) h
/-- A disk that has a snapshot's file alone. -/
def formD (x : Bytes) : HDisk := ⟨[(0, ⟨x, 0⟩)], 262144, -1, false⟩
theorem form_append {x : Bytes} (h : x.length ≤ 1000) : (HDisk.new 262144).append 0 x = (0, formD x) := by
  have h0 : ¬ ((HDisk.new 262144).room < (HDisk.new 262144).used + x.length) := by simp [HDisk.new, HDisk.used]; omega
  unfold HDisk.append; rw [if_neg (by simp [HDisk.new]), if_neg h0]
  simp [HDisk.new, HDisk.works, HDisk.find, HDisk.put, HDisk.setAt, formD]; rfl
theorem form_rest {x b : Bytes} {t : Int} (h1 : 1 ≤ t) (h2 : t ≤ 9223372036854775807) : HJ.openRest (formD x) t b = (0, ⟨t, b, [], false⟩, formD x) := by
  have hw : w64 (2 + t) ≠ 0 := by unfold w64; omega
  have hn : (formD x).names = [0] := rfl
  have hr : (formD x).read (w64 (2 + t)) = none := by
    unfold HDisk.read HDisk.find formD
    simp only [lookup_c, if_neg hw]; rfl
  unfold HJ.openRest
  simp [hn, HJ.removeAll, hr, frameScan, scanGo, frameOne]
theorem form_open (x : Bytes) : HJ.openD (formD x) = match frameOne x with
    | none => (11, ⟨0, [], [], false⟩, formD x)
    | some (y, n) => if n ≠ x.length then (11, ⟨0, [], [], false⟩, formD x) else match varGet y with
      | none => (11, ⟨0, [], [], false⟩, formD x)
      | some (t, rest) => if t < 1 then (11, ⟨0, [], [], false⟩, formD x) else (0, ⟨t, rest, [], false⟩, formD x) := by
  have hr : (formD x).read 0 = some x := rfl
  unfold HJ.openD
  simp only [hr]
  cases frameOne x with
  | none => rfl
  | some p =>
    obtain ⟨y, n⟩ := p
    simp only
    split
    · rfl
    · cases hv : varGet y with
      | none => rfl
      | some q =>
        obtain ⟨t, rest⟩ := q
        simp only
        split
        · rfl
        · exact form_rest (by omega) (varGet_lt hv).2
end Hw

/- Plain laws: how many files a disk has; a beginning of rows. -/
namespace Hw
open HDisk

theorem nodup_two {a b : Int} : ∀ {l : List Int}, l.Nodup → (∀ x ∈ l, x = a ∨ x = b) → l.length ≤ 2
  | [], _, _ => by simp
  | [_], _, _ => by simp
  | [_, _], _, _ => by simp
  | x :: y :: z :: l, h, hs => by
    exfalso
    simp only [List.nodup_cons, List.mem_cons, not_or] at h
    have h1 := hs x (by simp); have h2 := hs y (by simp); have h3 := hs z (by simp)
    rcases h1 with h1 | h1 <;> rcases h2 with h2 | h2 <;> rcases h3 with h3 | h3 <;> simp_all
theorem JD.files_le {d : HDisk} {t : Int} {b : Bytes} {rs : List Bytes} (h : JD d t b rs) : d.files.length ≤ 2 := by
  have := nodup_two (a := 0) (b := 2 + t) (l := Keys d.files) h.wf.nodup (fun x hx => by
    by_cases h0 : x = 0
    · exact .inl h0
    · by_cases h2 : x = 2 + t
      · exact .inr h2
      · have := (mem_keys_iff _ _).1 hx
        have e := h.others x h0 h2
        unfold HDisk.find at e; rw [e] at this; cases this)
  simpa [Keys] using this
theorem setAt_len (n : Int) (f : HFile) : ∀ l : List (Int × HFile), (setAt l n f).length ≤ l.length + 1
  | [] => by simp [setAt]
  | p :: l => by
    unfold setAt; split
    · simp
    · simp only [List.length_cons]; have := setAt_len n f l; omega
theorem put_len (d : HDisk) (n : Int) (f : HFile) : (d.put n f).files.length ≤ d.files.length + 1 := setAt_len _ _ _
theorem del_len (d : HDisk) (n : Int) : (d.del n).files.length ≤ d.files.length := List.length_filter_le _ _
theorem append_files (d : HDisk) (n : Int) (b : Bytes) : (d.append n b).2.files.length ≤ d.files.length + 1 := by
  unfold HDisk.append; split
  · simp
  · split
    · simp
    · exact put_len _ _ _
theorem sync_files (d : HDisk) (n : Int) : (d.sync n).2.files.length ≤ d.files.length + 1 := by
  unfold HDisk.sync; split
  · simp
  · split
    · simp
    · split
      · show d.files.length ≤ _; omega
      · exact put_len d.works _ _
theorem rename_files (d : HDisk) (n m : Int) : (d.rename n m).2.files.length ≤ d.files.length + 1 := by
  unfold HDisk.rename; split
  · simp
  · split
    · simp
    · split
      · show d.files.length ≤ _; omega
      · have h1 := put_len (d.works.del n) m ‹HFile›
        have h2 := del_len d.works n
        have h3 : d.works.files.length = d.files.length := rfl
        simp only at h1 ⊢; omega
theorem remove_files (d : HDisk) (n : Int) : (d.remove n).2.files.length ≤ d.files.length := by
  unfold HDisk.remove; split
  · simp
  · split
    · simp
    · split
      · show d.files.length ≤ _; omega
      · exact del_len d.works n
theorem jput_files (j : HJ) (d : HDisk) (n : Int) (b : Bytes) : (j.put d n b).2.2.files.length ≤ d.files.length + 2 := by
  unfold HJ.put
  have h1 := append_files d n b
  simp only
  split
  · simp only; omega
  · have h2 := sync_files (d.append n b).2 n
    simp only; omega
theorem jappend_files (j : HJ) (d : HDisk) (rs : List Bytes) : (j.append d rs).2.2.files.length ≤ d.files.length + 2 := by
  unfold HJ.append
  split
  · simp
  · split
    · simp
    · have := jput_files j d (w64 (2 + j.turn)) (rs.flatMap frameOf)
      simp only
      split
      · exact this
      · exact this
theorem jsave_files (j : HJ) (d : HDisk) (b : Bytes) : (j.save d b).2.2.files.length ≤ d.files.length + 3 := by
  unfold HJ.save
  split
  · simp
  · split
    · simp
    · have h1 := jput_files j d 1 (frameOf (varPut (w64 (j.turn + 1)) ++ b))
      simp only
      split
      · omega
      · have h2 := rename_files (j.put d 1 (frameOf (varPut (w64 (j.turn + 1)) ++ b))).2.2 1 0
        split
        · simp only; omega
        · split
          · simp only; omega
          · have h3 := remove_files ((j.put d 1 (frameOf (varPut (w64 (j.turn + 1)) ++ b))).2.2.rename 1 0).2 (w64 (2 + j.turn))
            simp only; omega
theorem restart_files (d : HDisk) (keep : Int) : (d.restart keep).files.length = d.files.length := by simp [HDisk.restart]
/-- Up to twelve rows, each of up to 500 bytes. -/
def few (rs : List Bytes) : List Bytes := (rs.take 12).map fun r => r.take 500
theorem few_len (rs : List Bytes) : (few rs).length ≤ 12 := by simp [few]; omega
theorem few_each {rs : List Bytes} {r : Bytes} (h : r ∈ few rs) : r.length ≤ 500 := by
  obtain ⟨x, _, rfl⟩ := List.mem_map.1 h
  rw [List.length_take]; omega
theorem few_frames (rs : List Bytes) : (frames (few rs)).length ≤ 6072 := by
  have h1 := frames_len_le (rs := few rs) (n := 500) (fun r hr => few_each hr)
  have h2 := few_len rs
  have : (6 + 500) * (few rs).length ≤ 506 * 12 := Nat.mul_le_mul_left _ h2
  omega
/-- A journal on a disk that goes on anew. -/
theorem JC.again {d : HDisk} {t : Int} {b : Bytes} {rs : List Bytes} (h : JC d t b rs) (keep : Int) : ∃ d', HJ.openD (d.restart keep) = (0, ⟨t, b, rs, false⟩, d') ∧ JC d' t b rs ∧ d'.room = d.room := by
  obtain ⟨d', k, _, h1, h2, h3, h4⟩ := h.jd.g.open keep
  simp only [List.take_nil, List.append_nil] at h1 h3
  exact ⟨d', h1, ⟨h3, h2⟩, h4⟩
end Hw
