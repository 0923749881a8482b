/- The plain mirror of the layers crc, varint, frame, disk, journal: functions on lists and numbers, no Go and no memory. -/
namespace Hw
abbrev Bytes := List UInt8

/-! ### crc -/
def crcRound (r : Nat) : Nat := if r % 2 = 1 then (r / 2) ^^^ 3988292384 else r / 2
def crcIter : Nat → Nat → Nat
  | 0, r => r
  | n + 1, r => crcIter n (crcRound r)
def crcStep (r c : Nat) : Nat := crcIter 8 (r ^^^ c)
def crcFrom (r : Nat) (b : Bytes) : Nat := b.foldl (fun r c => crcStep r c.toNat) r
def crcSum (b : Bytes) : Nat := 4294967295 - crcFrom 4294967295 b

/-! ### varint -/
def zig (n : Int) : Nat := if n < 0 then (-2 * n - 1).toNat else (2 * n).toNat
def unzig (u : Nat) : Int := if u % 2 = 1 then -((u / 2 : Nat) : Int) - 1 else ((u / 2 : Nat) : Int)
def putU (u : Nat) : Bytes := if _h : 128 ≤ u then UInt8.ofNat (u % 128 + 128) :: putU (u / 128) else [UInt8.ofNat u]
def varPut (n : Int) : Bytes := putU (zig n)
def varGetGo : Nat → Nat → Bytes → Option (Int × Bytes)
  | _, _, [] => none
  | k, u, c :: rest =>
    if 10 ≤ k then none
    else if k = 9 ∧ 1 < c.toNat then none
    else if 128 ≤ c.toNat then varGetGo (k + 1) (u + c.toNat % 128 * 2 ^ (7 * k)) rest
    else if 0 < k ∧ c.toNat = 0 then none
    else some (unzig (u + c.toNat % 128 * 2 ^ (7 * k)), rest)
def varGet (b : Bytes) : Option (Int × Bytes) := varGetGo 0 0 b
def varAll (ns : List Int) : Bytes := ns.flatMap varPut

/-! ### frame -/
def be16 (n : Nat) : Bytes := [UInt8.ofNat (n / 256), UInt8.ofNat n]
def be32 (s : Nat) : Bytes := [UInt8.ofNat (s / 16777216), UInt8.ofNat (s / 65536), UInt8.ofNat (s / 256), UInt8.ofNat s]
def frameOf (b : Bytes) : Bytes := be16 b.length ++ be32 (crcSum b) ++ b
def frameMake (b : Bytes) : Option Bytes := if 16384 < b.length then none else some (frameOf b)
def nat16 (b : Bytes) : Nat := (b.getD 0 0).toNat * 256 + (b.getD 1 0).toNat
def nat32 (b : Bytes) : Nat := (b.getD 2 0).toNat * 16777216 + (b.getD 3 0).toNat * 65536 + (b.getD 4 0).toNat * 256 + (b.getD 5 0).toNat
def frameOne (b : Bytes) : Option (Bytes × Nat) :=
  if b.length < 6 then none
  else if 16384 < nat16 b ∨ b.length < 6 + nat16 b then none
  else if crcSum ((b.drop 6).take (nat16 b)) ≠ nat32 b then none
  else some ((b.drop 6).take (nat16 b), 6 + nat16 b)
def scanGo : Nat → Bytes → List Bytes × Nat
  | 0, _ => ([], 0)
  | f + 1, b => match frameOne b with
    | none => ([], 0)
    | some (x, n) => (x :: (scanGo f (b.drop n)).1, n + (scanGo f (b.drop n)).2)
def frameScan (b : Bytes) : List Bytes × Nat := scanGo (b.length + 1) b

/-! ### disk -/
structure HFile where
  bytes : Bytes
  safe : Nat
  deriving DecidableEq
structure HDisk where
  files : List (Int × HFile)
  room : Nat
  left : Int
  stopped : Bool
  deriving DecidableEq
namespace HDisk
def new (room : Int) : HDisk := ⟨[], (max 0 (min room 262144)).toNat, -1, false⟩
def find (d : HDisk) (n : Int) : Option HFile := d.files.lookup n
def used (d : HDisk) : Nat := (d.files.map fun p => p.2.bytes.length).sum
/-- `works`: the disk behind it; whether the change is done is `!stopped`. -/
def works (d : HDisk) : HDisk := { d with stopped := d.stopped || d.left == 0, left := if 0 < d.left then d.left - 1 else d.left }
def setAt : List (Int × HFile) → Int → HFile → List (Int × HFile)
  | [], n, f => [(n, f)]
  | p :: l, n, f => if p.1 = n then (n, f) :: l else p :: setAt l n f
def delAt (l : List (Int × HFile)) (n : Int) : List (Int × HFile) := l.filter fun p => p.1 != n
def put (d : HDisk) (n : Int) (f : HFile) : HDisk := { d with files := setAt d.files n f }
def del (d : HDisk) (n : Int) : HDisk := { d with files := delAt d.files n }
def arm (d : HDisk) (n : Int) : HDisk := { d with left := max 0 n }
def append (d : HDisk) (n : Int) (b : Bytes) : Int × HDisk :=
  if d.stopped then (12, d)
  else if d.room < d.used + b.length then (8, d)
  else
    let f := (d.find n).getD ⟨[], 0⟩
    (if d.works.stopped then 12 else 0, d.works.put n ⟨f.bytes ++ b, f.safe⟩)
def sync (d : HDisk) (n : Int) : Int × HDisk :=
  if d.stopped then (12, d)
  else match d.find n with
    | none => (2, d)
    | some f => if d.works.stopped then (12, d.works) else (0, d.works.put n ⟨f.bytes, f.bytes.length⟩)
def rename (d : HDisk) (a b : Int) : Int × HDisk :=
  if d.stopped then (12, d)
  else match d.find a with
    | none => (2, d)
    | some f => if d.works.stopped then (12, d.works) else (0, (d.works.del a).put b f)
def remove (d : HDisk) (n : Int) : Int × HDisk :=
  if d.stopped then (12, d)
  else match d.find n with
    | none => (2, d)
    | some _ => if d.works.stopped then (12, d.works) else (0, d.works.del n)
def cut (d : HDisk) (n m : Int) : Int × HDisk :=
  if d.stopped then (12, d)
  else match d.find n with
    | none => (2, d)
    | some f =>
      if m < 0 ∨ (f.bytes.length : Int) < m then (13, d)
      else if d.works.stopped then (12, d.works) else (0, d.works.put n ⟨f.bytes.take m.toNat, m.toNat⟩)
def read (d : HDisk) (n : Int) : Option Bytes := (d.find n).map (·.bytes)
def insertSorted (x : Int) : List Int → List Int
  | [] => [x]
  | y :: l => if x ≤ y then x :: y :: l else y :: insertSorted x l
def sortInts (l : List Int) : List Int := l.foldr insertSorted []
def names (d : HDisk) : List Int := sortInts (d.files.map (·.1))
def keepOf (keep : Int) (f : HFile) : HFile :=
  let m := f.safe + (keep % ((f.bytes.length - f.safe : Nat) + 1 : Int)).toNat
  ⟨f.bytes.take m, m⟩
def restart (d : HDisk) (keep : Int) : HDisk := { d with files := d.files.map fun p => (p.1, keepOf keep p.2), stopped := false, left := -1 }
end HDisk

/-! ### journal -/
/-- An int of 64 bits wraps round. -/
def w64 (x : Int) : Int := (x + 9223372036854775808) % 18446744073709551616 - 9223372036854775808
structure HJ where
  turn : Int
  base : Bytes
  records : List Bytes
  broken : Bool
  deriving DecidableEq
namespace HJ
def removeAll (keep : Int) : List Int → HDisk → Int × HDisk
  | [], d => (0, d)
  | n :: l, d => if n ≠ 0 ∧ n ≠ keep then
      (let r := d.remove n; if r.1 ≠ 0 then r else removeAll keep l r.2)
    else removeAll keep l d
/-- `Open`: the error (0: none), the journal, and the disk. -/
def openRest (d : HDisk) (turn : Int) (base : Bytes) : Int × HJ × HDisk :=
  let r := removeAll (w64 (2 + turn)) d.names d
  if r.1 ≠ 0 then (r.1, ⟨0, [], [], false⟩, r.2)
  else
    let s := frameScan ((r.2.read (w64 (2 + turn))).getD [])
    match r.2.read (w64 (2 + turn)) with
    | none => (0, ⟨turn, base, s.1, false⟩, r.2)
    | some b =>
      if s.2 < b.length then
        (let c := r.2.cut (w64 (2 + turn)) s.2; if c.1 ≠ 0 then (c.1, ⟨0, [], [], false⟩, c.2) else (0, ⟨turn, base, s.1, false⟩, c.2))
      else (0, ⟨turn, base, s.1, false⟩, r.2)
def openD (d : HDisk) : Int × HJ × HDisk :=
  match d.read 0 with
  | none => openRest d 0 []
  | some b =>
    match frameOne b with
    | none => (11, ⟨0, [], [], false⟩, d)
    | some (x, n) =>
      if n ≠ b.length then (11, ⟨0, [], [], false⟩, d)
      else match varGet x with
        | none => (11, ⟨0, [], [], false⟩, d)
        | some (t, rest) => if t < 1 then (11, ⟨0, [], [], false⟩, d) else openRest d t rest
def fail (j : HJ) (e : Int) : HJ := if e = 12 then { j with broken := true } else j
/-- `put`: the error, the journal, the disk. -/
def put (j : HJ) (d : HDisk) (n : Int) (b : Bytes) : Int × HJ × HDisk :=
  let r := d.append n b
  if r.1 ≠ 0 then (r.1, j.fail r.1, r.2)
  else let s := r.2.sync n; (s.1, j.fail s.1, s.2)
def append (j : HJ) (d : HDisk) (rs : List Bytes) : Int × HJ × HDisk :=
  if j.broken then (12, j, d)
  else if rs.any (fun r => decide (16384 < r.length)) then (13, j, d)
  else
    let p := j.put d (w64 (2 + j.turn)) (rs.flatMap frameOf)
    if p.1 ≠ 0 then p else (0, { p.2.1 with records := p.2.1.records ++ rs }, p.2.2)
def save (j : HJ) (d : HDisk) (b : Bytes) : Int × HJ × HDisk :=
  if j.broken then (12, j, d)
  else if 16384 < (varPut (w64 (j.turn + 1)) ++ b).length then (13, j, d)
  else
    let p := j.put d 1 (frameOf (varPut (w64 (j.turn + 1)) ++ b))
    if p.1 ≠ 0 then p
    else
      let r := p.2.2.rename 1 0
      if r.1 ≠ 0 then (r.1, p.2.1.fail r.1, r.2)
      else
        let j' : HJ := ⟨w64 (j.turn + 1), b, [], p.2.1.broken⟩
        match r.2.read (w64 (2 + j.turn)) with
        | none => (0, j', r.2)
        | some _ => let m := r.2.remove (w64 (2 + j.turn)); (m.1, j'.fail m.1, m.2)
end HJ
end Hw
