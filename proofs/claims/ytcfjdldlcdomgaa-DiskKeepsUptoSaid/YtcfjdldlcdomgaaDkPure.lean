/- Layer 4, disk: what its calls do, as plain functions on lists. Nothing of the program stands here. -/
namespace Go.Dk

/-- A disk: files (their bytes, how many last), is the power off, how often it has failed, the fuse. -/
structure St where
  files : List (List UInt8 × Nat)
  off : Bool
  falls : Nat
  fuse : Option (Int × List Int)

def St.is (s : St) (f : Int) : Bool := decide (0 ≤ f) && decide (f < (s.files.length : Int))
/-- What is kept of what is loose. -/
def kept (keep : List Int) (i : Nat) (n lasts : Nat) : Nat := (max 0 (min (keep.getD i 0) ((n : Int) - lasts))).toNat
def fallFile (keep : List Int) (i : Nat) (x : List UInt8 × Nat) : List UInt8 × Nat :=
  (x.1.take (x.2 + kept keep i x.1.length x.2), x.2 + kept keep i x.1.length x.2)
def St.fall (s : St) (keep : List Int) : St := { files := s.files.mapIdx (fallFile keep), off := true, falls := s.falls + 1, fuse := none }
def St.file (s : St) (f : Nat) : List UInt8 × Nat := s.files.getD f ([], 0)
def St.put (s : St) (f : Nat) (x : List UInt8 × Nat) : St := { s with files := s.files.set f x }
/-- One op of the fuse less; did it burn; what is kept then. -/
def St.lit (s : St) : St := { s with fuse := s.fuse.map fun x => (x.1 - 1, x.2) }
def St.burnt (s : St) : Bool := match s.fuse with | none => false | some (n, _) => decide (n < 1)
def St.keeps (s : St) : List Int := match s.fuse with | none => [] | some (_, k) => k
def St.append (s : St) (f : Int) (b : List UInt8) : St × Int :=
  if s.off then (s, 40) else if s.is f = false then (s, 1) else
  if 16777216 < (s.file f.toNat).1.length + b.length then (s, 41) else
  if s.burnt then ((s.lit.put f.toNat ((s.file f.toNat).1 ++ b, (s.file f.toNat).2)).fall s.keeps, 40)
  else (s.lit.put f.toNat ((s.file f.toNat).1 ++ b, (s.file f.toNat).2), 0)
def St.sync (s : St) (f : Int) : St × Int :=
  if s.off then (s, 40) else if s.is f = false then (s, 1) else
  if s.burnt then (s.lit.fall s.keeps, 40)
  else (s.lit.put f.toNat ((s.file f.toNat).1, (s.file f.toNat).1.length), 0)
def St.truncate (s : St) (f : Int) (n : Int) : St × Int :=
  if s.off then (s, 40) else if s.is f = false then (s, 1) else
  if n < 0 ∨ ((s.file f.toNat).1.length : Int) < n then (s, 1) else
  if s.burnt then (s.lit.fall s.keeps, 40)
  else (s.lit.put f.toNat ((s.file f.toNat).1.take n.toNat, min (s.file f.toNat).2 n.toNat), 0)
def St.read (s : St) (f at_ n : Int) : List UInt8 × Int :=
  if s.off then ([], 40) else if s.is f = false then ([], 1) else
  if at_ < 0 ∨ n < 0 ∨ ((s.file f.toNat).1.length : Int) < at_ ∨ ((s.file f.toNat).1.length : Int) - at_ < n then ([], 1) else
  (((s.file f.toNat).1.drop at_.toNat).take n.toNat, 0)
def St.size (s : St) (f : Int) : Int := if s.is f = false then -1 else (s.file f.toNat).1.length
def St.lasts (s : St) (f : Int) : Int := if s.is f = false then -1 else (s.file f.toNat).2
def St.light (s : St) (ops : Int) (keep : List Int) : St × Int :=
  if s.off then (s, 40) else if ops < 0 then (s, 1) else ({ s with fuse := some (ops, keep) }, 0)
def St.crash (s : St) (keep : List Int) : St := if s.off then s else s.fall keep
def St.restart (s : St) : St := { s with off := false, fuse := none }
def fresh (n : Nat) : St := { files := List.replicate n ([], 0), off := false, falls := 0, fuse := none }

/-- A disk that may be: no file is too long, what lasts is of the file; so many falls. -/
structure St.Ok0 (s : St) (m : Nat) : Prop where
  some : 0 < s.files.length
  many : s.files.length ≤ 8
  file : ∀ x ∈ s.files, x.2 ≤ x.1.length ∧ x.1.length ≤ 16777216
  falls : s.falls ≤ m
/-- The fuse's ops are none below nought, too. -/
structure St.Ok (s : St) (m : Nat) : Prop extends St.Ok0 s m where
  ops : ∀ n k, s.fuse = Option.some (n, k) → 0 ≤ n ∧ n ≤ 9223372036854775807

end Go.Dk
