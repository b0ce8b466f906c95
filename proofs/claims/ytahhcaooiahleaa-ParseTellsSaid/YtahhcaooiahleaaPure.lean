/- The plain functions: what the layers' calls compute. No program in sight. -/
namespace Go.Proofs.Ytahhcaooiahleaa

/-! ## Sources and the range decoder -/

/-- A source: a byte that was read ahead; how many bytes may still be asked for; the bytes. -/
structure Src where
  held : Option Nat
  lim : Option Nat
  rest : List Nat

/-- The first byte (0, if there is none); whether there is one. -/
def hd (l : List Nat) : Nat := l.headD 0
def any (l : List Nat) : Bool := !l.isEmpty

/-- What lies below 'ahead': a feed, or a limited one. -/
def Src.under (s : Src) : Nat × Bool × Src :=
  match s.lim with
  | none => (hd s.rest, any s.rest, { s with rest := s.rest.tail })
  | some 0 => (0, false, s)
  | some (n + 1) => (hd s.rest, any s.rest, { s with lim := some n, rest := s.rest.tail })

def Src.next (s : Src) : Nat × Bool × Src :=
  match s.held with
  | some b => (b, true, { s with held := none })
  | none => s.under

structure RC where
  src : Src
  rng : Nat
  code : Nat
  bad : Bool

def RC.next (d : RC) : Nat × RC :=
  if d.bad then (0, d) else (d.src.next.1, { d with src := d.src.next.2.2, bad := !d.src.next.2.1 })

def RC.level (d : RC) : RC :=
  if d.rng < 16777216 then
    { (RC.next { d with rng := d.rng * 256 }).2 with code := (d.code * 256 + (RC.next { d with rng := d.rng * 256 }).1) % 4294967296 }
  else d

/-- The probability behind a bit. -/
def turn (p : Nat) (bit : Nat) : Nat := if bit = 0 then p + (2048 - p) / 32 else p - p / 32

/-- A bit with probability p: the bit, the decoder, the probability. -/
def RC.bit (d : RC) (p : Nat) : Nat × RC × Nat :=
  if d.bad then (0, d, p)
  else if d.code < d.rng / 2048 * p then (0, RC.level { d with rng := d.rng / 2048 * p }, p + (2048 - p) / 32)
  else
    (if (RC.level { d with code := d.code - d.rng / 2048 * p, rng := d.rng - d.rng / 2048 * p }).bad then 0 else 1,
     RC.level { d with code := d.code - d.rng / 2048 * p, rng := d.rng - d.rng / 2048 * p }, p - p / 32)

/-! ## The range coder -/

structure RE where
  low : Nat
  rng : Nat
  waits : Nat
  more : Nat
  out : List Nat

def RE.new : RE := { low := 0, rng := 4294967295, waits := 0, more := 0, out := [] }

def RE.give (c : RE) : RE :=
  if c.low < 4278190080 ∨ 4294967296 ≤ c.low then
    { c with out := c.out ++ [(c.waits + c.low / 4294967296) % 256] ++ List.replicate c.more ((255 + c.low / 4294967296) % 256),
             waits := c.low / 16777216 % 256, more := 0, low := c.low % 16777216 * 256 }
  else { c with more := c.more + 1, low := c.low % 16777216 * 256 }

def RE.level (c : RE) : RE := if c.rng < 16777216 then RE.give { c with rng := c.rng * 256 } else c

def RE.bit (c : RE) (p : Nat) (b : Nat) : RE :=
  if b = 0 then RE.level { c with rng := c.rng / 2048 * p }
  else RE.level { c with low := c.low + c.rng / 2048 * p, rng := c.rng - c.rng / 2048 * p }

def RE.count (c : RE) : Nat := c.out.length + c.more + 5

def RE.finish (c : RE) : List Nat := c.give.give.give.give.give.out

end Go.Proofs.Ytahhcaooiahleaa
