/-
  Plain Lean, no program: what the functions of package word that are proved by hand compute, place by place over the model's own decoder of runes.
-/
import Derived.Lib.DecodeNEq
namespace Go.Proofs.YtfaelejeihmgcaaDoor.Wd

/-- how many bytes the rune at a place has -/
def width (s : ByteArray) (i : Nat) : Nat := (Utf8.decode s i).2
/-- may the rune at a place stand in a plain word? -/
def mayR (r n : Nat) : Bool := !(decide (r = 65533 ∧ n < 2) || decide (r = 34) || decide (r = 92) || decide (r < 33) || decide (127 ≤ r ∧ r ≤ 160))
def mayB (s : ByteArray) (i : Nat) : Bool := mayR (Utf8.decode s i).1 (Utf8.decode s i).2
/-- the byte at a place -/
def byteAt (s : ByteArray) (i : Nat) : UInt8 := s.get! i
def bytesAt (s : ByteArray) (i n : Nat) : List UInt8 := (s.data.toList.drop i).take n

def plainFrom (s : ByteArray) : Nat → Nat → Bool
  | 0, _ => true
  | f + 1, pos => if pos < s.size then mayB s pos && plainFrom s f (pos + width s pos) else true
def plainB (s : ByteArray) : Bool := plainFrom s s.size 0 && decide (s.size ≠ 0)

def hexD (n : Nat) : UInt8 := if n < 10 then (48 + n).toUInt8 else (87 + n).toUInt8
def hexQ (c : UInt8) : List UInt8 := [92, hexD (c.toNat / 16), hexD (c.toNat % 16)]
def quote1 (s : ByteArray) (pos : Nat) : List UInt8 :=
  if mayB s pos || byteAt s pos == 32 then bytesAt s pos (width s pos)
  else if byteAt s pos == 34 || byteAt s pos == 92 then [92, byteAt s pos]
  else (bytesAt s pos (width s pos)).flatMap hexQ
def quoteFrom (s : ByteArray) : Nat → Nat → List UInt8
  | 0, _ => []
  | f + 1, pos => if pos < s.size then quote1 s pos ++ quoteFrom s f (pos + width s pos) else []
def quoteB (s : ByteArray) : List UInt8 := if plainB s then s.data.toList else 34 :: (quoteFrom s s.size 0 ++ [34])

def hexV (c : UInt8) : Option Nat := if 48 ≤ c.toNat ∧ c.toNat ≤ 57 then some (c.toNat - 48) else if 97 ≤ c.toNat ∧ c.toNat ≤ 102 then some (c.toNat - 87) else none
def esc2 : Option Nat → Option Nat → Option (UInt8 × Nat)
  | some a, some b => some ((16 * a + b).toUInt8, 2)
  | some _, none => none
  | none, _ => none
/-- the byte that stands behind a backslash, and how many bytes say it -/
def escB (s : ByteArray) (i : Nat) : Option (UInt8 × Nat) :=
  if i < s.size ∧ (byteAt s i = 34 ∨ byteAt s i = 92) then some (byteAt s i, 1)
  else if i + 1 < s.size then esc2 (hexV (byteAt s i)) (hexV (byteAt s (i + 1)))
  else none
def quotedFrom (s : ByteArray) : Nat → Nat → List UInt8 → Option (List UInt8 × Nat)
  | 0, _, _ => none
  | f + 1, pos, acc =>
    if pos < s.size then
      if mayB s pos || byteAt s pos == 32 then quotedFrom s f (pos + width s pos) (acc ++ bytesAt s pos (width s pos))
      else if byteAt s pos = 34 then some (acc, pos + 1)
      else if byteAt s pos = 92 then
        match escB s (pos + 1) with
        | some (c, n) => quotedFrom s f (pos + 1 + n) (acc ++ [c])
        | none => none
      else none
    else none

theorem width_pos (s : ByteArray) (i : Nat) : 1 ≤ width s i := by
  unfold width
  rw [Lib.decode_at]
  unfold Lib.decodeN
  repeat' split
  all_goals simp
theorem width_le (s : ByteArray) (i : Nat) (h : i < s.size) : i + width s i ≤ s.size := by
  unfold width
  rw [Lib.decode_at]
  unfold Lib.decodeN
  repeat' split
  all_goals simp
  all_goals omega

end Go.Proofs.YtfaelejeihmgcaaDoor.Wd
