import Derived.Test.YtdgcafohfedbhaaDoorPI
import Derived.Laws.Bits64b
namespace Go.Proofs.YtdgcafohfedbhaaDoor.K
open Go.RowKit Go.Joins
set_option linter.unusedVariables false

/-- a number at the beginning: the error, the number, how many bytes -/
def scan : List Nat → Nat → Nat → Int × Nat × Nat
  | [], _, _ => (17, 0, 0)
  | b :: r, i, acc => if (i = 0 ∧ b = 128) ∨ i = 9 then (2, 0, 0) else if b < 128 then (0, acc * 128 + b % 128, i + 1) else scan r (i + 1) (acc * 128 + b % 128)
theorem scan_drop (bs : List Nat) (i acc b : Nat) (h : bs[i]? = some b) : scan (bs.drop i) i acc = if (i = 0 ∧ b = 128) ∨ i = 9 then (2, 0, 0) else if b < 128 then (0, acc * 128 + b % 128, i + 1) else scan (bs.drop (i + 1)) (i + 1) (acc * 128 + b % 128) := by
  have hl := (List.getElem?_eq_some_iff.1 h).1
  have e : bs.drop i = b :: bs.drop (i + 1) := by
    rw [List.drop_eq_getElem_cons hl]
    congr 1
    have := (List.getElem?_eq_some_iff.1 h).2
    exact this
  rw [e, scan]
theorem and127_8 (a : Nat) (ha : a < 256) : bits .and .u8 (a : Int) 127 = ((a % 128 : Nat) : Int) := by
  have h1 : (BitVec.ofInt 8 (a : Int)).toNat = a := by
    rw [BitVec.ofInt_natCast, BitVec.toNat_ofNat]; exact Nat.mod_eq_of_lt (by omega)
  have h2 : (BitVec.ofInt 8 127).toNat = 127 := by decide
  show IntKind.u8.wrap ((BitVec.ofInt 8 (a : Int) &&& BitVec.ofInt 8 127).toNat : Int) = _
  rw [BitVec.toNat_and, h1, h2, IntKind.wrap_u8, show a &&& 127 = a % 128 from Nat.and_two_pow_sub_one_eq_mod a 7]
  omega
theorem or_low (a d : Nat) (ha : a < 72057594037927936) (hd : d < 128) : bits .or .u64 ((a * 128 : Nat) : Int) (d : Int) = ((a * 128 + d : Nat) : Int) := by
  rw [bits_or_u64_nat (a * 128) d (by omega) (by omega)]
  have := Nat.two_pow_add_eq_or_of_lt (i := 7) hd a
  rw [show 2 ^ 7 * a = a * 128 by omega] at this
  rw [← this]
end Go.Proofs.YtdgcafohfedbhaaDoor.K
