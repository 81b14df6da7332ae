import Derived.Test.YtdgcafohfedbhaaDoorRows
import Derived.WalkKit
import Derived.WalkSpells
import Derived.WalkLawsBesides
import Derived.Lib.Hide
import Derived.Deep.LoopGhost
import Derived.Maps.AppendAt
import Derived.OwnWalk
import Derived.Deep.AppendLies
import Derived.Deep.QuietTactic
import Derived.BigQuiet
import Derived.Deep.RegionLaw
import Derived.Lib.SmallJoins
namespace Go.Proofs.YtdgcafohfedbhaaDoor.K
open Go.RowKit Go.Joins
theorem below_blk {b : Nat} {w w' : World} (h : Below w.heap.size w w') {o : Obj} (hb : w.heap[b]? = some o) : w'.heap[b]? = some o := by
  have hlt : b < w.heap.size := (Array.getElem?_eq_some_iff.1 hb).1
  rw [h.block b hlt, hb]
theorem own_below {w w' : World} {B e size n : Nat} {v : Value} {xs : List Value} (h : w.ownsRow B e size v n xs) (hb : Below w.heap.size w w') : w'.ownsRow B e size v n xs := by
  refine ⟨h.1, h.2.imp_right ?_⟩
  rintro ⟨g, cap, cur, hv, hg, hh, r⟩
  exact ⟨g, cap, cur, hv, hg, below_blk hb hh, r⟩

structure Touch (g : Nat) (w w' : World) : Prop where
  os : w'.os = w.os
  tape : w'.tape = w.tape
  output : w'.output = w.output
  size : w.heap.size ≤ w'.heap.size
  block : ∀ k, k < w.heap.size → k ≠ g → w'.heap[k]? = w.heap[k]?

namespace Touch
variable {g : Nat} {w w' w1 w2 : World}
theorem refl (g : Nat) (w : World) : Touch g w w := ⟨rfl, rfl, rfl, Nat.le_refl _, fun _ _ _ => rfl⟩
theorem trans (h : Touch g w w1) (k : Touch g w1 w2) : Touch g w w2 :=
  ⟨k.os.trans h.os, k.tape.trans h.tape, k.output.trans h.output, Nat.le_trans h.size k.size, fun i hi hg => (k.block i (Nat.lt_of_lt_of_le hi h.size) hg).trans (h.block i hi hg)⟩
theorem drew (h : Touch g w w1) : Touch g w w1.drew := ⟨h.os, h.tape, h.output, h.size, h.block⟩
theorem drewN (h : Touch g w w1) (n : Nat) : Touch g w (w1.drewN n) := ⟨h.os, h.tape, h.output, h.size, h.block⟩
theorem set_ (h : Touch g w w1) (j : Nat) (u : Value) : Touch g w (w1.setCell ⟨g, j, none⟩ u) :=
  h.trans ⟨rfl, rfl, rfl, by simp [World.setCell], fun k _ hk => Below.heap_setCell _ _ _ _ hk⟩
theorem alloc (h : Touch g w w1) (o : Obj) : Touch g w (w1.alloc o) :=
  h.trans ⟨rfl, rfl, rfl, by simp, fun k hk _ => Below.heap_alloc _ _ _ hk⟩
theorem of_below (h : Below w.heap.size w w1) (g : Nat) : Touch g w w1 := ⟨h.os, h.tape, h.output, h.size, fun k hk _ => h.block k hk⟩
theorem below {n : Nat} (h : Touch g w w1) (hg : n ≤ g) (hn : n ≤ w.heap.size) : Below n w w1 :=
  ⟨h.os, h.tape, h.output, h.size, fun k hk => h.block k (by omega) (by omega)⟩
theorem blk {b : Nat} (h : Touch g w w') {o : Obj} (hb : w.heap[b]? = some o) (hne : b ≠ g) : w'.heap[b]? = some o := by
  have hl := (Array.getElem?_eq_some_iff.1 hb).1
  rw [h.block b hl hne]; exact hb
end Touch
/-- a row of one's own whose block is as it was -/
theorem own_same {w w' : World} {B e size n : Nat} {v : Value} {xs : List Value} (h : w.ownsRow B e size v n xs) (hb : ∀ k, v.ownBlock = some k → w'.heap[k]? = w.heap[k]?) : w'.ownsRow B e size v n xs := by
  refine ⟨h.1, h.2.imp_right ?_⟩
  rintro ⟨g, cap, cur, rfl, hg, hh, r⟩
  exact ⟨g, cap, cur, rfl, hg, (hb g rfl).trans hh, r⟩
theorem cell_block {w : World} {q : Addr} {u : Value} (h : w.cell? q = some u) : q.block < w.heap.size := by
  rcases Nat.lt_or_ge q.block w.heap.size with h' | h'
  · exact h'
  · simp [World.cell?, Array.getElem?_eq_none h'] at h

theorem own_form {w : World} {B e s n : Nat} {v : Value} {xs : List Value} (h : w.ownsRow B e s v n xs) : ∃ ao cap, v = .slice ao n cap := by
  rcases h.2 with ⟨rfl, rfl⟩ | ⟨g, cap, cur, rfl, _⟩
  · exact ⟨none, 0, rfl⟩
  · exact ⟨_, cap, rfl⟩

/-! ### plain: a number's digits to the base 128 -/
def nn (n : Nat) : Nat → Nat
  | 0 => n
  | k + 1 => nn n k / 128
/-- how many digits -/
def len (n : Nat) : Nat := if n < 128 then 1 else len (n / 128) + 1
theorem nn_div (n k : Nat) : nn n k = n / 128 ^ k := by
  induction k with
  | zero => simp [nn]
  | succ k ih => rw [nn, ih, Nat.div_div_eq_div_mul, Nat.pow_succ]
theorem nn_succ (n k : Nat) : nn n (k + 1) = nn (n / 128) k := by
  induction k with
  | zero => rfl
  | succ k ih => rw [nn, ih, nn]
theorem len_pos (n : Nat) : 0 < len n := by
  rw [len]
  split <;> omega
theorem nn_lt (n k : Nat) (hk : k < len n) : nn n k < 128 ↔ k + 1 = len n := by
  induction k generalizing n with
  | zero =>
    rw [len]
    have := len_pos (n / 128)
    rw [len] at hk
    show n < 128 ↔ _
    split
    · simp; assumption
    · omega
  | succ k ih =>
    rw [len] at hk ⊢
    split at hk
    · omega
    · rename_i h
      rw [if_neg h, nn_succ, ih (n / 128) (by omega)]
      omega
theorem len_le (j n : Nat) (h : n < 128 ^ (j + 1)) : len n ≤ j + 1 := by
  induction j generalizing n with
  | zero =>
    rw [len, if_pos (by simpa using h)]
    omega
  | succ j ih =>
    rw [len]
    split
    · omega
    · have := ih (n / 128) (by rw [Nat.div_lt_iff_lt_mul (by decide), ← Nat.pow_succ]; exact h)
      omega
end Go.Proofs.YtdgcafohfedbhaaDoor.K
