import Derived.Test.YtopcjopibblpaaaR
import Derived.Lib.SliceRun
namespace Go.Proofs.Ytopcjopibblpaaa
open Go.RowKit Go.Joins

theorem size3 (wx : World) : (sizeOf 3).run Try.prog wx = .ok 1 wx := by kernel_rfl
theorem part38_0 (p q : Int) (wx : World) : (part 3 #[.int .i64 p, .int .i64 q] 0).run Try.prog wx = .ok (.int .i64 p) wx := by kernel_rfl
theorem part38_1 (p q : Int) (wx : World) : (part 3 #[.int .i64 p, .int .i64 q] 1).run Try.prog wx = .ok (.int .i64 q) wx := by kernel_rfl
theorem eqInt (a b : Int) (wx : World) : (Op.equalIn 9999 3 (.int .i64 a) (.int .i64 b)).run Try.prog wx = .ok (a == b) wx :=
  run_equalIn_int wx 9998 3 .i64 .i64 a b Try.underlying3
theorem eqArr2 (p q : Int) (wx : World) : (Op.equalIn 10000 38 (.agg #[.int .i64 p, .int .i64 q]) (.agg #[.int .i64 p, .int .i64 q])).run Try.prog wx = .ok true wx := by
  show (Op.equalIn (9999 + 1) 38 _ _).run Try.prog wx = _
  unfold Op.equalIn
  simp only [Sem.run_bind, run_underlying Try.underlying38, Result.andThen_ok, size3]
  simp only [Nat.mul_one, Std.Legacy.Range.forIn_eq_forIn_range', Std.Legacy.Range.size]
  simp [List.range', part38_0, part38_1, eqInt]
theorem neqArr2 (p q : Int) (wx : World) : (binOp .neq 38 (.agg #[.int .i64 p, .int .i64 q]) (.agg #[.int .i64 p, .int .i64 q])).run Try.prog wx = .ok (.bool false) wx := by
  simp only [binOp]
  simp [Op.equal, Op.maxDepth, eqArr2]

theorem mkPoints (a : Option Addr) (n c : Nat) (q : Addr) (w : World) :
    Calls Try.prog 16 #[.slice a n c, .pointer (some q)] w fun e w' => e = .returned (.func (Fn.func 23) #[] #[.pointer (some ⟨w.heap.size, 0, none⟩), .pointer (some ⟨w.heap.size + 1, 0, none⟩)]) ∧
      w'.heap[w.heap.size]? = some (.cells #[.slice a n c] 24 (0, 0)) ∧ w'.heap[w.heap.size + 1]? = some (.cells #[.pointer (some q)] 51 (0, 0)) ∧ Below w.heap.size w w' := by
  have hmf : ∀ (fn : Fn) (first cap : Array Value) (w : World), (Instr.makeFunc fn first cap).run Try.prog w = .ok (.func fn first cap) w := fun _ _ _ _ => rfl
  go_enter Try.func16, Try.ntmps16
  go_wp2
  go_ret
  refine ⟨rfl, below_blk ((Below.refl _ _).alloc (Nat.le_refl _) _) (heap_alloc_new w _), ?_, ((Below.refl _ w).alloc (Nat.le_refl _) _).alloc (by simp) _⟩
  have := heap_alloc_new (w.alloc (.cells #[.slice a n c] 24)) (.cells #[.pointer (some q)] 51)
  simpa using this
theorem mkEvents (L R F : Int) (A : Bool) (b1 b2 : Nat) (w : World) :
    Calls Try.prog 15 #[.agg #[.int .i64 L, .bool A, .int .i64 R, .int .i64 F], .func (Fn.func 23) #[] #[.pointer (some ⟨b1, 0, none⟩), .pointer (some ⟨b2, 0, none⟩)]] w fun e w' => e = .returned (.func (Fn.func 22) #[] #[.pointer (some ⟨w.heap.size, 0, none⟩), .pointer (some ⟨w.heap.size + 1, 0, none⟩)]) ∧
      AlAt 23 w' w.heap.size ⟨L, A, R, F⟩ ∧ w'.heap[w.heap.size + 1]? = some (.cells #[.func (Fn.func 23) #[] #[.pointer (some ⟨b1, 0, none⟩), .pointer (some ⟨b2, 0, none⟩)]] 49 (0, 0)) ∧ Below w.heap.size w w' := by
  have hmf : ∀ (fn : Fn) (first cap : Array Value) (w : World), (Instr.makeFunc fn first cap).run Try.prog w = .ok (.func fn first cap) w := fun _ _ _ _ => rfl
  go_enter Try.func15, Try.ntmps15
  go_wp2
  go_ret
  refine ⟨rfl, below_blk ((Below.refl _ _).alloc (Nat.le_refl _) _) (heap_alloc_new w _), ?_, ((Below.refl _ w).alloc (Nat.le_refl _) _).alloc (by simp) _⟩
  have := heap_alloc_new (w.alloc (.cells #[.int .i64 L, .bool A, .int .i64 R, .int .i64 F] 23)) (.cells #[.func (Fn.func 23) #[] #[.pointer (some ⟨b1, 0, none⟩), .pointer (some ⟨b2, 0, none⟩)]] 49)
  simpa using this
end Go.Proofs.Ytopcjopibblpaaa
