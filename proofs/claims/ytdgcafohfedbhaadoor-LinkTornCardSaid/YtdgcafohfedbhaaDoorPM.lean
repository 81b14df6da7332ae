import Derived.Test.YtdgcafohfedbhaaDoorPA
import Derived.RangeFuncIn
import Derived.RangeFuncRecord
import Derived.RangeFuncLeaves
import Derived.RangeFuncOwn
import Derived.RangeFuncCalls
import Derived.Below
namespace Go.Proofs.YtdgcafohfedbhaaDoor.K
open Go.RowKit
variable {P : Program}

/-! ### a range over a function: the statement, one round, the function's end (at the wide fence) -/
/-- the loop's record l is ready, the block D for the rounds' deferred calls is open -/
def Ready (W : World) (l D : Nat) (rec : LoopState → Option Code → Loop) : Prop := W.heap[l]? = some (.loop (rec .ready none)) ∧ W.heap[D]? = some (.deferred (some []))
/-- a round has left the body by 'return' -/
def Left (W : World) (l D : Nat) (rec : LoopState → Option Code → Loop) : Prop := W.heap[l]? = some (.loop (rec .done (some .ret))) ∧ W.heap[D]? = some (.deferred (some []))
def Busy (W : World) (l D : Nat) (rec : LoopState → Option Code → Loop) : Prop := W.heap[l]? = some (.loop (rec .busy none)) ∧ W.heap[D]? = some (.deferred (some []))

/-- how a round's body may be left -/
def roundEnd (l D : Nat) (rec : LoopState → Option Code → Loop) (R : Ending → World → Prop) : Exit → Act → World → Prop
  | .normal, _, W => Busy W l D rec ∧ R (.returned (.bool true)) (W.putObj l (.loop (rec .ready none)))
  | .ret, _, W => Busy W l D rec ∧ R (.returned (.bool false)) (W.putObj l (.loop (rec .done (some .ret))))
  | _, _, _ => False

def mkRec (fn : FuncId) (tmps : Array Value) (ps : Array Tmp) (assign body : Code) (D : Nat) : LoopState → Option Code → Loop := fun st pe => { state := st, pending := pe, fn, tmps, params := ps, assign, body, defers := D }

theorem yield_of {n l D fn : Nat} {tmps : Array Value} {ps : Array Tmp} {assign body : Code} {rec : LoopState → Option Code → Loop} (hrec : rec = mkRec fn tmps ps assign body D) {W : World} {args : Array Value} {R : Ending → World → Prop} (hR : Ready W l D rec) (hs : args.size = ps.size)
    (h : assign.wpIn (Fence.wide.inRound l) n P (Exit.then (fun a₁ W₁ => Ready W₁ l D rec ∧
      body.wpIn (Fence.wide.inRound l) n P (roundEnd l D rec R) a₁ (W₁.putObj l (.loop (rec .busy none)))) (fun _ _ _ => False))
      { tmps := (ps.zip args).foldl (fun t (p, v) => t.setIfInBounds p v) tmps, defers := [] } W) :
    YieldAt Fence.wide n P l args W R := by
  subst hrec
  have hy := run_yield (P := P) (args := args) hR.1 hs
  refine ⟨fn, _, assign, body, hy, roundIn_of_wpIn trivial (wpIn_mono h ?_)⟩
  rintro e a W₁ hp
  cases e with
  | normal =>
    obtain ⟨hr, hb⟩ := hp
    refine ⟨_, run_beginRound hr.1 rfl, wpIn_mono hb ?_⟩
    rintro e a3 W3 hq
    cases e with
    | normal => exact ⟨_, _, run_endRound none hq.1.1, hq.2⟩
    | ret => exact ⟨_, _, run_endRound (some .ret) hq.1.1, hq.2⟩
    | exit id => exact hq.elim
    | goto t => exact hq.elim
    | panic ch => exact hq.elim
    | outgrown => exact hq.elim
  | ret => exact hp.elim
  | exit id => exact hp.elim
  | goto t => exact hp.elim
  | panic ch => exact hp.elim
  | outgrown => exact hp.elim

/-- THE STATEMENT -/
theorem range_law {n : Nat} {g : Operand} {ps : Array Tmp} {assign body : Code} {Q : Exit → Act → World → Prop} {a : Act} {w : World} {gf : Nat} {lb : Array Value}
    (hg : a.eval g = .func (.func gf) #[] lb) (eg : ∀ args w, (callFunc gf args).run P w = .ok (.enter gf args) w)
    (h : ∀ (fn : Nat) (W0 : World) (rec : LoopState → Option Code → Loop), rec = mkRec fn a.tmps ps assign body w.heap.size → W0 = (w.alloc (.deferred (some []))).alloc (.loop (rec .ready none)) →
      Calls P gf (#[.func (.yield (w.heap.size + 1)) #[] #[]] ++ lb) W0 fun e W => (∃ v, e = .returned v) ∧
      ((Ready W (w.heap.size + 1) w.heap.size rec ∧ Q .normal { a with defers := { target := .collected w.heap.size, args := #[] } :: a.defers } (W.putObj (w.heap.size + 1) (.loop (rec .exhausted none)))) ∨
       (Left W (w.heap.size + 1) w.heap.size rec ∧ Q .ret { a with defers := { target := .collected w.heap.size, args := #[] } :: a.defers } (W.putObj (w.heap.size + 1) (.loop (rec .exhausted (some .ret))))))) :
    (Code.rangeFunc g ps assign body).wp P Q a w := by
  refine (wpIn_wide (n := n)).1 (wpIn_rangeFunc ?_)
  intro fn _
  obtain ⟨W1, hW1⟩ : ∃ W1, (w.alloc (.deferred (some []))).alloc (.loop (mkRec fn a.tmps ps assign body w.heap.size .ready none)) = W1 := ⟨_, rfl⟩
  have h := h fn W1 _ rfl hW1.symm
  refine ⟨w.heap.size + 1, [{ target := .collected w.heap.size, args := #[] }], W1, { target := .fn (.func gf) lb, args := #[.func (.yield (w.heap.size + 1)) #[] #[]] }, W1, gf,
    #[.func (.yield (w.heap.size + 1)) #[] #[]] ++ lb, W1, by rw [← hW1]; exact run_enterLoop_outer _ _ _ _ _, ?_, fun _ _ => trivial, ?_, fun hd => by simp [Fence.wide] at hd, ?_⟩
  · simp only [resolve, hg]
    simp [go_sem]
  · simp [invoke, go_sem, eg]
  · refine callsIn_wide.2 (h.mono ?_)
    rintro e W ⟨⟨v, rfl⟩, ⟨hr, hq⟩ | ⟨hr, hq⟩⟩
    · exact ⟨none, _, run_endLoop hr.1 (by simp [mkRec]), hq⟩
    · exact ⟨some .ret, _, run_endLoop hr.1 (by simp [mkRec]), wpIn_ret hq⟩

/-- a function whose body holds such a statement -/
theorem calls_marks {n : Nat} {f : FuncId} {fn : Func} {c : Code} {args : Array Value} {w : World} {R : Ending → World → Prop} (hf : P.funcs[f]? = some fn) (hb : fn.body = some c)
    (h : c.wp P (bodyPostM Fence.wide n P fn R) { tmps := args ++ Array.replicate (fn.ntmps - args.size) undef, defers := [] } w) : Calls P f args w R :=
  callsIn_wide.1 (callsIn_of_wp_marks (n := n) hf hb trivial ((wpIn_wide (n := n)).2 h))

/-- its end, at one mark -/
theorem end_mark {n D : Nat} {fn : Func} {R : Ending → World → Prop} {a : Act} {W : World} {x : Exit} (hx : x = .normal ∨ x = .ret) (hd : a.defers = [{ target := .collected D, args := #[] }]) (hD : W.heap[D]? = some (.deferred (some [])))
    (h : LeavesIn Fence.wide n P fn a.tmps R [] .returning (W.putObj D (.deferred none))) : bodyPostM Fence.wide n P fn R x a W := by
  rcases hx with rfl | rfl
  all_goals
    show LeavesInM Fence.wide n P fn a.tmps R a.defers .returning W
    rw [hd]
    exact ⟨by simp, .inl ⟨_, _, rfl, run_takeDeferred hD, h⟩⟩

/-! ### a block that holds no cells is turned -/
theorem put_cell {W : World} {l : Nat} {o o' : Obj} (h : W.heap[l]? = some o) (ho : o.isCells = false) (ho' : o'.isCells = false) (x : Addr) : (W.putObj l o').cell? x = W.cell? x := by
  by_cases e : x.block = l
  · have hl := (Array.getElem?_eq_some_iff.1 h).1
    unfold World.cell?
    rw [e, World.putObj_heap_same hl, h]
    cases o <;> cases o' <;> first | rfl | (simp [Obj.isCells] at ho; done) | (simp [Obj.isCells] at ho'; done)
  · exact World.cell?_of_block (World.putObj_heap_other e)
theorem put_blk {W : World} {l b : Nat} {o o' o2 : Obj} (h : W.heap[l]? = some o) (ho : o.isCells = false) (hb : W.heap[b]? = some o2) (h2 : o2.isCells = true) : (W.putObj l o').heap[b]? = some o2 := by
  rw [World.putObj_heap_other (fun e => by subst e; rw [hb] at h; cases h; rw [ho] at h2; cases h2)]; exact hb
theorem below_put {B : Nat} {W w : World} {l : Nat} (h : Below B w W) (hl : B ≤ l) (o : Obj) : Below B w (W.putObj l o) :=
  ⟨h.os, h.tape, h.output, by simpa using h.size, fun k hk => (World.putObj_heap_other (by omega)).trans (h.block k hk)⟩
end Go.Proofs.YtdgcafohfedbhaaDoor.K
