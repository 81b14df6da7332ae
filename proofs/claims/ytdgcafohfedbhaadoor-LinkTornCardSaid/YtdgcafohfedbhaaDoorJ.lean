import Derived.Test.YtdgcafohfedbhaaDoorI
namespace Go.Proofs.YtdgcafohfedbhaaDoor.T
open Go.RowKit Go.Joins
open Go.Proofs.YtdgcafohfedbhaaDoor.K
attribute [local go_sem] Oper.semAt_some
set_option linter.unusedVariables false
set_option linter.unusedSimpArgs false

/-- the clones: each value is a row of its own that shows its payload -/
def Clones (W : World) (B : Nat) (vals : List Value) (L : List (List Nat)) : Prop := ∀ (j : Nat) (v : Value) (x : List Nat), vals[j]? = some v → L[j]? = some x → W.ownsRow B 5 1 v x.length (byts x)
theorem own_grown {W W' : World} {B n : Nat} {v : Value} {xs : List Value} {row : Option Nat} (h : W.ownsRow B 5 1 v n xs) (hg : W.grownBy W' row) (hr : ∀ k, row = some k → ∃ cur, W.heap[k]? = some (.cells cur 22 (0, 0))) : W'.ownsRow B 5 1 v n xs := by
  rcases h.2 with ⟨rfl, h0⟩ | ⟨g, cap, cur, rfl, hB, hh, r⟩
  · exact ⟨h.1, .inl ⟨rfl, h0⟩⟩
  · refine own_same h fun k hk => hg.block k (h.lt k hk).2 (fun e => ?_)
    obtain ⟨cur', hc⟩ := hr k e.symm
    have e2 : g = k := Option.some.inj hk
    subst e2
    rw [hh] at hc
    cases hc
theorem row_block {W : World} {B n s e : Nat} {v : Value} {xs : List Value} (h : W.ownsRow B e s v n xs) (k : Nat) (hk : v.ownBlock = some k) : ∃ cur, W.heap[k]? = some (.cells cur e (0, 0)) := by
  rcases h.2 with ⟨rfl, _⟩ | ⟨g, cap, cur, rfl, hB, hh, _⟩
  · cases hk
  · have e2 : g = k := Option.some.inj hk
    subst e2
    exact ⟨cur, hh⟩
theorem Clones.below {W W' : World} {B : Nat} {vals : List Value} {L : List (List Nat)} (h : Clones W B vals L) (hb : Below W.heap.size W W') : Clones W' B vals L := fun j v x hv hx => own_below (h j v x hv hx) hb
theorem Clones.snoc {W : World} {B : Nat} {vals : List Value} {L : List (List Nat)} {v : Value} {x : List Nat} (h : Clones W B vals L) (hx : L[vals.length]? = some x) (hv : W.ownsRow B 5 1 v x.length (byts x)) : Clones W B (vals ++ [v]) L := by
  intro j u y hu hy
  rw [List.getElem?_append] at hu
  split at hu
  · exact h j u y hu hy
  · rename_i hj
    have hjl : j = vals.length := by have := (List.getElem?_eq_some_iff.1 hu).1; simp at this; omega
    subst hjl
    simp at hu
    subst hu
    rw [hx] at hy
    cases hy
    exact hv
/-- a world in which some blocks alone are other ones -/
theorem Clones.same {W W' : World} {B : Nat} {vals : List Value} {L : List (List Nat)} (h : Clones W B vals L) (hb : ∀ k, B ≤ k → k < W.heap.size → W'.heap[k]? = W.heap[k]?) : Clones W' B vals L := fun j v x hv hx => own_same (h j v x hv hx) fun k hk => hb k ((h j v x hv hx).lt k hk).1 ((h j v x hv hx).lt k hk).2

/-- i frames were scanned -/
structure SJ (w : World) (t D N c : Nat) (a : Option Addr) (L : List (List Nat)) (rec : LoopState → Option Code → Loop) (i : Nat) (W : World) : Prop where
  bel : Below t w W
  size : D + 2 ≤ W.heap.size
  out : ∃ v vals, W.heap[t]? = some (.cells #[v] 32 (0, 0)) ∧ W.ownsRow (D + 2) 22 1 v i vals ∧ Clones W (D + 2) vals L
  fin : W.heap[t + 1]? = some (.cells #[.int .i64 (off L i : Int)] 3 (0, 0))
  box : W.heap[t + 2]? = some (.cells #[.slice a N c] 22 (0, 0))
  ready : Ready W (D + 1) D rec
theorem SJ.below {w W W' : World} {t D N c i : Nat} {a : Option Addr} {L : List (List Nat)} {rec : LoopState → Option Code → Loop} (h : SJ w t D N c a L rec i W) (ht : t + 2 < D) (hb : Below W.heap.size W W') : SJ w t D N c a L rec i W' := by
  obtain ⟨v, vals, h1, h2, h3⟩ := h.out
  have hs := h.size
  exact ⟨h.bel.trans (hb.mono (by omega)), Nat.le_trans hs hb.size, ⟨v, vals, below_blk hb h1, own_below h2 hb, h3.below hb⟩, below_blk hb h.fin, below_blk hb h.box, ⟨below_blk hb h.ready.1, below_blk hb h.ready.2⟩⟩
/-- two stores, in either order -/
theorem two_set {w2 : World} {p q tp tq : Nat} {x0 y0 x y : Value} (hpq : p ≠ q) (hp : w2.heap[p]? = some (.cells #[x0] tp (0, 0))) (hq : w2.heap[q]? = some (.cells #[y0] tq (0, 0))) :
    (∀ k, k ≠ p → k ≠ q → ((w2.setCell ⟨p, 0, none⟩ x).setCell ⟨q, 0, none⟩ y).heap[k]? = w2.heap[k]?) ∧ ((w2.setCell ⟨p, 0, none⟩ x).setCell ⟨q, 0, none⟩ y).heap[p]? = some (.cells #[x] tp (0, 0)) ∧ ((w2.setCell ⟨p, 0, none⟩ x).setCell ⟨q, 0, none⟩ y).heap[q]? = some (.cells #[y] tq (0, 0)) ∧ ((w2.setCell ⟨p, 0, none⟩ x).setCell ⟨q, 0, none⟩ y).heap.size = w2.heap.size ∧
    ((w2.setCell ⟨p, 0, none⟩ x).setCell ⟨q, 0, none⟩ y).os = w2.os ∧ ((w2.setCell ⟨p, 0, none⟩ x).setCell ⟨q, 0, none⟩ y).tape = w2.tape ∧ ((w2.setCell ⟨p, 0, none⟩ x).setCell ⟨q, 0, none⟩ y).output = w2.output := by
  have h1 : (w2.setCell ⟨p, 0, none⟩ x).heap[p]? = some (.cells #[x] tp (0, 0)) := by simpa using block_setCell (i := 0) hp x
  have h2 : (w2.setCell ⟨p, 0, none⟩ x).heap[q]? = some (.cells #[y0] tq (0, 0)) := (Below.heap_setCell _ _ _ _ (Ne.symm hpq)).trans hq
  refine ⟨fun k k1 k2 => (Below.heap_setCell _ _ _ _ k2).trans (Below.heap_setCell _ _ _ _ k1), (Below.heap_setCell _ _ _ _ hpq).trans h1, by simpa using block_setCell (i := 0) h2 y, by simp [World.setCell], rfl, rfl, rfl⟩
end Go.Proofs.YtdgcafohfedbhaaDoor.T
