import Derived.Test.YtjalihmjgjajcaaH
namespace Go.Proofs.Ytjalihmjgjajcaa
open Go.RowKit Go.Joins

def sep (u v : Value) : Prop := ∀ k, u.ownBlock = some k → v.ownBlock ≠ some k
theorem sep_nil (v : Value) : sep (.slice none 0 0) v := fun k hk => by cases hk
theorem sep.symm {u v : Value} (h : sep u v) : sep v u := fun k hk e => h k e hk

/-- a row of one's own whose block is as it was -/
theorem own_same {w w' : World} {B e size n : Nat} {v : Value} {xs : List Value} (h : w.ownsRow B e size v n xs) (hb : ∀ k, v.ownBlock = some k → w'.heap[k]? = w.heap[k]?) : w'.ownsRow B e size v n xs := by
  refine ⟨h.1, h.2.imp_right ?_⟩
  rintro ⟨g, cap, cur, rfl, hg, hh, r⟩
  exact ⟨g, cap, cur, rfl, hg, (hb g rfl).trans hh, r⟩
/-- a row of one's own, one cell of which is written -/
theorem own_set {w : World} {B e g n cap : Nat} {xs : List Value} (h : w.ownsRow B e 1 (.slice (some ⟨g, 0, none⟩) n cap) n xs) (k : Nat) (u : Value) : (w.setCell ⟨g, k, none⟩ u).ownsRow B e 1 (.slice (some ⟨g, 0, none⟩) n cap) n (xs.set k u) := by
  refine ⟨by rw [List.length_set]; exact h.1, .inr ?_⟩
  rcases h.2 with ⟨e0, _⟩ | ⟨g', cap', cur, e0, hg, hh, h1, h2, h3, h4⟩
  · cases e0
  · simp only [Value.slice.injEq, Option.some.injEq, Addr.mk.injEq, and_true, true_and] at e0
    obtain ⟨rfl, rfl⟩ := e0
    refine ⟨g, cap, cur.setIfInBounds k u, rfl, hg, block_setCell hh u, h1, h2, by simpa using h3, ?_⟩
    rw [← h4, Array.toList_setIfInBounds, List.take_set]

/-- what stands between two acts -/
structure St (W wr : World) (p : Nat) (l : List LT) (T L : List Int) (vt vl : Value) : Prop where
  pw : W.heap.size ≤ p
  bel : Below W.heap.size W wr
  ex : ∃ vp, wr.heap[p]? = some (.cells #[vp] 61 (0, 0)) ∧ wr.ownsRow (p + 1) 31 3 vp l.length (flat l) ∧ sep vp vt ∧ sep vp vl
  to : wr.ownsRow (p + 1) 3 1 vt T.length (ints T)
  left : wr.ownsRow (p + 1) 3 1 vl L.length (ints L)
  tl : sep vt vl

namespace St
variable {W wr w' : World} {p : Nat} {l : List LT} {T L : List Int} {vt vl : Value}
theorem post (h : St W wr p l T L vt vl) : PostAt wr (p + 1) p l := by obtain ⟨vp, h1, h2, _⟩ := h.ex; exact ⟨vp, h1, h2⟩
theorem lt (h : St W wr p l T L vt vl) : p < wr.heap.size := by obtain ⟨vp, h1, _⟩ := h.ex; exact (Array.getElem?_eq_some_iff.1 h1).1
theorem below (h : St W wr p l T L vt vl) (hb : Below wr.heap.size wr w') : St W w' p l T L vt vl := by
  obtain ⟨vp, h1, h2, h3⟩ := h.ex
  exact ⟨h.pw, h.bel.trans (hb.mono h.bel.size), ⟨vp, below_blk hb h1, own_below h2 hb, h3⟩, own_below h.to hb, own_below h.left hb, h.tl⟩
/-- behind a call that turns the post alone -/
theorem touch (h : St W wr p l T L vt vl) (ht : Touch p wr w') {l' : List LT} (hp : PostAt w' wr.heap.size p l') : St W w' p l' T L vt vl := by
  have rows : ∀ {e n : Nat} {v : Value} {xs : List Value}, wr.ownsRow (p + 1) e 1 v n xs → w'.ownsRow (p + 1) e 1 v n xs := fun {e n v xs} ho =>
    own_same ho fun k hk => by have := ho.lt k hk; exact ht.block k this.2 (by omega)
  obtain ⟨vp, h1, h2⟩ := hp
  have sp : ∀ {e n : Nat} {v : Value} {xs : List Value}, wr.ownsRow (p + 1) e 1 v n xs → sep vp v := fun ho k hk e => by
    have := (ho.lt k e).2; have := (h2.lt k hk).1; omega
  refine ⟨h.pw, h.bel.trans (ht.below h.pw h.bel.size), ⟨vp, h1, ownsRow_le h2 h.lt, sp h.to, sp h.left⟩, rows h.to, rows h.left, h.tl⟩
/-- behind a call that turns another block of one's own alone (a variable's) -/
theorem other (h : St W wr p l T L vt vl) {b : Nat} (ht : Touch b wr w') (hb : W.heap.size ≤ b) (hp : b ≠ p) (hv : ∀ vp, wr.heap[p]? = some (.cells #[vp] 61 (0, 0)) → vp.ownBlock ≠ some b) (h1 : vt.ownBlock ≠ some b) (h2 : vl.ownBlock ≠ some b) : St W w' p l T L vt vl := by
  obtain ⟨vp, h3, h4, h5⟩ := h.ex
  have rows : ∀ {e s n : Nat} {v : Value} {xs : List Value}, wr.ownsRow (p + 1) e s v n xs → v.ownBlock ≠ some b → w'.ownsRow (p + 1) e s v n xs := fun {e s n v xs} ho hne =>
    own_same ho fun k hk => by have := ho.lt k hk; exact ht.block k this.2 (fun e => hne (by rw [← e]; exact hk))
  exact ⟨h.pw, h.bel.trans (ht.below hb h.bel.size), ⟨vp, ht.blk h3 (Ne.symm hp), rows h4 (hv vp h3), h5⟩, rows h.to h1, rows h.left h2, h.tl⟩
theorem appT (h : St W wr p l T L vt vl) {g cap : Nat} {x : Int} (ho : w'.ownsRow (p + 1) 3 1 (.slice (some ⟨g, 0, none⟩) (T.length + 1) cap) (T.length + 1) (ints T ++ [.int .i64 x])) (hg : wr.grownBy w' vt.ownBlock) (hat : vt.ownBlock = some g ∨ g = wr.heap.size) : St W w' p l (T ++ [x]) L (.slice (some ⟨g, 0, none⟩) (T.length + 1) cap) vl := by
  obtain ⟨vp, h1, h2, h3, h4⟩ := h.ex
  have hrow : ∀ k, vt.ownBlock = some k → p + 1 ≤ k := fun k hk => (h.to.lt k hk).1
  have fresh : ∀ {e s n : Nat} {v : Value} {xs : List Value}, wr.ownsRow (p + 1) e s v n xs → sep v vt → sep v (.slice (some ⟨g, 0, none⟩) (T.length + 1) cap) := fun hv hs k hk e => by
    simp [Value.ownBlock] at e
    subst e
    rcases hat with e | e
    · exact hs _ hk e
    · have := (hv.lt _ hk).2; omega
  have keep : ∀ {e s n : Nat} {v : Value} {xs : List Value}, wr.ownsRow (p + 1) e s v n xs → sep v vt → w'.ownsRow (p + 1) e s v n xs := fun {e s n v xs} hv hs =>
    own_same hv fun k hk => hg.block k (hv.lt k hk).2 (fun e => hs k hk e.symm)
  refine ⟨h.pw, h.bel.grown hg h.bel.size (fun k hk => by have := hrow k hk; have := h.pw; omega), ⟨vp, ?_, keep h2 h3, fresh h2 h3, h4⟩, ?_, keep h.left h.tl.symm, (fresh h.left h.tl.symm).symm⟩
  · exact (hg.block p h.lt (fun e => by have := hrow p e.symm; omega)).trans h1
  · rw [ints_append, List.length_append]; exact ho
theorem appL (h : St W wr p l T L vt vl) {g cap : Nat} {x : Int} (ho : w'.ownsRow (p + 1) 3 1 (.slice (some ⟨g, 0, none⟩) (L.length + 1) cap) (L.length + 1) (ints L ++ [.int .i64 x])) (hg : wr.grownBy w' vl.ownBlock) (hat : vl.ownBlock = some g ∨ g = wr.heap.size) : St W w' p l T (L ++ [x]) vt (.slice (some ⟨g, 0, none⟩) (L.length + 1) cap) := by
  obtain ⟨vp, h1, h2, h3, h4⟩ := h.ex
  have hrow : ∀ k, vl.ownBlock = some k → p + 1 ≤ k := fun k hk => (h.left.lt k hk).1
  have fresh : ∀ {e s n : Nat} {v : Value} {xs : List Value}, wr.ownsRow (p + 1) e s v n xs → sep v vl → sep v (.slice (some ⟨g, 0, none⟩) (L.length + 1) cap) := fun hv hs k hk e => by
    simp [Value.ownBlock] at e
    subst e
    rcases hat with e | e
    · exact hs _ hk e
    · have := (hv.lt _ hk).2; omega
  have keep : ∀ {e s n : Nat} {v : Value} {xs : List Value}, wr.ownsRow (p + 1) e s v n xs → sep v vl → w'.ownsRow (p + 1) e s v n xs := fun {e s n v xs} hv hs =>
    own_same hv fun k hk => hg.block k (hv.lt k hk).2 (fun e => hs k hk e.symm)
  refine ⟨h.pw, h.bel.grown hg h.bel.size (fun k hk => by have := hrow k hk; have := h.pw; omega), ⟨vp, ?_, keep h2 h4, h3, fresh h2 h4⟩, keep h.to h.tl, ?_, fresh h.to h.tl⟩
  · exact (hg.block p h.lt (fun e => by have := hrow p e.symm; omega)).trans h1
  · rw [ints_append, List.length_append]; exact ho
theorem setL {g n cap : Nat} (h : St W wr p l T L vt (.slice (some ⟨g, 0, none⟩) n cap)) (k : Nat) (x : Int) : St W (wr.setCell ⟨g, k, none⟩ (.int .i64 x)) p l T (L.set k x) vt (.slice (some ⟨g, 0, none⟩) n cap) := by
  obtain ⟨vp, h1, h2, h3, h4⟩ := h.ex
  have hpg : p + 1 ≤ g := (h.left.lt g rfl).1
  have hn : n = L.length := by
    rcases h.left.2 with ⟨e, _⟩ | ⟨g', cap', cur, e, _⟩
    · cases e
    · simp only [Value.slice.injEq] at e; exact e.2.1
  subst hn
  have keep : ∀ {e s n : Nat} {v : Value} {xs : List Value}, wr.ownsRow (p + 1) e s v n xs → v.ownBlock ≠ some g → (wr.setCell ⟨g, k, none⟩ (.int .i64 x)).ownsRow (p + 1) e s v n xs := fun {e s n v xs} hv hne =>
    own_same hv fun j hj => Below.heap_setCell _ _ _ _ (fun e => hne (by rw [← show j = g from e]; exact hj))
  have hs := own_set h.left k (.int .i64 x)
  have e : (ints L).set k (.int .i64 x) = ints (L.set k x) := by simp [ints, List.map_set]
  rw [e] at hs
  refine ⟨h.pw, h.bel.setCell (show W.heap.size ≤ g by have := h.pw; omega) _, ⟨vp, (Below.heap_setCell _ _ _ _ (show p ≠ g by omega)).trans h1, keep h2 (h4.symm g rfl), h3, h4⟩, keep h.to (h.tl.symm g rfl), ?_, h.tl⟩
  rw [List.length_set]; exact hs
end St
end Go.Proofs.Ytjalihmjgjajcaa
