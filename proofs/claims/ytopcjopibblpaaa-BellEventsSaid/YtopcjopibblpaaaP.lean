import Derived.Test.YtopcjopibblpaaaQ
namespace Go.Proofs.Ytopcjopibblpaaa
open Go.RowKit Go.Joins
attribute [local go_sem] Oper.semAt_some

/-! ### plain: the turns so far are the first of all turns -/
theorem out_next (a : AL) (z : Nat → Int) (i : Nat) : (rs a z (i + 1)).out = if turned a z i then (rs a z i).out ++ [i] else (rs a z i).out := by
  rw [rs]
  unfold rstep turned
  split
  · rename_i h; simp [h]
  · rename_i h; simp [h]
theorem out_prefix (a : AL) (z : Nat → Int) (i j : Nat) : ∃ t, (rs a z (i + j)).out = (rs a z i).out ++ t := by
  induction j with
  | zero => exact ⟨[], by simp⟩
  | succ j ih =>
    obtain ⟨t, ht⟩ := ih
    rw [← Nat.add_assoc, out_next]
    split
    · exact ⟨t ++ [i + j], by rw [ht]; simp⟩
    · exact ⟨t, ht⟩
theorem out_at (a : AL) (z : Nat → Int) (i n : Nat) (hi : i < n) (ht : turned a z i = true) : (rs a z i).out.length < (rs a z n).out.length ∧ (rs a z n).out[(rs a z i).out.length]? = some i := by
  obtain ⟨t, h⟩ := out_prefix a z (i + 1) (n - (i + 1))
  rw [show i + 1 + (n - (i + 1)) = n by omega, out_next, if_pos ht] at h
  rw [h]
  refine ⟨by simp, ?_⟩
  rw [List.append_assoc, List.getElem?_append_right (by omega)]
  simp

theorem own_same {w w' : World} {B e size n : Nat} {v : Value} {xs : List Value} (h : w.ownsRow B e size v n xs) (hb : ∀ k, v.ownBlock = some k → w'.heap[k]? = w.heap[k]?) : w'.ownsRow B e size v n xs := by
  refine ⟨h.1, h.2.imp_right ?_⟩
  rintro ⟨g, cap, cur, rfl, hg, hh, r⟩
  exact ⟨g, cap, cur, rfl, hg, (hb g rfl).trans hh, r⟩

/-- what the callback and the iterator may turn below B: blocks bl, bn, g, l -/
structure Four (bl bn g l B : Nat) (w w' : World) : Prop where
  os : w'.os = w.os
  tape : w'.tape = w.tape
  output : w'.output = w.output
  size : w.heap.size ≤ w'.heap.size
  block : ∀ k, k < B → k ≠ bl → k ≠ bn → k ≠ g → k ≠ l → w'.heap[k]? = w.heap[k]?
namespace Four
variable {bl bn g l B : Nat} {w w1 w2 : World}
theorem refl (w : World) : Four bl bn g l B w w := ⟨rfl, rfl, rfl, Nat.le_refl _, fun _ _ _ _ _ _ => rfl⟩
theorem trans (h : Four bl bn g l B w w1) (k : Four bl bn g l B w1 w2) : Four bl bn g l B w w2 :=
  ⟨k.os.trans h.os, k.tape.trans h.tape, k.output.trans h.output, Nat.le_trans h.size k.size, fun i hi h1 h2 h3 h4 => (k.block i hi h1 h2 h3 h4).trans (h.block i hi h1 h2 h3 h4)⟩
theorem setn (h : Four bl bn g l B w w1) (j : Nat) (u : Value) : Four bl bn g l B w (w1.setCell ⟨bn, j, none⟩ u) :=
  h.trans ⟨rfl, rfl, rfl, by simp [World.setCell], fun k _ _ hk _ _ => Below.heap_setCell _ _ _ _ hk⟩
theorem put (h : Four bl bn g l B w w1) (o : Obj) : Four bl bn g l B w (w1.putObj l o) :=
  h.trans ⟨rfl, rfl, rfl, by simp, fun k _ _ _ _ hk => World.putObj_heap_other hk⟩
theorem touch (h : Four bl bn g l B w w1) (ht : Touch g w1 w2) (hB : B ≤ w1.heap.size) : Four bl bn g l B w w2 :=
  h.trans ⟨ht.os, ht.tape, ht.output, ht.size, fun k hk _ _ h3 _ => ht.block k (by omega) h3⟩
theorem touchB (h : Four bl bn g l B w w1) (ht : TouchB bl B w1 w2) : Four bl bn g l B w w2 :=
  h.trans ⟨ht.os, ht.tape, ht.output, ht.size, fun k hk h1 _ _ _ => ht.block k hk h1⟩
theorem drew (h : Four bl bn g l B w w1) : Four bl bn g l B w w1.drew := ⟨h.os, h.tape, h.output, h.size, h.block⟩
theorem blk (h : Four bl bn g l B w w1) {b : Nat} {o : Obj} (hb : w.heap[b]? = some o) (hB : b < B) (h1 : b ≠ bl) (h2 : b ≠ bn) (h3 : b ≠ g) (h4 : b ≠ l) : w1.heap[b]? = some o := (h.block b hB h1 h2 h3 h4).trans hb
end Four

/-- between two sums: i of them were heard -/
structure EJ (a : AL) (z : Nat → Int) (n : Nat) (M : Nat) (bl bn g l D : Nat) (rec : LoopState → Option Code → Loop) (W0 : World) (i : Nat) (W : World) : Prop where
  four : Four bl bn g l W0.heap.size W0 W
  few : (rs a z i).out.length < M
  bell : BellAt W g a (stI (rs a z i).r) ((rs a z i).ag : Int)
  evl : ∃ v, W.heap[bl]? = some (.cells #[v] 44 (0, 0)) ∧ W.ownsRow W0.heap.size 53 2 v (rs a z i).out.length (evs (rs a z n).out (rs a z i).out.length)
  asked : W.heap[bn]? = some (.cells #[.int .i64 (i : Int)] 3 (0, 0))
  ready : Ready W l D rec
/-- it has been stopped at sum i -/
structure EX (a : AL) (z : Nat → Int) (n : Nat) (M : Nat) (bl bn g l D : Nat) (rec : LoopState → Option Code → Loop) (W0 : World) (i : Nat) (W : World) : Prop where
  four : Four bl bn g l W0.heap.size W0 W
  turn : turned a z i = true
  all : (rs a z i).out.length + 1 = M
  evl : ∃ v, W.heap[bl]? = some (.cells #[v] 44 (0, 0)) ∧ W.ownsRow W0.heap.size 53 2 v M (evs (rs a z n).out M)
  asked : W.heap[bn]? = some (.cells #[.int .i64 ((i : Int) + 1)] 3 (0, 0))
  left : Left W l D rec

structure Apart (bl bn g l D B : Nat) : Prop where
  hbl : bl < B
  hbn : bn < B
  hg : g < B
  hl : l < B
  hD : D < B
  a1 : bl ≠ bn
  a2 : bl ≠ g
  a3 : bl ≠ l
  a4 : bl ≠ D
  a5 : bn ≠ g
  a6 : bn ≠ l
  a7 : bn ≠ D
  a8 : g ≠ l
  a9 : g ≠ D
  a0 : D ≠ l

/-- what holds in the midst of round i -/
structure Mid (a : AL) (z : Nat → Int) (n : Nat) (bl bn g l D : Nat) (rec : LoopState → Option Code → Loop) (W0 : World) (i k : Nat) (W : World) : Prop where
  four : Four bl bn g l W0.heap.size W0 W
  evl : ∃ v, W.heap[bl]? = some (.cells #[v] 44 (0, 0)) ∧ W.ownsRow W0.heap.size 53 2 v k (evs (rs a z n).out k)
  asked : W.heap[bn]? = some (.cells #[.int .i64 ((i : Int) + 1)] 3 (0, 0))
  busy : Busy W l D rec
theorem Mid.touch {a : AL} {z : Nat → Int} {n bl bn g l D i k : Nat} {rec : LoopState → Option Code → Loop} {W0 V w1 : World} (h : Mid a z n bl bn g l D rec W0 i k V) (hp : Apart bl bn g l D W0.heap.size) (ht : Touch g V.drew w1) : Mid a z n bl bn g l D rec W0 i k w1 := by
  have hs := h.four.size
  have hs' : V.drew.heap.size = V.heap.size := rfl
  obtain ⟨v, h1, h2⟩ := h.evl
  refine ⟨h.four.drew.touch ht hs, ⟨v, (ht.block bl (by have := hp.hbl; omega) hp.a2).trans h1, own_same h2 fun k hk => ht.block k (by have := (h2.lt k hk).2; omega) (by have := (h2.lt k hk).1; have := hp.hg; omega)⟩, (ht.block bn (by have := hp.hbn; omega) hp.a5).trans h.asked,
    (ht.block l (by have := hp.hl; omega) (Ne.symm hp.a8)).trans h.busy.1, (ht.block D (by have := hp.hD; omega) (Ne.symm hp.a9)).trans h.busy.2⟩
theorem Mid.call {a : AL} {z : Nat → Int} {n bl bn g l D i k k' : Nat} {rec : LoopState → Option Code → Loop} {W0 V w1 : World} (h : Mid a z n bl bn g l D rec W0 i k V) (hp : Apart bl bn g l D W0.heap.size) (ht : TouchB bl W0.heap.size V w1)
    (he : ∃ v, w1.heap[bl]? = some (.cells #[v] 44 (0, 0)) ∧ w1.ownsRow W0.heap.size 53 2 v k' (evs (rs a z n).out k')) : Mid a z n bl bn g l D rec W0 i k' w1 :=
  ⟨h.four.touchB ht, he, (ht.block bn hp.hbn (Ne.symm hp.a1)).trans h.asked, (ht.block l hp.hl (Ne.symm hp.a3)).trans h.busy.1, (ht.block D hp.hD (Ne.symm hp.a4)).trans h.busy.2⟩
theorem Mid.go {a : AL} {z : Nat → Int} {n M bl bn g l D i : Nat} {rec : LoopState → Option Code → Loop} {W0 W : World} (h : Mid a z n bl bn g l D rec W0 i (rs a z (i + 1)).out.length W) (hp : Apart bl bn g l D W0.heap.size) (hf : (rs a z (i + 1)).out.length < M)
    (hb : BellAt W g a (stI (rs a z (i + 1)).r) ((rs a z (i + 1)).ag : Int)) : EJ a z n M bl bn g l D rec W0 (i + 1) (W.putObj l (.loop (rec .ready none))) := by
  have hl := h.busy.1
  obtain ⟨v, h1, h2⟩ := h.evl
  refine ⟨h.four.put _, hf, (World.putObj_heap_other hp.a8).trans hb, ⟨v, (World.putObj_heap_other hp.a3).trans h1, own_same h2 fun k hk => World.putObj_heap_other (by have := (h2.lt k hk).1; have := hp.hl; omega)⟩, ?_,
    World.putObj_heap_same (Array.getElem?_eq_some_iff.1 hl).1, (World.putObj_heap_other hp.a0).trans h.busy.2⟩
  rw [World.putObj_heap_other hp.a6]; exact h.asked
theorem Mid.stop {a : AL} {z : Nat → Int} {n M bl bn g l D i : Nat} {rec : LoopState → Option Code → Loop} {W0 W : World} (h : Mid a z n bl bn g l D rec W0 i M W) (hp : Apart bl bn g l D W0.heap.size) (ht : turned a z i = true) (hM : (rs a z i).out.length + 1 = M) :
    EX a z n M bl bn g l D rec W0 i (W.putObj l (.loop (rec .done (some .ret)))) := by
  have hl := h.busy.1
  obtain ⟨v, h1, h2⟩ := h.evl
  refine ⟨h.four.put _, ht, hM, ⟨v, (World.putObj_heap_other hp.a3).trans h1, own_same h2 fun k hk => World.putObj_heap_other (by have := (h2.lt k hk).1; have := hp.hl; omega)⟩, ?_,
    World.putObj_heap_same (Array.getElem?_eq_some_iff.1 hl).1, (World.putObj_heap_other hp.a0).trans h.busy.2⟩
  rw [World.putObj_heap_other hp.a6]; exact h.asked

theorem cb_at (bl bok bt bm g cap : Nat) (vl : Value) (k tn x B s : Nat) (xs : List Value) (m : Int) (w : World) (hs : k % 2 = s) (hk : k < tn) (hk1 : k ≤ 100) (hx : x ≤ 100)
    (hl : w.heap[bl]? = some (.cells #[vl] 44 (0, 0))) (hlo : w.ownsRow B 53 2 vl k xs) (hB : B ≤ w.heap.size) (hblB : bl < B)
    (hok : w.heap[bok]? = some (.cells #[.bool true] 4 (0, 0))) (hokB : bok < B) (hne : bok ≠ bl)
    (ht : w.cell? ⟨bt, 0, none⟩ = some (.slice (some ⟨g, 0, none⟩) tn cap)) (htx : w.cell? ⟨g, k, none⟩ = some (.int .i64 (x : Int)))
    (hm : w.cell? ⟨bm, 0, none⟩ = some (.int .i64 m)) (hmB : bm < B) (hml : bm ≠ bl) (b : Bool) (hb : decide (((k : Int) + 1) < m) = b) :
    Calls Try.prog 17 #[.agg #[.int .i64 (10 * (x : Int)), .int .i64 (2 - (s : Int))], .pointer (some ⟨bl, 0, none⟩), .pointer (some ⟨bok, 0, none⟩), .pointer (some ⟨bt, 0, none⟩), .pointer (some ⟨bm, 0, none⟩)] w fun e w' =>
      e = .returned (.bool b) ∧ (∃ v, w'.heap[bl]? = some (.cells #[v] 44 (0, 0)) ∧ w'.ownsRow B 53 2 v (k + 1) (xs ++ [.int .i64 (10 * (x : Int)), .int .i64 (2 - (s : Int))])) ∧ TouchB bl B w w' := by
  subst hs
  subst hb
  exact cb_any bl bok bt bm g cap vl k tn x B xs m w hk hk1 hx hl hlo hB hblB hok hokB hne ht htx hm hmB hml
theorem TouchB.cell {g B : Nat} {w w1 : World} (h : TouchB g B w w1) {p : Addr} {v : Value} (hc : w.cell? p = some v) (h1 : p.block < B) (h2 : p.block ≠ g) : w1.cell? p = some v :=
  (World.cell?_of_block (h.block p.block h1 h2)).trans hc

/-- what lies still through it all -/
structure StatE (T : List Nat) (z : Nat → Int) (n c : Nat) (sa : Option Addr) (m : Int) (bs bp bn bok bt bm g0 cap0 : Nat) (W : World) : Prop where
  s : W.cell? ⟨bs, 0, none⟩ = some (.slice sa n c)
  p : W.cell? ⟨bp, 0, none⟩ = some (.pointer (some ⟨bn, 0, none⟩))
  z : SumsAt W sa n z
  ok : W.heap[bok]? = some (.cells #[.bool true] 4 (0, 0))
  t : ∀ (k x : Nat), T[k]? = some x → W.cell? ⟨bt, 0, none⟩ = some (.slice (some ⟨g0, 0, none⟩) T.length cap0) ∧ W.cell? ⟨g0, k, none⟩ = some (.int .i64 (x : Int))
  m : W.heap[bm]? = some (.cells #[.int .i64 m] 3 (0, 0))

/-- what a going through the events leaves -/
def EvPost (T : List Nat) (n M bl bn : Nat) (w : World) (e : Ending) (w' : World) : Prop :=
  e = .returned (.tuple #[]) ∧ ∃ (k i : Nat) (v : Value), k = min T.length M ∧ i = (if M ≤ T.length then T.getD (M - 1) 0 + 1 else n) ∧ w'.heap[bl]? = some (.cells #[v] 44 (0, 0)) ∧ w'.ownsRow w.heap.size 53 2 v k (evs T k) ∧
    w'.heap[bn]? = some (.cells #[.int .i64 (i : Int)] 3 (0, 0)) ∧ w'.os = w.os ∧ w'.tape = w.tape ∧ w'.output = w.output ∧ w.heap.size ≤ w'.heap.size ∧ (∀ k, k < w.heap.size → k ≠ bl → k ≠ bn → w'.heap[k]? = w.heap[k]?)
theorem EvPost.of {T : List Nat} {n M bl bn g D k i : Nat} {w W0 W : World} {v : Value} {o1 o2 : Obj} (hB : Below w.heap.size w W0) (hF : Four bl bn g (D + 1) W0.heap.size W0 W) (h1 : W.heap[bl]? = some (.cells #[v] 44 (0, 0))) (h2 : W.ownsRow W0.heap.size 53 2 v k (evs T k)) (h3 : W.heap[bn]? = some (.cells #[.int .i64 (i : Int)] 3 (0, 0)))
    (hbl : bl < w.heap.size) (hbn : bn < w.heap.size) (hg : w.heap.size ≤ g) (hD : w.heap.size ≤ D) (hDW : D + 1 < W0.heap.size) (hk : k = min T.length M) (hi : i = (if M ≤ T.length then T.getD (M - 1) 0 + 1 else n)) :
    EvPost T n M bl bn w (.returned (.tuple #[])) ((W.putObj (D + 1) o1).putObj D o2) := by
  have hs := hB.size
  have hs2 := hF.size
  refine ⟨rfl, k, i, v, hk, hi, ?_, ?_, ?_, hF.os.trans hB.os, hF.tape.trans hB.tape, hF.output.trans hB.output, by simp; omega, fun j hj j1 j2 => ?_⟩
  · rw [World.putObj_heap_other (by omega), World.putObj_heap_other (by omega)]; exact h1
  · exact ownsRow_le (own_same h2 fun j hj => by
      have := (h2.lt j hj).1
      rw [World.putObj_heap_other (by omega), World.putObj_heap_other (by omega)]) hs
  · rw [World.putObj_heap_other (by omega), World.putObj_heap_other (by omega)]; exact h3
  · rw [World.putObj_heap_other (by omega), World.putObj_heap_other (by omega)]
    exact (hF.block j (by omega) j1 j2 (by omega) (by omega)).trans (hB.block j hj)

set_option maxRecDepth 100000 in
set_option maxHeartbeats 8000000 in
theorem events_any (L R F : Int) (A : Bool) (z : Nat → Int) (n c : Nat) (sa : Option Addr) (m : Int) (M : Nat) (ba bq bs bp bn bl bok bt bm g0 cap0 : Nat) (w : World)
    (hr : rightB ⟨L, A, R, F⟩ = true) (hn : n ≤ 80) (hM : M = if m < 1 then 1 else m.toNat) (hm0 : 0 ≤ m) (hm8 : m ≤ 8)
    (ha : AlAt 23 w ba ⟨L, A, R, F⟩) (hq : w.heap[bq]? = some (.cells #[.func (Fn.func 23) #[] #[.pointer (some ⟨bs, 0, none⟩), .pointer (some ⟨bp, 0, none⟩)]] 49 (0, 0)))
    (hbn : w.heap[bn]? = some (.cells #[.int .i64 0] 3 (0, 0))) (hbl : w.heap[bl]? = some (.cells #[.slice none 0 0] 44 (0, 0)))
    (hne : bl ≠ bn) (hok1 : bok ≠ bl) (hbm1 : bm ≠ bl)
    (hst : ∀ W : World, (∀ k, k < w.heap.size → k ≠ bl → k ≠ bn → W.heap[k]? = w.heap[k]?) → StatE (rs ⟨L, A, R, F⟩ z n).out z n c sa m bs bp bn bok bt bm g0 cap0 W) :
    Calls Try.prog 22 #[.func (Fn.func 17) #[] #[.pointer (some ⟨bl, 0, none⟩), .pointer (some ⟨bok, 0, none⟩), .pointer (some ⟨bt, 0, none⟩), .pointer (some ⟨bm, 0, none⟩)], .pointer (some ⟨ba, 0, none⟩), .pointer (some ⟨bq, 0, none⟩)] w (EvPost (rs ⟨L, A, R, F⟩ z n).out n M bl bn w) := by
  refine calls_marks (n := 5) Try.func22 rfl ?_
  simp only [Try.ntmps22, List.size_toArray, List.length_cons, List.length_nil, Nat.reduceAdd, Nat.reduceSub, Array.replicate_succ, Array.replicate_zero, List.push_toArray, List.append_toArray, List.nil_append, List.cons_append]
  have hB1 := (Below.refl w.heap.size w).alloc (Nat.le_refl _) (.cells #[(.func (Fn.func 17) #[] #[.pointer (some ⟨bl, 0, none⟩), .pointer (some ⟨bok, 0, none⟩), .pointer (some ⟨bt, 0, none⟩), .pointer (some ⟨bm, 0, none⟩)])] 54)
  have ha1 : AlAt 23 _ ba ⟨L, A, R, F⟩ := below_blk hB1 ha
  have hy1 := heap_alloc_new w (.cells #[(.func (Fn.func 17) #[] #[.pointer (some ⟨bl, 0, none⟩), .pointer (some ⟨bok, 0, none⟩), .pointer (some ⟨bt, 0, none⟩), .pointer (some ⟨bm, 0, none⟩)])] 54)
  obtain ⟨⟨d0, d1, d2, d3⟩, df⟩ := ha1.cell
  simp only at d0 d1 d2 d3
  have HB1 := Lib.hid hB1
  have HY1 := Lib.hid hy1
  have HR := Lib.hid hr
  have HM := Lib.hid hM
  have HST := Lib.hid hst
  have HQ := Lib.hid (⟨hq, hbn, hbl⟩ : _ ∧ _ ∧ _)
  clear hB1 ha1 hr hst hy1 hq hbn hbl ha hM
  go_wp2_with fail
  refine (new_ok L R F A _ HR.out).mono ?_
  rintro e w2 ⟨g, hg, rfl, hb2, hB2⟩
  have HB2 := Lib.hid (HB1.out.trans (hB2.mono (by simp)))
  have HY2 := Lib.hid (below_blk hB2 HY1.out)
  have HBE := Lib.hid hb2
  have hgw : w.heap.size + 1 ≤ g := by simpa using hg
  have q2 := below_blk HB2.out HQ.out.1
  have qc : w2.cell? ⟨bq, 0, none⟩ = some (.func (Fn.func 23) #[] #[.pointer (some ⟨bs, 0, none⟩), .pointer (some ⟨bp, 0, none⟩)]) := by simp [World.cell?, q2]
  have qc2 := below_cell ((Below.refl w2.heap.size w2).alloc (Nat.le_refl _) (.cells #[.pointer (some ⟨g, 0, none⟩)] 27)) qc
  clear d0 d1 d2 d3 df hb2 hB2 HB1 HY1 hg q2 qc
  go_wp2_with fail
  have hBell3 : BellAt (w2.alloc (.cells #[.pointer (some ⟨g, 0, none⟩)] 27)) g ⟨L, A, R, F⟩ 1 0 := below_blk ((Below.refl w2.heap.size w2).alloc (Nat.le_refl _) _) HBE.out
  have hY3 := below_blk ((Below.refl w2.heap.size w2).alloc (Nat.le_refl _) (.cells #[.pointer (some ⟨g, 0, none⟩)] 27)) HY2.out
  have hb3 := heap_alloc_new w2 (.cells #[.pointer (some ⟨g, 0, none⟩)] 27)
  have hB3 : Below w.heap.size w (w2.alloc (.cells #[.pointer (some ⟨g, 0, none⟩)] 27)) := HB2.out.alloc HB2.out.size _
  have hg2 : g < w2.heap.size := HBE.out.lt
  have hw22 : w.heap.size < w2.heap.size := by omega
  have hs3 : (w2.alloc (.cells #[.pointer (some ⟨g, 0, none⟩)] 27)).heap.size = w2.heap.size + 1 := by simp
  obtain ⟨w3, hw3⟩ : ∃ w3, w2.alloc (.cells #[.pointer (some ⟨g, 0, none⟩)] 27) = w3 := ⟨_, rfl⟩
  rw [hw3] at hBell3 hY3 hb3 hB3 hs3
  generalize w2.heap.size = b4 at *
  have H3 := Lib.hid (⟨hBell3, hY3, hb3, hB3⟩ : _ ∧ _ ∧ _ ∧ _)
  rw [hw3]
  have hs3 := Lib.hid hs3
  clear hBell3 hY3 hb3 hB3 HBE HY2 HB2 qc2 hw3
  refine range_law (n := 3) (gf := 23) (lb := #[.pointer (some ⟨bs, 0, none⟩), .pointer (some ⟨bp, 0, none⟩)]) rfl (enters_of Try.func23 (by kernel_rfl) rfl) ?_
  intro fn W0 rec hrec hW0
  have hD : W0.heap[w3.heap.size]? = some (.deferred (some [])) := by rw [hW0]; exact (Below.heap_alloc _ _ _ (by simp)).trans (heap_alloc_new w3 _)
  have hL : W0.heap[w3.heap.size + 1]? = some (.loop (rec .ready none)) := by
    have := heap_alloc_new (w3.alloc (.deferred (some []))) (.loop (rec .ready none))
    rw [← hW0] at this
    simpa using this
  have hB0 : Below w3.heap.size w3 W0 := by rw [hW0]; exact ((Below.refl _ w3).alloc (Nat.le_refl _) _).alloc (by simp) _
  have hs0 : W0.heap.size = w3.heap.size + 2 := by rw [hW0]; simp
  have HB0 := Lib.hid (H3.out.2.2.2.trans (hB0.mono H3.out.2.2.2.size))
  have HE0 : Hid (EJ ⟨L, A, R, F⟩ z n M bl bn g (w3.heap.size + 1) w3.heap.size rec W0 0 W0) := by
    refine ⟨Four.refl _, ?_, below_blk hB0 H3.out.1, ⟨_, below_blk hB0 (below_blk H3.out.2.2.2 HQ.out.2.2), World.ownsRow_nil _ _ _ _⟩, below_blk hB0 (below_blk H3.out.2.2.2 HQ.out.2.1), hL, hD⟩
    show 0 < M
    rw [HM.out]; split <;> omega
  have HY0 := Lib.hid (below_blk hB0 H3.out.2.1)
  have Hb0 := Lib.hid (below_blk hB0 H3.out.2.2.1)
  have hbnw : bn < w.heap.size := (Array.getElem?_eq_some_iff.1 HQ.out.2.1).1
  have hblw : bl < w.heap.size := (Array.getElem?_eq_some_iff.1 HQ.out.2.2).1
  have hD1 : b4 < w3.heap.size := by have := hs3.out; omega
  have hD2 : w3.heap.size + 1 < W0.heap.size := by omega
  clear hW0 hL hD hB0 hs0 hs3
  generalize w3.heap.size = D at *
  have HSTAT : Hid (∀ W, Four bl bn g (D + 1) W0.heap.size W0 W → StatE (rs ⟨L, A, R, F⟩ z n).out z n c sa m bs bp bn bok bt bm g0 cap0 W) := fun W h4 =>
    HST.out W fun k hk h1 h2 => (h4.block k (by omega) h1 h2 (by omega) (by omega)).trans (HB0.out.block k hk)
  refine (points_any (D + 1) 3 (EJ ⟨L, A, R, F⟩ z n M bl bn g (D + 1) D rec W0) (EX ⟨L, A, R, F⟩ z n M bl bn g (D + 1) D rec W0) bs bp bn sa n c z hn ?_ ?_ W0 HE0.out).mono ?_
  · intro i W h
    have hs := HSTAT.out W h.four
    exact ⟨hs.s, hs.p, hs.z, ⟨(i : Int), by simp [World.cell?, h.asked]⟩, by simp [World.frozen?, h.asked]⟩
  · intro i W hi h
    have hR : Ready (W.setCell ⟨bn, 0, none⟩ (.int .i64 ((i : Int) + 1))) (D + 1) D rec :=
      ⟨(Below.heap_setCell _ _ _ _ (show D + 1 ≠ bn by omega)).trans h.ready.1, (Below.heap_setCell _ _ _ _ (show D ≠ bn by omega)).trans h.ready.2⟩
    refine yield_of (n := 3) hrec hR rfl ?_
    have H := Lib.hid h
    have HRd := Lib.hid hR
    clear h hR hrec
    gi_wp2
    refine ⟨HRd.out, ?_⟩
    have hl : W.heap[D + 1]? = _ := H.out.ready.1
    have hl2 : (W.setCell ⟨bn, 0, none⟩ (.int .i64 ((i : Int) + 1))).heap[D + 1]? = _ := HRd.out.1
    have HAP : Hid (Apart bl bn g (D + 1) D W0.heap.size) := ⟨by omega, by omega, by omega, by omega, by omega, hne, by omega, by omega, by omega, by omega, by omega, by omega, by omega, by omega, by omega⟩
    have hV1 : BellAt ((W.setCell ⟨bn, 0, none⟩ (.int .i64 ((i : Int) + 1))).putObj (D + 1) (.loop (rec .busy none))) g ⟨L, A, R, F⟩ (stI (rs ⟨L, A, R, F⟩ z i).r) ((rs ⟨L, A, R, F⟩ z i).ag : Int) :=
      (World.putObj_heap_other (show g ≠ D + 1 by omega)).trans ((Below.heap_setCell _ _ _ _ (show g ≠ bn by omega)).trans H.out.bell)
    have hV2 : Mid ⟨L, A, R, F⟩ z n bl bn g (D + 1) D rec W0 i (rs ⟨L, A, R, F⟩ z i).out.length ((W.setCell ⟨bn, 0, none⟩ (.int .i64 ((i : Int) + 1))).putObj (D + 1) (.loop (rec .busy none))) := by
      obtain ⟨v, h1, h2⟩ := H.out.evl
      refine ⟨(H.out.four.setn 0 _).put _, ⟨v, (World.putObj_heap_other (show bl ≠ D + 1 by omega)).trans ((Below.heap_setCell _ _ _ _ (show bl ≠ bn from hne)).trans h1), own_same h2 fun k hk => ?_⟩, ?_,
        World.putObj_heap_same (Array.getElem?_eq_some_iff.1 hl2).1, (World.putObj_heap_other (show D ≠ D + 1 by omega)).trans HRd.out.2⟩
      · have := (h2.lt k hk).1
        exact (World.putObj_heap_other (show k ≠ D + 1 by omega)).trans (Below.heap_setCell _ _ _ _ (show k ≠ bn by omega))
      · rw [World.putObj_heap_other (show bn ≠ D + 1 by omega)]
        have := block_setCell (i := 0) H.out.asked (.int .i64 ((i : Int) + 1))
        simpa using this
    obtain ⟨V, hV⟩ : ∃ V, (W.setCell ⟨bn, 0, none⟩ (.int .i64 ((i : Int) + 1))).putObj (D + 1) (.loop (rec .busy none)) = V := ⟨_, rfl⟩
    rw [hV] at hV1 hV2 ⊢
    have HV := Lib.hid (⟨hV1, hV2⟩ : _ ∧ _)
    have hc4 : V.cell? ⟨b4, 0, none⟩ = some (.pointer (some ⟨g, 0, none⟩)) := by
      have := HV.out.2.four.blk Hb0.out (by omega) (by omega) (by omega) (by omega) (by omega)
      simp [World.cell?, this]
    have hV0 : W0.heap.size ≤ V.heap.size := HV.out.2.four.size
    have HFEW := Lib.hid H.out.few
    clear hl hl2 hV hV1 hV2 HRd hs3 H
    have hmx : Try.prog.follows .mixedOrders = true := by kernel_rfl
    have hRF := (right_iff _).1 HR.out
    simp only at hRF
    have hR1 := hRF.1
    have hF1 := hRF.2.2.1
    have hi3 : i ≤ 1000 := by omega
    clear hRF
    cases htn : turned ⟨L, A, R, F⟩ z i
    · have HT := Lib.hid htn
      gi_wp2_with fail
      refine region_round hmx (by kernel_rfl) (by rintro ⟨_, _, h⟩; exact h) ?_
      refine wpAny_take (i := 1) (v := ?_) rfl (by kernel_rfl) (by kernel_rfl) (by kernel_rfl) (fun _ _ _ h => h) (Or.inl ⟨by rfl, ?_⟩) ?_
      rotate_left
      · intro w; go_simp; with_reducible rfl
      try simp only [Act.put, List.getElem_toArray, List.getElem_cons_succ, List.getElem_cons_zero, List.setIfInBounds_toArray, List.set_cons_zero, List.set_cons_succ]
      refine wpAny_ready (rs := [0]) (by kernel_rfl) (by simp) (AllReady.cons rfl (fun K hK => ?_) AllReady.nil)
      go_simp
      refine hK _ _ ?_
      clear hK K
      try simp only [Act.put, List.getElem_toArray, List.getElem_cons_succ, List.getElem_cons_zero, List.setIfInBounds_toArray, List.set_cons_zero, List.set_cons_succ]
      refine wpAny_ready (rs := [2]) (by kernel_rfl) (by simp) (AllReady.cons rfl (fun K hK => ?_) AllReady.nil)
      go_simp
      (go_at_call 10; refine (hear_step g L R F A z i _ hi3 hR1 hF1 (show BellAt V.drew g _ _ _ from HV.out.1)).mono ?_; rw [htn]; rintro e w1 ⟨rfl, hb1, ht1⟩)
      refine hK _ _ ?_
      clear hK K
      try simp only [Act.put, List.getElem_toArray, List.getElem_cons_succ, List.getElem_cons_zero, List.setIfInBounds_toArray, List.set_cons_zero, List.set_cons_succ]
      refine wpAny_take (i := 3) (v := ?_) rfl (by kernel_rfl) (by kernel_rfl) (by kernel_rfl) (fun _ _ _ h => h) (Or.inl ⟨by rfl, ?_⟩) ?_
      rotate_left
      · intro w; go_simp; with_reducible rfl
      try simp only [Act.put, List.getElem_toArray, List.getElem_cons_succ, List.getElem_cons_zero, List.setIfInBounds_toArray, List.set_cons_zero, List.set_cons_succ]
      refine wpAny_take (i := 4) (v := undef) rfl (by kernel_rfl) (by kernel_rfl) (by kernel_rfl) (fun _ _ _ h => h) (Or.inr ⟨by rfl, rfl⟩) ?_
      try simp only [Act.put, List.getElem_toArray, List.getElem_cons_succ, List.getElem_cons_zero, List.setIfInBounds_toArray, List.set_cons_zero, List.set_cons_succ]
      refine wpAny_take (i := 5) (v := undef) rfl (by kernel_rfl) (by kernel_rfl) (by kernel_rfl) (fun _ _ _ h => h) (Or.inr ⟨by rfl, rfl⟩) ?_
      try simp only [Act.put, List.getElem_toArray, List.getElem_cons_succ, List.getElem_cons_zero, List.setIfInBounds_toArray, List.set_cons_zero, List.set_cons_succ]
      refine wpAny_take (i := 6) (v := undef) rfl (by kernel_rfl) (by kernel_rfl) (by kernel_rfl) (fun _ _ _ h => h) (Or.inr ⟨by rfl, rfl⟩) ?_
      try simp only [Act.put, List.getElem_toArray, List.getElem_cons_succ, List.getElem_cons_zero, List.setIfInBounds_toArray, List.set_cons_zero, List.set_cons_succ]
      refine wpAny_take (i := 7) (v := undef) rfl (by kernel_rfl) (by kernel_rfl) (by kernel_rfl) (fun _ _ _ h => h) (Or.inr ⟨by rfl, rfl⟩) ?_
      try simp only [Act.put, List.getElem_toArray, List.getElem_cons_succ, List.getElem_cons_zero, List.setIfInBounds_toArray, List.set_cons_zero, List.set_cons_succ]
      refine wpAny_take (i := 8) (v := undef) rfl (by kernel_rfl) (by kernel_rfl) (by kernel_rfl) (fun _ _ _ h => h) (Or.inr ⟨by rfl, rfl⟩) ?_
      try simp only [Act.put, List.getElem_toArray, List.getElem_cons_succ, List.getElem_cons_zero, List.setIfInBounds_toArray, List.set_cons_zero, List.set_cons_succ]
      refine wpAny_take (i := 9) (v := undef) rfl (by kernel_rfl) (by kernel_rfl) (by kernel_rfl) (fun _ _ _ h => h) (Or.inr ⟨by rfl, rfl⟩) ?_
      try simp only [Act.put, List.getElem_toArray, List.getElem_cons_succ, List.getElem_cons_zero, List.setIfInBounds_toArray, List.set_cons_zero, List.set_cons_succ]
      refine wpAny_take (i := 10) (v := undef) rfl (by kernel_rfl) (by kernel_rfl) (by kernel_rfl) (fun _ _ _ h => h) (Or.inr ⟨by rfl, rfl⟩) ?_
      try simp only [Act.put, List.getElem_toArray, List.getElem_cons_succ, List.getElem_cons_zero, List.setIfInBounds_toArray, List.set_cons_zero, List.set_cons_succ]
      refine wpAny_take (i := 11) (v := undef) rfl (by kernel_rfl) (by kernel_rfl) (by kernel_rfl) (fun _ _ _ h => h) (Or.inr ⟨by rfl, rfl⟩) ?_
      try simp only [Act.put, List.getElem_toArray, List.getElem_cons_succ, List.getElem_cons_zero, List.setIfInBounds_toArray, List.set_cons_zero, List.set_cons_succ]
      refine wpAny_take (i := 12) (v := undef) rfl (by kernel_rfl) (by kernel_rfl) (by kernel_rfl) (fun _ _ _ h => h) (Or.inr ⟨by rfl, rfl⟩) ?_
      try simp only [Act.put, List.getElem_toArray, List.getElem_cons_succ, List.getElem_cons_zero, List.setIfInBounds_toArray, List.set_cons_zero, List.set_cons_succ]
      refine wpAny_take (i := 13) (v := ?_) rfl (by kernel_rfl) (by kernel_rfl) (by kernel_rfl) (fun _ _ _ h => h) (Or.inl ⟨by rfl, ?_⟩) ?_
      rotate_left
      · intro w; go_simp; with_reducible rfl
      try simp only [Act.put, List.getElem_toArray, List.getElem_cons_succ, List.getElem_cons_zero, List.setIfInBounds_toArray, List.set_cons_zero, List.set_cons_succ]
      refine wpAny_done (by kernel_rfl) ?_ _
      have HM2 := Lib.hid (HV.out.2.touch HAP.out ht1)
      have HB2 := Lib.hid hb1
      clear hb1 ht1 hc4
      gi_wp2
      have ho := out_next ⟨L, A, R, F⟩ z i
      rw [HT.out] at ho
      have ho2 : (rs ⟨L, A, R, F⟩ z (i + 1)).out = (rs ⟨L, A, R, F⟩ z i).out := ho
      refine ⟨HM2.out.busy, .inl ⟨rfl, Mid.go ?_ HAP.out (by rw [ho2]; exact HFEW.out) HB2.out⟩⟩
      rw [ho2]; exact HM2.out
    · have hoa := out_at ⟨L, A, R, F⟩ z i n hi htn
      have ho := out_next ⟨L, A, R, F⟩ z i
      rw [htn] at ho
      have ho2 : (rs ⟨L, A, R, F⟩ z (i + 1)).out = (rs ⟨L, A, R, F⟩ z i).out ++ [i] := ho
      have hfl := (rs_facts ⟨L, A, R, F⟩ z i).2.2.1
      have hst : stI (rs ⟨L, A, R, F⟩ z (i + 1)).r = 2 - (((rs ⟨L, A, R, F⟩ z i).out.length % 2 : Nat) : Int) := by
        rw [(rs_facts ⟨L, A, R, F⟩ z (i + 1)).2.2.2.2, ho2]
        unfold stI
        simp only [List.length_append, List.length_singleton]
        rcases Nat.mod_two_eq_zero_or_one (rs ⟨L, A, R, F⟩ z i).out.length with e | e
        · have : ((rs ⟨L, A, R, F⟩ z i).out.length + 1) % 2 = 1 := by omega
          rw [e, this]; rfl
        · have : ((rs ⟨L, A, R, F⟩ z i).out.length + 1) % 2 = 0 := by omega
          rw [e, this]; rfl
      have hln : (rs ⟨L, A, R, F⟩ z (i + 1)).out.length = (rs ⟨L, A, R, F⟩ z i).out.length + 1 := by rw [ho2]; simp
      have hev : evs (rs ⟨L, A, R, F⟩ z n).out ((rs ⟨L, A, R, F⟩ z i).out.length + 1) = evs (rs ⟨L, A, R, F⟩ z n).out (rs ⟨L, A, R, F⟩ z i).out.length ++ [.int .i64 (10 * (i : Int)), .int .i64 (2 - (((rs ⟨L, A, R, F⟩ z i).out.length % 2 : Nat) : Int))] := by
        rw [evs, List.getD_eq_getElem?_getD, hoa.2]; rfl
      have hY1 := HY0.out
      have hgap := HAP.out
      obtain ⟨vl, hvl, hvo⟩ := HV.out.2.evl
      have HX := Lib.hid (⟨hoa, hst, hln, hev, htn⟩ : _ ∧ _ ∧ _ ∧ _ ∧ _)
      have HYY := Lib.hid hY1
      clear hoa hst hev hY1 hvl hvo vl ho ho2
      generalize hk : (rs ⟨L, A, R, F⟩ z i).out.length = k at *
      have HKK := Lib.hid hk
      clear hk hln hgap htn
      generalize hsk : (k % 2 : Nat) = s at *
      have HSK := Lib.hid hsk
      clear hsk
      have H2 := Lib.hid HV.out.2
      have hbB : bok < W0.heap.size := (Array.getElem?_eq_some_iff.1 (HSTAT.out W0 (Four.refl _)).ok).1
      have hbB2 : bm < W0.heap.size := (Array.getElem?_eq_some_iff.1 (HSTAT.out W0 (Four.refl _)).m).1
      cases hdec : decide (((k : Int) + 1) < m)
      all_goals
        have HDEC := Lib.hid hdec
        clear hdec
        gi_wp2_with fail
        refine region_round hmx (by kernel_rfl) (by rintro ⟨_, _, h⟩; exact h) ?_
        refine wpAny_take (i := 1) (v := ?_) rfl (by kernel_rfl) (by kernel_rfl) (by kernel_rfl) (fun _ _ _ h => h) (Or.inl ⟨by rfl, ?_⟩) ?_
        rotate_left
        · intro w; go_simp; with_reducible rfl
        try simp only [Act.put, List.getElem_toArray, List.getElem_cons_succ, List.getElem_cons_zero, List.setIfInBounds_toArray, List.set_cons_zero, List.set_cons_succ]
        refine wpAny_ready (rs := [0]) (by kernel_rfl) (by simp) (AllReady.cons rfl (fun K hK => ?_) AllReady.nil)
        go_simp
        refine hK _ _ ?_
        clear hK K
        try simp only [Act.put, List.getElem_toArray, List.getElem_cons_succ, List.getElem_cons_zero, List.setIfInBounds_toArray, List.set_cons_zero, List.set_cons_succ]
        refine wpAny_ready (rs := [2]) (by kernel_rfl) (by simp) (AllReady.cons rfl (fun K hK => ?_) AllReady.nil)
        go_simp
        (go_at_call 10; refine (hear_step g L R F A z i _ hi3 hR1 hF1 (show BellAt V.drew g _ _ _ from HV.out.1)).mono ?_; rw [HX.out.2.2.2.2]; rintro e w1 ⟨rfl, hb1, ht1⟩)
        refine hK _ _ ?_
        clear hK K
        try simp only [Act.put, List.getElem_toArray, List.getElem_cons_succ, List.getElem_cons_zero, List.setIfInBounds_toArray, List.set_cons_zero, List.set_cons_succ]
        rw [HX.out.2.1] at hb1
        have HM1 := Lib.hid (H2.out.touch HAP.out ht1)
        have HS1 := Lib.hid (HSTAT.out w1 HM1.out.four)
        have HB1 := Lib.hid hb1
        have HT1 := Lib.hid ht1
        have y1 : w1.cell? ⟨w.heap.size, 0, none⟩ = some (.func (Fn.func 17) #[] #[.pointer (some ⟨bl, 0, none⟩), .pointer (some ⟨bok, 0, none⟩), .pointer (some ⟨bt, 0, none⟩), .pointer (some ⟨bm, 0, none⟩)]) := by
          have := HM1.out.four.blk HYY.out (by omega) (by omega) (by omega) (by omega) (by omega)
          simp [World.cell?, this]
        have y2 : w1.cell? ⟨b4, 0, none⟩ = some (.pointer (some ⟨g, 0, none⟩)) := by
          have := HM1.out.four.blk Hb0.out (by omega) (by omega) (by omega) (by omega) (by omega)
          simp [World.cell?, this]
        have y3 := hb1.cell.1.2.2.2.2.1
        clear hb1 ht1 hc4
        refine wpAny_take (i := 3) (v := ?_) rfl (by kernel_rfl) (by kernel_rfl) (by kernel_rfl) (fun _ _ _ h => h) (Or.inl ⟨by rfl, ?_⟩) ?_
        rotate_left
        · intro w; go_simp; with_reducible rfl
        try simp only [Act.put, List.getElem_toArray, List.getElem_cons_succ, List.getElem_cons_zero, List.setIfInBounds_toArray, List.set_cons_zero, List.set_cons_succ]
        have hHeld : (fun W' => W'.cell? ⟨w.heap.size, 0, none⟩ = some (.func (Fn.func 17) #[] #[.pointer (some ⟨bl, 0, none⟩), .pointer (some ⟨bok, 0, none⟩), .pointer (some ⟨bt, 0, none⟩), .pointer (some ⟨bm, 0, none⟩)]) ∧ W'.cell? ⟨b4, 0, none⟩ = some (.pointer (some ⟨g, 0, none⟩)) ∧ W'.cell? ⟨g, 4, none⟩ = some (.int .i64 (2 - (s : Int)))) w1 := ⟨y1, y2, y3⟩
        clear y1 y2 y3
        refine wpAny_of_held (S := fun W' => W'.cell? ⟨w.heap.size, 0, none⟩ = some (.func (Fn.func 17) #[] #[.pointer (some ⟨bl, 0, none⟩), .pointer (some ⟨bok, 0, none⟩), .pointer (some ⟨bt, 0, none⟩), .pointer (some ⟨bm, 0, none⟩)]) ∧ W'.cell? ⟨b4, 0, none⟩ = some (.pointer (some ⟨g, 0, none⟩)) ∧ W'.cell? ⟨g, 4, none⟩ = some (.int .i64 (2 - (s : Int)))) _ _ _ _ ?_
        refine wpAnyH_take (i := 4) (v := ?_) rfl (by kernel_rfl) (by kernel_rfl) (by kernel_rfl) (fun _ _ _ h => h) (Or.inl ⟨by rfl, ?_⟩) hHeld ?_
        rotate_left
        · intro w hSw; (try dsimp only at hSw); go_simp; with_reducible rfl
        try simp only [Act.put, List.getElem_toArray, List.getElem_cons_succ, List.getElem_cons_zero, List.setIfInBounds_toArray, List.set_cons_zero, List.set_cons_succ]
        refine wpAnyH_take (i := 5) (v := ?_) rfl (by kernel_rfl) (by kernel_rfl) (by kernel_rfl) (fun _ _ _ h => h) (Or.inl ⟨by rfl, ?_⟩) hHeld ?_
        rotate_left
        · intro w hSw; (try dsimp only at hSw); go_simp; with_reducible rfl
        try simp only [Act.put, List.getElem_toArray, List.getElem_cons_succ, List.getElem_cons_zero, List.setIfInBounds_toArray, List.set_cons_zero, List.set_cons_succ]
        refine wpAnyH_take (i := 6) (v := ?_) rfl (by kernel_rfl) (by kernel_rfl) (by kernel_rfl) (fun _ _ _ h => h) (Or.inl ⟨by rfl, ?_⟩) hHeld ?_
        rotate_left
        · intro w hSw; (try dsimp only at hSw); go_simp; with_reducible rfl
        try simp only [Act.put, List.getElem_toArray, List.getElem_cons_succ, List.getElem_cons_zero, List.setIfInBounds_toArray, List.set_cons_zero, List.set_cons_succ]
        refine wpAnyH_take (i := 7) (v := ?_) rfl (by kernel_rfl) (by kernel_rfl) (by kernel_rfl) (fun _ _ _ h => h) (Or.inl ⟨by rfl, ?_⟩) hHeld ?_
        rotate_left
        · intro w hSw; (try dsimp only at hSw); go_simp; with_reducible rfl
        try simp only [Act.put, List.getElem_toArray, List.getElem_cons_succ, List.getElem_cons_zero, List.setIfInBounds_toArray, List.set_cons_zero, List.set_cons_succ]
        refine wpAnyH_take (i := 8) (v := ?_) rfl (by kernel_rfl) (by kernel_rfl) (by kernel_rfl) (fun _ _ _ h => h) (Or.inl ⟨by rfl, ?_⟩) hHeld ?_
        rotate_left
        · intro w hSw; (try dsimp only at hSw); go_simp; with_reducible rfl
        try simp only [Act.put, List.getElem_toArray, List.getElem_cons_succ, List.getElem_cons_zero, List.setIfInBounds_toArray, List.set_cons_zero, List.set_cons_succ]
        refine wpAnyH_take (i := 9) (v := ?_) rfl (by kernel_rfl) (by kernel_rfl) (by kernel_rfl) (fun _ _ _ h => h) (Or.inl ⟨by rfl, ?_⟩) hHeld ?_
        rotate_left
        · intro w hSw; (try dsimp only at hSw); go_simp; with_reducible rfl
        try simp only [Act.put, List.getElem_toArray, List.getElem_cons_succ, List.getElem_cons_zero, List.setIfInBounds_toArray, List.set_cons_zero, List.set_cons_succ]
        refine wpAnyH_take (i := 10) (v := ?_) rfl (by kernel_rfl) (by kernel_rfl) (by kernel_rfl) (fun _ _ _ h => h) (Or.inl ⟨by rfl, ?_⟩) hHeld ?_
        rotate_left
        · intro w hSw; (try dsimp only at hSw); go_simp; with_reducible rfl
        try simp only [Act.put, List.getElem_toArray, List.getElem_cons_succ, List.getElem_cons_zero, List.setIfInBounds_toArray, List.set_cons_zero, List.set_cons_succ]
        obtain ⟨vl, hvl, hvo⟩ := HM1.out.evl
        have hTt := HS1.out.t k i HX.out.1.2
        have hmc : w1.cell? ⟨bm, 0, none⟩ = some (.int .i64 m) := by simp [World.cell?, HS1.out.m]
        have hW1 := HM1.out.four.size
        refine wpAnyH_ready (rs := [11]) (by kernel_rfl) (by simp) (AllReadyH.cons rfl (fun K hK => ?_) AllReadyH.nil)
        go_simp
        (go_at_call 17; refine (cb_at bl bok bt bm g0 cap0 vl k _ i W0.heap.size s _ m w1 HSK.out HX.out.1.1 (by omega) (by omega) hvl hvo hW1 (by omega) HS1.out.ok hbB hok1 hTt.1 hTt.2 hmc hbB2 hbm1 _ HDEC.out).mono ?_; rintro e w4 ⟨rfl, hev4, ht4⟩)
        refine hK.out _ _ (by exact ⟨ht4.cell hHeld.1 (show w.heap.size < _ by omega) (show w.heap.size ≠ bl by omega), ht4.cell hHeld.2.1 (show b4 < _ by omega) (show b4 ≠ bl by omega), ht4.cell hHeld.2.2 (show g < _ by omega) (show g ≠ bl by omega)⟩) (fun hHeld => ?_)
        clear hK K
        try simp only [Act.put, List.getElem_toArray, List.getElem_cons_succ, List.getElem_cons_zero, List.setIfInBounds_toArray, List.set_cons_zero, List.set_cons_succ]
        refine wpAnyH_take (i := 12) (v := ?_) rfl (by kernel_rfl) (by kernel_rfl) (by kernel_rfl) (fun _ _ _ h => h) (Or.inl ⟨by rfl, ?_⟩) hHeld ?_
        rotate_left
        · intro w hSw; (try dsimp only at hSw); go_simp; with_reducible rfl
        try simp only [Act.put, List.getElem_toArray, List.getElem_cons_succ, List.getElem_cons_zero, List.setIfInBounds_toArray, List.set_cons_zero, List.set_cons_succ]
        refine wpAnyH_take (i := 13) (v := ?_) rfl (by kernel_rfl) (by kernel_rfl) (by kernel_rfl) (fun _ _ _ h => h) (Or.inl ⟨by rfl, ?_⟩) hHeld ?_
        rotate_left
        · intro w hSw; (try dsimp only at hSw); go_simp; with_reducible rfl
        try simp only [Act.put, List.getElem_toArray, List.getElem_cons_succ, List.getElem_cons_zero, List.setIfInBounds_toArray, List.set_cons_zero, List.set_cons_succ]
        refine wpAnyH_done (by kernel_rfl) ?_ _
        have hM4 : Mid ⟨L, A, R, F⟩ z n bl bn g (D + 1) D rec W0 i (k + 1) w4 := HM1.out.call HAP.out ht4 (by rw [HX.out.2.2.2.1]; exact hev4)
        have hb4 : BellAt w4 g ⟨L, A, R, F⟩ (stI (rs ⟨L, A, R, F⟩ z (i + 1)).r) ((rs ⟨L, A, R, F⟩ z (i + 1)).ag : Int) := by
          rw [HX.out.2.1]
          exact (ht4.block g (by omega) (by omega)).trans HB1.out
        have HM4 := Lib.hid hM4
        have HB4 := Lib.hid hb4
        have HDM : Hid (((k : Int) + 1 < m → k + 1 < M) ∧ (¬ (k : Int) + 1 < m → k + 1 = M)) := by
          have h1 := HM.out
          have h2 := HFEW.out
          refine ⟨fun h => ?_, fun h => ?_⟩
          · rw [h1, if_neg (by omega)]; omega
          · rw [h1] at h2 ⊢
            split at h2 <;> split <;> omega
        clear hM4 hb4 hev4 ht4 hHeld hvl hvo hTt hmc hW1
        clear hHeld
        gi_wp2
      · refine ⟨HM4.out.busy, .inr ⟨rfl, Mid.stop ?_ HAP.out HX.out.2.2.2.2 ?_⟩⟩
        · rw [← HDM.out.2 (by simpa using HDEC.out)]; exact HM4.out
        · rw [HKK.out]; exact HDM.out.2 (by simpa using HDEC.out)
      · refine ⟨HM4.out.busy, .inl ⟨rfl, Mid.go ?_ HAP.out ?_ HB4.out⟩⟩
        · rw [HX.out.2.2.1]; exact HM4.out
        · rw [HX.out.2.2.1]; exact HDM.out.1 (by simpa using HDEC.out)
  · rintro e W ⟨rfl, hJ | ⟨i, hi, hX⟩⟩
    · clear hs3 hrec
      refine ⟨⟨_, rfl⟩, .inl ⟨hJ.ready, ?_⟩⟩
      have HJ := Lib.hid hJ
      clear hJ
      go_wp2
      refine end_mark (.inl rfl) rfl ((World.putObj_heap_other (show D ≠ D + 1 by omega)).trans HJ.out.ready.2) ⟨_, results_none rfl _ _ _, ?_⟩
      obtain ⟨v, h1, h2⟩ := HJ.out.evl
      exact EvPost.of HB0.out HJ.out.four h1 h2 HJ.out.asked hblw hbnw (by omega) (by omega) hD2 (by have := HJ.out.few; omega) (by have := HJ.out.few; rw [if_neg (by omega)])
    · clear hs3 hrec
      refine ⟨⟨_, rfl⟩, .inr ⟨hX.left, ?_⟩⟩
      have HX := Lib.hid hX
      have HOA := Lib.hid (out_at ⟨L, A, R, F⟩ z i n hi hX.turn)
      have HAL := Lib.hid hX.all
      clear hX
      refine end_mark (.inr rfl) rfl ((World.putObj_heap_other (show D ≠ D + 1 by omega)).trans HX.out.left.2) ⟨_, results_none rfl _ _ _, ?_⟩
      obtain ⟨v, h1, h2⟩ := HX.out.evl
      have ha := HX.out.asked
      rw [show (i : Int) + 1 = ((i + 1 : Nat) : Int) by omega] at ha
      have hal := HAL.out
      have hoa := HOA.out
      refine EvPost.of HB0.out HX.out.four h1 h2 ha hblw hbnw (by omega) (by omega) hD2 (by omega) ?_
      rw [if_pos (by omega), show M - 1 = (rs ⟨L, A, R, F⟩ z i).out.length by omega, List.getD_eq_getElem?_getD, hoa.2]
      rfl
end Go.Proofs.Ytopcjopibblpaaa
