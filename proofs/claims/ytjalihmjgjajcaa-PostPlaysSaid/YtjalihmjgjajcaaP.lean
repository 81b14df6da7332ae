import Derived.Test.YtjalihmjgjajcaaO
namespace Go.Proofs.Ytjalihmjgjajcaa.S
open Go.RowKit Go.Joins
open Go.Proofs.Ytjalihmjgjajcaa (Touch below_blk own_below plN plN_lt plN_eq ret_ib block_setCells below_cells take_of_get cell_block own_same)

def nats (L : List Nat) : List Value := L.map fun (j : Nat) => Value.int .i64 (j : Int)
theorem nats_length (L : List Nat) : (nats L).length = L.length := by simp [nats]
/-- what lies still while places are gone through -/
structure GS (q : LT → Bool) (l : List LT) (most : Int) (b12 b11 b9 b5 b7 : Nat) (w0 w1 : World) : Prop where
  bel : Below w0.heap.size w0 w1
  hb : w0.heap.size ≤ b11
  small : l.length ≤ 64
  ok : w1.heap[b12]? = some (.cells #[.bool true] 4 (0, 0))
  at_ : ∃ va, w1.heap[b9]? = some (.cells #[va] 26 (0, 0)) ∧ w1.ownsRow w0.heap.size 3 1 va (ats q l l.length).length (nats (ats q l l.length)) ∧ va.ownBlock ≠ some b11
  l_ : ∃ vl B', w1.heap[b5]? = some (.cells #[vl] 46 (0, 0)) ∧ w1.ownsRow B' 48 3 vl l.length (flat l) ∧ vl.ownBlock ≠ some b11
  m : w1.heap[b7]? = some (.cells #[.int .i64 most] 3 (0, 0))
  ne12 : b12 ≠ b11
  ne9 : b9 ≠ b11
  ne5 : b5 ≠ b11
  ne7 : b7 ≠ b11
/-- i letters were looked at -/
structure GJ (q : LT → Bool) (l : List LT) (most : Int) (b11 : Nat) (w1 : World) (i : Nat) (W : World) : Prop where
  touch : Touch b11 w1 W
  n : W.heap[b11]? = some (.cells #[.int .i64 ((ats q l i).length : Int)] 3 (0, 0))
  few : (ats q l i).length = 0 ∨ ((ats q l i).length : Int) < most
structure GX (q : LT → Bool) (l : List LT) (most : Int) (b11 : Nat) (w1 : World) (i : Nat) (W : World) : Prop where
  touch : Touch b11 w1 W
  n : W.heap[b11]? = some (.cells #[.int .i64 (((ats q l i).length : Int) + 1)] 3 (0, 0))
  few : (ats q l i).length = 0 ∨ ((ats q l i).length : Int) < most
  lt : (ats q l i).length < (ats q l l.length).length
  stop : ¬ ((ats q l i).length : Int) + 1 < most
variable {q : LT → Bool} {l : List LT} {most : Int} {b12 b11 b9 b5 b7 i : Nat} {w0 w1 W W' : World}
theorem GJ.below (h : GJ q l most b11 w1 i W) (hb : Below W.heap.size W W') : GJ q l most b11 w1 i W' :=
  ⟨h.touch.trans (Touch.of_below hb b11), below_blk hb h.n, h.few⟩
theorem GJ.old (h : GJ q l most b11 w1 i W) (hs : GS q l most b12 b11 b9 b5 b7 w0 w1) : Below w0.heap.size w0 W := hs.bel.trans (h.touch.below hs.hb hs.bel.size)
theorem GX.old (h : GX q l most b11 w1 i W) (hs : GS q l most b12 b11 b9 b5 b7 w0 w1) : Below w0.heap.size w0 W := hs.bel.trans (h.touch.below hs.hb hs.bel.size)

theorem GJ.call (hs : GS q l most b12 b11 b9 b5 b7 w0 w1) {x : LT} (hx : l[i]? = some x) (hq : q x = true) (h : GJ q l most b11 w1 i W) :
    Calls Try.prog 33 #[.int .i64 (i : Int), lv x, .pointer (some ⟨b12, 0, none⟩), .pointer (some ⟨b11, 0, none⟩), .pointer (some ⟨b9, 0, none⟩), .pointer (some ⟨b5, 0, none⟩), .pointer (some ⟨b7, 0, none⟩)] W fun e W' =>
      Touch b11 W W' ∧ ((e = .returned (.bool true) ∧ GJ q l most b11 w1 (i + 1) W') ∨ (e = .returned (.bool false) ∧ GX q l most b11 w1 i W')) := by
  obtain ⟨va, ha1, ha2, ha3⟩ := hs.at_
  obtain ⟨vl, B', hl1, hl2, hl3⟩ := hs.l_
  have hil : i < l.length := (List.getElem?_eq_some_iff.1 hx).1
  have hsm := hs.small
  obtain ⟨k1, k2⟩ := ats_at hil hx hq
  have hle := ats_le q l i
  obtain ⟨g, capt, rfl, _⟩ := ha2.form (by omega)
  obtain ⟨gl, capl, rfl, _⟩ := hl2.form (by omega)
  have hat : W.ownsRow w0.heap.size 3 1 (.slice (some ⟨g, 0, none⟩) (ats q l l.length).length capt) (ats q l l.length).length (nats (ats q l l.length)) :=
    own_same ha2 fun k hk => h.touch.block k (ha2.lt k hk).2 (fun e => ha3 (by rw [← e]; exact hk))
  have hll : W.ownsRow B' 48 3 (.slice (some ⟨gl, 0, none⟩) l.length capl) l.length (flat l) :=
    own_same hl2 fun k hk => h.touch.block k (hl2.lt k hk).2 (fun e => hl3 (by rw [← e]; exact hk))
  obtain ⟨r0, r1, r2⟩ := row_cells hll hx
  have c9 := h.touch.blk ha1 hs.ne9
  have c5 := h.touch.blk hl1 hs.ne5
  have c7 := h.touch.blk hs.m hs.ne7
  refine (f33_any b12 b11 b9 b5 b7 g _ capt (ats q l i).length i gl _ capl x most W k1 hil (by omega) (by omega) (h.touch.blk hs.ok hs.ne12) h.n (by simp [World.cell?, c9]) ?_ (by simp [World.cell?, c5]) r0 r1 r2 (by simp [World.cell?, c7]) hs.ne12 hs.ne7).mono ?_
  · have := hat.cellAt (ats q l i).length (by omega)
    rw [this]
    simp [nats, k2]
  · rintro e W' ⟨rfl, hn, ht⟩
    refine ⟨ht, ?_⟩
    by_cases hm : ((ats q l i).length : Int) + 1 < most
    · refine .inl ⟨by rw [decide_eq_true hm], h.touch.trans ht, ?_, ?_⟩
      · rw [ats_succ hx, if_pos hq, hn]; simp
      · rw [ats_succ hx, if_pos hq]; right; simpa using hm
    · exact .inr ⟨by rw [decide_eq_false hm], h.touch.trans ht, hn, h.few, k1, hm⟩
theorem GJ.next {x : LT} (hx : l[i]? = some x) (hq : q x = false) (h : GJ q l most b11 w1 i W) : GJ q l most b11 w1 (i + 1) W := by
  have e : ats q l (i + 1) = ats q l i := by rw [ats_succ hx, hq]; rfl
  exact ⟨h.touch, by rw [e]; exact h.n, by rw [e]; exact h.few⟩

set_option maxHeartbeats 4000000 in
theorem f37_plain (hs : GS (fun _ => true) l most b12 b11 b9 b5 b7 w0 w1) (b0 B : Nat) (v : Value) (h0 : w0.heap[b0]? = some (.cells #[v] 46 (0, 0))) (ho : w0.ownsRow B 48 3 v l.length (flat l)) (w : World) (hJ : GJ (fun _ => true) l most b11 w1 0 w) :
    Calls Try.prog 37 #[.func (Fn.func 33) #[] #[.pointer (some ⟨b12, 0, none⟩), .pointer (some ⟨b11, 0, none⟩), .pointer (some ⟨b9, 0, none⟩), .pointer (some ⟨b5, 0, none⟩), .pointer (some ⟨b7, 0, none⟩)], .pointer (some ⟨b0, 0, none⟩)] w fun e W =>
      e = .returned (.tuple #[]) ∧ (GJ (fun _ => true) l most b11 w1 l.length W ∨ ∃ i, GX (fun _ => true) l most b11 w1 i W) := by
  obtain ⟨ao, cap, rfl⟩ := own_forms ho
  have hB := hJ.old hs
  have hsm := hs.small
  have hc : w.cell? ⟨b0, 0, none⟩ = some (.slice ao l.length cap) := by simp [World.cell?, below_blk hB h0]
  have H := Lib.hid (⟨hs, ho, hJ⟩ : _ ∧ _ ∧ _)
  clear hs ho hJ h0 hB
  go_enter Try.func37, Try.ntmps37
  go_wp2_with fail
  go_loopw [7] (fun i wr => ∃ k : Nat, k ≤ l.length ∧ i = .int .i64 k ∧ GJ (fun _ => true) l most b11 w1 k wr) (fun i _ => l.length - (intOf i).toNat)
  case atStart => exact ⟨0, by omega, rfl, H.out.2.2⟩
  case round =>
    obtain ⟨k, hk, rfl, hJ⟩ := hrel
    have HJ := Lib.hid hJ
    clear hJ
    by_cases hlt : k < l.length
    · have hx : l[k]? = some l[k] := by simp [hlt]
      have HX := Lib.hid hx
      obtain ⟨g, cap', e, _⟩ := H.out.2.1.form (by omega)
      simp only [Value.slice.injEq, true_and] at e
      obtain ⟨rfl, rfl⟩ := e
      obtain ⟨c0, c1, c2⟩ := row_cells (own_below H.out.2.1 (HJ.out.old H.out.1)) hx
      clear hx hc
      generalize l[k] = x at *
      obtain ⟨xf, xt, xw⟩ := x
      simp only at c0 c1 c2
      have HJ1 := Lib.hid (HJ.out.below ((Below.refl _ wr).alloc (Nat.le_refl _) (.cells #[.int .i64 xf, .int .i64 xt, .string xw] 48)))
      go_wp2_with fail
      refine (GJ.call H.out.1 HX.out rfl HJ1.out).mono ?_
      rintro e W' ⟨_, ⟨rfl, h⟩ | ⟨rfl, h⟩⟩
      · have H2 := Lib.hid h
        clear h c0 c1 c2
        go_wp2
        exact ⟨⟨k + 1, by omega, by go_num, H2.out⟩, by simp [intOf]; omega⟩
      · have H2 := Lib.hid h
        clear h c0 c1 c2
        go_wp2
        refine bodyPost_ret (results_none rfl _ _ _) rfl ⟨rfl, .inr ⟨k, H2.out⟩⟩
    · obtain rfl : k = l.length := by omega
      go_wp2
      go_end0
      exact ⟨rfl, .inl HJ.out⟩

attribute [local go_sem] Oper.semAt_some
set_option maxHeartbeats 4000000 in
theorem f37_yield (L m : Nat) (J Jx : Nat → World → Prop) (b0 : Nat) (v : Value) (B : Nat) (l : List LT)
    (hs : ∀ i W, J i W → W.heap[b0]? = some (.cells #[v] 46 (0, 0)) ∧ W.ownsRow B 48 3 v l.length (flat l)) (hl : l.length ≤ 64)
    (hb : ∀ i W W', J i W → Below W.heap.size W W' → J i W')
    (hY : ∀ i x W, l[i]? = some x → J i W → YieldAt Fence.wide m Try.prog L #[.int .i64 (i : Int), lv x] W fun e W' => (e = .returned (.bool true) ∧ J (i + 1) W') ∨ (e = .returned (.bool false) ∧ Jx i W'))
    (w : World) (h0 : J 0 w) :
    Calls Try.prog 37 #[.func (.yield L) #[] #[], .pointer (some ⟨b0, 0, none⟩)] w fun e W' => e = .returned (.tuple #[]) ∧ (J l.length W' ∨ ∃ i, i < l.length ∧ Jx i W') := by
  refine (callsIn_wide (n := m + 1)).1 ?_
  refine callsIn_of_wp Try.func37 rfl trivial ?_ rfl
  simp only [Try.ntmps37, List.size_toArray, List.length_cons, List.length_nil, Nat.reduceAdd, Nat.reduceSub, Array.replicate_succ, Array.replicate_zero, List.push_toArray, List.append_toArray, List.nil_append, List.cons_append]
  have HS := Lib.hid hs
  have HB := Lib.hid hb
  have HY := Lib.hid hY
  obtain ⟨d1, d2⟩ := hs 0 w h0
  obtain ⟨ao, cap, rfl⟩ := own_forms d2
  have hc : w.cell? ⟨b0, 0, none⟩ = some (.slice ao l.length cap) := by simp [World.cell?, d1]
  clear hs hY hb d1 d2
  gi_wp2
  gi_loopw [7] (fun i wr => ∃ k : Nat, k ≤ l.length ∧ i = .int .i64 k ∧ J k wr) (fun i _ => l.length - (intOf i).toNat)
  case atStart => exact ⟨0, by omega, rfl, h0⟩
  case round =>
    obtain ⟨k, hk, rfl, hJ⟩ := hrel
    have HJ := Lib.hid hJ
    clear hJ
    by_cases hlt : k < l.length
    · have hx : l[k]? = some l[k] := by simp [hlt]
      have HX := Lib.hid hx
      have hrow := (HS.out k wr HJ.out).2
      obtain ⟨g, cap', e, _⟩ := hrow.form (by omega)
      simp only [Value.slice.injEq, true_and] at e
      obtain ⟨rfl, rfl⟩ := e
      obtain ⟨c0, c1, c2⟩ := row_cells hrow hx
      clear hx hc hrow
      generalize l[k] = x at *
      obtain ⟨fn, tmps, assign, body, hy, hR⟩ := HY.out k x _ HX.out (HB.out _ _ _ HJ.out ((Below.refl _ wr).alloc (Nat.le_refl _) (.cells #[.int .i64 x.fr, .int .i64 x.to, .string x.what] 48)))
      obtain ⟨xf, xt, xw⟩ := x
      simp only [lv] at c0 c1 c2 hy hR
      gi_wp2
      refine hR.mono ?_
      rintro e W' (⟨rfl, h⟩ | ⟨rfl, h⟩)
      · have H2 := Lib.hid h
        clear h hy hR c0 c1 c2
        gi_wp2
        exact ⟨⟨k + 1, by omega, by go_num, H2.out⟩, by simp [intOf]; omega⟩
      · have H2 := Lib.hid h
        clear h hy hR c0 c1 c2
        gi_wp2
        refine bodyPost_ret (results_none rfl _ _ _) rfl ⟨rfl, .inr ⟨k, hlt, H2.out⟩⟩
    · obtain rfl : k = l.length := by omega
      gi_wp2
      go_end0
      exact ⟨rfl, .inl HJ.out⟩
end Go.Proofs.Ytjalihmjgjajcaa.S
