import Derived.Test.YtjalihmjgjajcaaR
namespace Go.Proofs.Ytjalihmjgjajcaa.S
open Go.RowKit Go.Joins
open Go.Proofs.Ytjalihmjgjajcaa (Touch below_blk own_below plN plN_lt plN_eq ret_ib block_setCells below_cells take_of_get cell_block own_same)

/-- k letters were looked at; their places lie in a row of one's own -/
structure GI (q : LT → Bool) (l : List LT) (vl : Value) (most : Int) (w : World) (k : Nat) (wr : World) : Prop where
  bel : Below w.heap.size w wr
  l_ : wr.heap[w.heap.size]? = some (.cells #[vl] 46 (0, 0))
  m : wr.heap[w.heap.size + 1]? = some (.cells #[.int .i64 most] 3 (0, 0))
  at_ : ∃ va, wr.heap[w.heap.size + 2]? = some (.cells #[va] 26 (0, 0)) ∧ wr.ownsRow (w.heap.size + 3) 3 1 va (ats q l k).length (nats (ats q l k))
namespace GI
variable {q : LT → Bool} {l : List LT} {vl : Value} {most : Int} {w wr w' : World} {k : Nat}
theorem below (h : GI q l vl most w k wr) (hb : Below wr.heap.size wr w') : GI q l vl most w k w' := by
  obtain ⟨va, h1, h2⟩ := h.at_
  exact ⟨h.bel.trans (hb.mono h.bel.size), below_blk hb h.l_, below_blk hb h.m, va, below_blk hb h1, own_below h2 hb⟩
theorem lt (h : GI q l vl most w k wr) : w.heap.size + 2 < wr.heap.size := by obtain ⟨va, h1, _⟩ := h.at_; exact (Array.getElem?_eq_some_iff.1 h1).1
/-- behind the append and its store -/
theorem app (h : GI q l vl most w k wr) {va : Value} (ha : wr.heap[w.heap.size + 2]? = some (.cells #[va] 26 (0, 0))) (hlt : ∀ j, va.ownBlock = some j → w.heap.size + 3 ≤ j) (hg : wr.grownBy w' va.ownBlock) {v : Value} {k' : Nat} (hv : w'.ownsRow (w.heap.size + 3) 3 1 v (ats q l k').length (nats (ats q l k'))) :
    GI q l vl most w k' (w'.setCell ⟨w.heap.size + 2, 0, none⟩ v) := by
  have hl := h.lt
  have blk : ∀ {b : Nat} {o : Obj}, wr.heap[b]? = some o → b < w.heap.size + 3 → w'.heap[b]? = some o := fun {b o} hb hlt' => by
    have := (Array.getElem?_eq_some_iff.1 hb).1
    rw [hg.block b this (fun e => by have := hlt b e.symm; omega)]; exact hb
  refine ⟨(h.bel.grown hg h.bel.size (fun j hj => by have := hlt j hj; omega)).setCell (show w.heap.size ≤ w.heap.size + 2 by omega) _, (Below.heap_setCell _ _ _ _ (show w.heap.size ≠ w.heap.size + 2 by omega)).trans (blk h.l_ (by omega)), (Below.heap_setCell _ _ _ _ (show w.heap.size + 1 ≠ w.heap.size + 2 by omega)).trans (blk h.m (by omega)), v, ?_, ownsRow_setCell_below hv (show w.heap.size + 2 < w.heap.size + 3 by omega) v⟩
  have := block_setCell (i := 0) (blk ha (by omega)) v
  simpa using this
end GI
theorem nats_append (a b : List Nat) : nats (a ++ b) = nats a ++ nats b := by simp [nats]
theorem own_form1 {w : World} {B e s n : Nat} {v : Value} {xs : List Value} (h : w.ownsRow B e s v n xs) : ∃ ao cap, v = .slice ao n cap := by
  rcases h.2 with ⟨rfl, rfl⟩ | ⟨g, cap, cur, rfl, _⟩
  · exact ⟨none, 0, rfl⟩
  · exact ⟨_, cap, rfl⟩
theorem most_int (k m : Int) (N : Nat) (h : k = min (N : Int) (max m 1)) : (k == min (N : Int) (max m 1)) = true := by simp [h]

set_option maxRecDepth 100000 in
set_option maxHeartbeats 16000000 in
theorem goes_all (most : Int) (hm0 : 0 ≤ most) (hm1 : most ≤ 1000) (l : List LT) (B B' : Nat) (vl : Value) (b0 : Nat) (v : Value) (w : World) (hsm : l.length ≤ 64) (hl : w.ownsRow B' 48 3 vl l.length (flat l)) (hp : w.heap[b0]? = some (.cells #[v] 46 (0, 0))) (hP : w.ownsRow B 48 3 v l.length (flat l)) :
    Calls Try.prog 19 #[.func (Fn.func 37) #[] #[.pointer (some ⟨b0, 0, none⟩)], vl, .func (Fn.func 22) #[] #[], .int .i64 most] w fun e w' => e = .returned (.bool true) ∧ Below w.heap.size w w' := by
  obtain ⟨i3, hi3, hz3⟩ := Option.map_eq_some_iff.1 info3
  simp only [Prod.mk.injEq] at hz3
  have hmf : ∀ (fn : Fn) (first cap : Array Value) (w : World), (Instr.makeFunc fn first cap).run Try.prog w = .ok (.func fn first cap) w := fun _ _ _ _ => rfl
  have HR := Lib.hid hl
  have HH := Lib.hid (⟨hp, hP⟩ : _ ∧ _)
  obtain ⟨ao, cap, rfl⟩ := own_forms hl
  have H0 : Hid (GI (fun _ => true) l (.slice ao l.length cap) most w 0 (((w.alloc (.cells #[.slice ao l.length cap] 46)).alloc (.cells #[.int .i64 most] 3)).alloc (.cells #[.slice none 0 0] 26))) := by
    have h1 := heap_alloc_new w (.cells #[.slice ao l.length cap] 46)
    have h2 := heap_alloc_new (w.alloc (.cells #[.slice ao l.length cap] 46)) (.cells #[.int .i64 most] 3)
    have h3 := heap_alloc_new ((w.alloc (.cells #[.slice ao l.length cap] 46)).alloc (.cells #[.int .i64 most] 3)) (.cells #[.slice none 0 0] 26)
    rw [show (w.alloc (.cells #[.slice ao l.length cap] 46)).heap.size = w.heap.size + 1 by simp] at h2
    rw [show ((w.alloc (.cells #[.slice ao l.length cap] 46)).alloc (.cells #[.int .i64 most] 3)).heap.size = w.heap.size + 2 by simp] at h3
    refine ⟨(((Below.refl _ w).alloc (Nat.le_refl _) _).alloc (by simp) _).alloc (by simp; omega) _, below_blk (((Below.refl _ _).alloc (Nat.le_refl _) _).alloc (by simp) _) h1, below_blk ((Below.refl _ _).alloc (Nat.le_refl _) _) h2, _, h3, World.ownsRow_nil _ _ _ _⟩
  clear hl hp hP
  go_enter Try.func19, Try.ntmps19
  go_wp2_with fail
  go_loopw [15] (fun i wr => ∃ k : Nat, k ≤ l.length ∧ i = .int .i64 k ∧ GI (fun _ => true) l (.slice ao l.length cap) most w k wr) (fun i _ => l.length - (intOf i).toNat)
  case atStart => exact ⟨0, by omega, rfl, H0.out⟩
  case round =>
    obtain ⟨k, hk, rfl, hI⟩ := hrel
    have HI := Lib.hid hI
    have d1 := hI.l_
    have hc := hI.lt
    have e1 : wr.cell? ⟨w.heap.size, 0, none⟩ = some (.slice ao l.length cap) := by simp [World.cell?, d1]
    clear hI H0 d1
    by_cases hlt : k < l.length
    · have hx : l[k]? = some l[k] := by simp [hlt]
      have HX := Lib.hid hx
      obtain ⟨g, cap', e, _⟩ := HR.out.form (by omega)
      simp only [Value.slice.injEq, true_and] at e
      obtain ⟨rfl, rfl⟩ := e
      obtain ⟨c0, c1, c2⟩ := row_cells (own_below HR.out HI.out.bel) hx
      clear hx
      generalize l[k] = x at *
      obtain ⟨xf, xt, xw⟩ := x
      simp only at c0 c1 c2
      go_wp2_with fail
      refine (who2_any ⟨xf, xt, xw⟩ _).mono ?_
      rintro e w1 ⟨rfl, hb1⟩
      have HI1 := Lib.hid (HI.out.below hb1)
      clear hb1 c0 c1 c2 e1
      have hc1 := HI1.out.lt
      obtain ⟨va, ha1, ha2⟩ := HI1.out.at_
      obtain ⟨aa, capa, rfl⟩ := own_form1 ha2
      have f1 : w1.cell? ⟨w.heap.size + 2, 0, none⟩ = some (.slice aa (ats (fun _ => true) l k).length capa) := by simp [World.cell?, ha1]
      have f2 : w1.frozen? ⟨w.heap.size + 2, 0, none⟩ = false := by simp [World.frozen?, ha1]
      have HA := Lib.hid (⟨ha1, ha2⟩ : _ ∧ _)
      have hle := ats_le (fun _ => true) l k
      clear ha1 ha2
      have hd : True := trivial
      · have HQ : Hid (ats (fun _ => true) l (k + 1) = ats (fun _ => true) l k ++ [k]) := (by rw [ats_succ HX.out, if_pos (rfl)] : ats (fun _ => true) l (k + 1) = ats (fun _ => true) l k ++ [k])
        have HB2 := Lib.hid ((Below.refl w1.heap.size w1).alloc (Nat.le_refl _) (.cells #[.int .i64 (k : Int)] 3))
        have HI2 := Lib.hid (HI1.out.below HB2.out)
        have HO2 := Lib.hid (own_below HA.out.2 HB2.out)
        have HP2 := Lib.hid (below_blk HB2.out HA.out.1)
        generalize hN : (ats (fun _ => true) l k).length = N at *
        have HN := Lib.hid hN
        clear hN
        go_wp2_with (first
          | (at_builtin
             refine wpList_append_lies _ rfl _ _ 26 rfl (w.heap.size + 3) 3 i3 (.int .i64 0) 1 8 Try.underlying26 hi3 hz3.1 hz3.2.1 hz3.2.2 rfl (by omega) _ _ _ rfl HO2.out _ 1 1 [.int .i64 (k : Int)] rfl rfl (World.news_of_block (heap_alloc_new w1 _)) (by intro u hu; simp at hu; subst hu; rfl) (by omega) (by unfold maxLen; omega) (by omega) (by simp; omega) _ rfl ?_)
          | fail)
        intro g5 cap5 w5 hown5 hg5 hat5 hlt5
        have hp5 : w5.heap[w.heap.size + 2]? = some (.cells #[.slice aa N capa] 26 (0, 0)) := by
          rw [hg5.block _ (by simp; omega) (fun e => by have := (HO2.out.lt _ e.symm).1; omega)]; exact HP2.out
        have f3 : w5.cell? ⟨w.heap.size + 2, 0, none⟩ = some (.slice aa N capa) := by simp [World.cell?, hp5]
        have f4 : w5.frozen? ⟨w.heap.size + 2, 0, none⟩ = false := by simp [World.frozen?, hp5]
        have HI5 : Hid (GI (fun _ => true) l (.slice (some ⟨g, 0, none⟩) l.length cap) most w (k + 1) (w5.setCell ⟨w.heap.size + 2, 0, none⟩ (.slice (some ⟨g5, 0, none⟩) (N + 1) cap5))) := by
          refine HI2.out.app HP2.out (fun j hj => (HO2.out.lt j hj).1) hg5 ?_
          rw [HQ.out, nats_append, List.length_append, HN.out]
          exact hown5
        clear hown5 hg5 hat5 hlt5 hp5 HO2 HP2 HI2 HB2 f1 f2
        go_wp2
        exact ⟨⟨k + 1, by omega, by go_num, HI5.out⟩, by simp [intOf]; omega⟩
      
    · obtain rfl : k = l.length := by omega
      clear e1
      have hB1 := (Below.refl wr.heap.size wr).alloc (Nat.le_refl _) (.cells #[.int .i64 0] 3)
      have hB2 := hB1.alloc (by simp) (.cells #[.bool true] 4)
      have hn1 := below_blk ((Below.refl _ _).alloc (Nat.le_refl _) (.cells #[.bool true] 4)) (heap_alloc_new wr (.cells #[.int .i64 0] 3))
      have hn2 := heap_alloc_new (wr.alloc (.cells #[.int .i64 0] 3)) (.cells #[.bool true] 4)
      rw [show (wr.alloc (.cells #[.int .i64 0] 3)).heap.size = wr.heap.size + 1 by simp] at hn2
      have HIz := Lib.hid (HI.out.below hB2)
      obtain ⟨w1, hw1⟩ : ∃ w1, w1 = (wr.alloc (.cells #[.int .i64 0] 3)).alloc (.cells #[.bool true] 4) := ⟨_, rfl⟩
      have HGS : Hid (GS (fun _ => true) l most (wr.heap.size + 1) wr.heap.size (w.heap.size + 2) w.heap.size (w.heap.size + 1) w w1 ∧ GJ (fun _ => true) l most wr.heap.size w1 0 w1 ∧ wr.heap.size < w1.heap.size) := by
        rw [hw1]
        obtain ⟨va, ha1, ha2⟩ := HI.out.at_
        refine ⟨⟨HIz.out.bel, by omega, hsm, hn2, ⟨va, below_blk hB2 ha1, ownsRow_le (own_below ha2 hB2) (by omega), fun e => by have := (ha2.lt _ e).2; omega⟩, ⟨_, B', HIz.out.l_, own_below HR.out HIz.out.bel, fun e => by have := (HR.out.lt _ e).2; have := HI.out.bel.size; omega⟩, HIz.out.m, by omega, by omega, by omega, by omega⟩, ⟨Touch.refl _ _, hn1, .inl rfl⟩, by simp; omega⟩
      clear hB1 hB2 hn1 hn2 HI HIz
      go_wp2_with fail
      rw [← hw1]
      clear hw1
      refine (f37_plain HGS.out.1 b0 B v HH.out.1 HH.out.2 _ HGS.out.2.1).mono ?_
      rintro e w2 ⟨rfl, hE⟩
      have HF : Hid (Below w.heap.size w w2 ∧ w2.cell? ⟨wr.heap.size + 1, 0, none⟩ = some (.bool true) ∧ (∃ n : Nat, w2.cell? ⟨wr.heap.size, 0, none⟩ = some (.int .i64 (n : Int)) ∧ (n : Int) = min (((ats (fun _ => true) l l.length).length : Nat) : Int) (max most 1)) ∧ (∃ aa capa, w2.cell? ⟨w.heap.size + 2, 0, none⟩ = some (.slice aa (ats (fun _ => true) l l.length).length capa)) ∧ w2.cell? ⟨w.heap.size + 1, 0, none⟩ = some (.int .i64 most)) := by
        have hgs := HGS.out.1
        have key : ∀ (ht : Touch wr.heap.size w1 w2), Below w.heap.size w w2 ∧ w2.cell? ⟨wr.heap.size + 1, 0, none⟩ = some (.bool true) ∧ (∃ aa capa, w2.cell? ⟨w.heap.size + 2, 0, none⟩ = some (.slice aa (ats (fun _ => true) l l.length).length capa)) ∧ w2.cell? ⟨w.heap.size + 1, 0, none⟩ = some (.int .i64 most) := fun ht => by
          obtain ⟨va, ha1, ha2, _⟩ := hgs.at_
          obtain ⟨aa, capa, rfl⟩ := own_form1 ha2
          have k1 := ht.blk hgs.ok hgs.ne12
          have k2 := ht.blk ha1 hgs.ne9
          have k3 := ht.blk hgs.m hgs.ne7
          exact ⟨hgs.bel.trans (ht.below hgs.hb hgs.bel.size), by simp [World.cell?, k1], ⟨aa, capa, by simp [World.cell?, k2]⟩, by simp [World.cell?, k3]⟩
        rcases hE with h | ⟨i, h⟩
        · obtain ⟨k1, k2, k3, k4⟩ := key h.touch
          refine ⟨k1, k2, ⟨_, by have := h.n; simp [World.cell?, this]; rfl, ?_⟩, k3, k4⟩
          have := h.few
          omega
        · obtain ⟨k1, k2, k3, k4⟩ := key h.touch
          refine ⟨k1, k2, ⟨(ats (fun _ => true) l i).length + 1, by have := h.n; simp [World.cell?, this], ?_⟩, k3, k4⟩
          have h1 := h.few
          have h2 := h.stop
          have h3 := h.lt
          omega
      obtain ⟨_, f1, ⟨n, f2, hn⟩, ⟨aa, capa, f3⟩, f4⟩ := HF.out
      clear hE
      generalize (ats (fun _ => true) l l.length).length = N at *
      go_wp2_with fail
      all_goals
        go_ret
        exact ⟨by simp; omega, HF.out.1⟩

set_option maxRecDepth 100000 in
set_option maxHeartbeats 16000000 in
theorem goes_to (most : Int) (hm0 : 0 ≤ most) (hm1 : most ≤ 1000) (l : List LT) (B B' : Nat) (vl : Value) (who : Int) (bp bw b8 p : Nat) (w : World) (hsm : l.length ≤ 64) (hl : w.ownsRow B' 48 3 vl l.length (flat l)) (hp : w.heap[bp]? = some (.cells #[.pointer (some ⟨p, 0, none⟩)] 44 (0, 0))) (hw : w.heap[bw]? = some (.cells #[.int .i64 who] 3 (0, 0))) (hP : PostAt w B p l) (h8 : w.cell? ⟨b8, 2, none⟩ = some (.int .i64 who)) :
    Calls Try.prog 19 #[.func (Fn.func 34) #[] #[.pointer (some ⟨bp, 0, none⟩), .pointer (some ⟨bw, 0, none⟩)], vl, .func (Fn.func 21) #[] #[.pointer (some ⟨b8, 0, none⟩)], .int .i64 most] w fun e w' => e = .returned (.bool true) ∧ Below w.heap.size w w' := by
  obtain ⟨i3, hi3, hz3⟩ := Option.map_eq_some_iff.1 info3
  simp only [Prod.mk.injEq] at hz3
  have hmf : ∀ (fn : Fn) (first cap : Array Value) (w : World), (Instr.makeFunc fn first cap).run Try.prog w = .ok (.func fn first cap) w := fun _ _ _ _ => rfl
  have HR := Lib.hid hl
  have HH := Lib.hid (⟨hp, hw, hP, h8⟩ : _ ∧ _ ∧ _ ∧ _)
  obtain ⟨ao, cap, rfl⟩ := own_forms hl
  have H0 : Hid (GI (fun x => x.to == who) l (.slice ao l.length cap) most w 0 (((w.alloc (.cells #[.slice ao l.length cap] 46)).alloc (.cells #[.int .i64 most] 3)).alloc (.cells #[.slice none 0 0] 26))) := by
    have h1 := heap_alloc_new w (.cells #[.slice ao l.length cap] 46)
    have h2 := heap_alloc_new (w.alloc (.cells #[.slice ao l.length cap] 46)) (.cells #[.int .i64 most] 3)
    have h3 := heap_alloc_new ((w.alloc (.cells #[.slice ao l.length cap] 46)).alloc (.cells #[.int .i64 most] 3)) (.cells #[.slice none 0 0] 26)
    rw [show (w.alloc (.cells #[.slice ao l.length cap] 46)).heap.size = w.heap.size + 1 by simp] at h2
    rw [show ((w.alloc (.cells #[.slice ao l.length cap] 46)).alloc (.cells #[.int .i64 most] 3)).heap.size = w.heap.size + 2 by simp] at h3
    refine ⟨(((Below.refl _ w).alloc (Nat.le_refl _) _).alloc (by simp) _).alloc (by simp; omega) _, below_blk (((Below.refl _ _).alloc (Nat.le_refl _) _).alloc (by simp) _) h1, below_blk ((Below.refl _ _).alloc (Nat.le_refl _) _) h2, _, h3, World.ownsRow_nil _ _ _ _⟩
  clear hl hp hw hP h8
  go_enter Try.func19, Try.ntmps19
  go_wp2_with fail
  go_loopw [15] (fun i wr => ∃ k : Nat, k ≤ l.length ∧ i = .int .i64 k ∧ GI (fun x => x.to == who) l (.slice ao l.length cap) most w k wr) (fun i _ => l.length - (intOf i).toNat)
  case atStart => exact ⟨0, by omega, rfl, H0.out⟩
  case round =>
    obtain ⟨k, hk, rfl, hI⟩ := hrel
    have HI := Lib.hid hI
    have d1 := hI.l_
    have hc := hI.lt
    have e1 : wr.cell? ⟨w.heap.size, 0, none⟩ = some (.slice ao l.length cap) := by simp [World.cell?, d1]
    clear hI H0 d1
    by_cases hlt : k < l.length
    · have hx : l[k]? = some l[k] := by simp [hlt]
      have HX := Lib.hid hx
      obtain ⟨g, cap', e, _⟩ := HR.out.form (by omega)
      simp only [Value.slice.injEq, true_and] at e
      obtain ⟨rfl, rfl⟩ := e
      obtain ⟨c0, c1, c2⟩ := row_cells (own_below HR.out HI.out.bel) hx
      clear hx
      generalize l[k] = x at *
      obtain ⟨xf, xt, xw⟩ := x
      simp only at c0 c1 c2
      go_wp2_with fail
      refine (who1_any ⟨xf, xt, xw⟩ b8 who _ (by rw [HI.out.bel.cell (cell_block HH.out.2.2.2)]; exact HH.out.2.2.2)).mono ?_
      rintro e w1 ⟨rfl, hb1⟩
      have HI1 := Lib.hid (HI.out.below hb1)
      clear hb1 c0 c1 c2 e1
      have hc1 := HI1.out.lt
      obtain ⟨va, ha1, ha2⟩ := HI1.out.at_
      obtain ⟨aa, capa, rfl⟩ := own_form1 ha2
      have f1 : w1.cell? ⟨w.heap.size + 2, 0, none⟩ = some (.slice aa (ats (fun x => x.to == who) l k).length capa) := by simp [World.cell?, ha1]
      have f2 : w1.frozen? ⟨w.heap.size + 2, 0, none⟩ = false := by simp [World.frozen?, ha1]
      have HA := Lib.hid (⟨ha1, ha2⟩ : _ ∧ _)
      have hle := ats_le (fun x => x.to == who) l k
      clear ha1 ha2
      simp only
      cases hq2 : (xt == who)
      rotate_left
      · have HQ : Hid (ats (fun x => x.to == who) l (k + 1) = ats (fun x => x.to == who) l k ++ [k]) := (by rw [ats_succ HX.out, if_pos (hq2)] : ats (fun x => x.to == who) l (k + 1) = ats (fun x => x.to == who) l k ++ [k])
        have HB2 := Lib.hid ((Below.refl w1.heap.size w1).alloc (Nat.le_refl _) (.cells #[.int .i64 (k : Int)] 3))
        have HI2 := Lib.hid (HI1.out.below HB2.out)
        have HO2 := Lib.hid (own_below HA.out.2 HB2.out)
        have HP2 := Lib.hid (below_blk HB2.out HA.out.1)
        generalize hN : (ats (fun x => x.to == who) l k).length = N at *
        have HN := Lib.hid hN
        clear hN
        go_wp2_with (first
          | (at_builtin
             refine wpList_append_lies _ rfl _ _ 26 rfl (w.heap.size + 3) 3 i3 (.int .i64 0) 1 8 Try.underlying26 hi3 hz3.1 hz3.2.1 hz3.2.2 rfl (by omega) _ _ _ rfl HO2.out _ 1 1 [.int .i64 (k : Int)] rfl rfl (World.news_of_block (heap_alloc_new w1 _)) (by intro u hu; simp at hu; subst hu; rfl) (by omega) (by unfold maxLen; omega) (by omega) (by simp; omega) _ rfl ?_)
          | fail)
        intro g5 cap5 w5 hown5 hg5 hat5 hlt5
        have hp5 : w5.heap[w.heap.size + 2]? = some (.cells #[.slice aa N capa] 26 (0, 0)) := by
          rw [hg5.block _ (by simp; omega) (fun e => by have := (HO2.out.lt _ e.symm).1; omega)]; exact HP2.out
        have f3 : w5.cell? ⟨w.heap.size + 2, 0, none⟩ = some (.slice aa N capa) := by simp [World.cell?, hp5]
        have f4 : w5.frozen? ⟨w.heap.size + 2, 0, none⟩ = false := by simp [World.frozen?, hp5]
        have HI5 : Hid (GI (fun x => x.to == who) l (.slice (some ⟨g, 0, none⟩) l.length cap) most w (k + 1) (w5.setCell ⟨w.heap.size + 2, 0, none⟩ (.slice (some ⟨g5, 0, none⟩) (N + 1) cap5))) := by
          refine HI2.out.app HP2.out (fun j hj => (HO2.out.lt j hj).1) hg5 ?_
          rw [HQ.out, nats_append, List.length_append, HN.out]
          exact hown5
        clear hown5 hg5 hat5 hlt5 hp5 HO2 HP2 HI2 HB2 f1 f2
        go_wp2
        exact ⟨⟨k + 1, by omega, by go_num, HI5.out⟩, by simp [intOf]; omega⟩
      · have HQ : Hid (ats (fun x => x.to == who) l (k + 1) = ats (fun x => x.to == who) l k) := (by rw [ats_succ HX.out]; simp [hq2] : ats (fun x => x.to == who) l (k + 1) = ats (fun x => x.to == who) l k)
        generalize hN : (ats (fun x => x.to == who) l k).length = N at *
        go_wp2
        refine ⟨⟨k + 1, by omega, by go_num, ?_⟩, by simp [intOf]; omega⟩
        have h := HI1.out
        obtain ⟨va, k1, k2⟩ := h.at_
        exact ⟨h.bel, h.l_, h.m, va, k1, by rw [HQ.out]; exact k2⟩
    · obtain rfl : k = l.length := by omega
      clear e1
      have hB1 := (Below.refl wr.heap.size wr).alloc (Nat.le_refl _) (.cells #[.int .i64 0] 3)
      have hB2 := hB1.alloc (by simp) (.cells #[.bool true] 4)
      have hn1 := below_blk ((Below.refl _ _).alloc (Nat.le_refl _) (.cells #[.bool true] 4)) (heap_alloc_new wr (.cells #[.int .i64 0] 3))
      have hn2 := heap_alloc_new (wr.alloc (.cells #[.int .i64 0] 3)) (.cells #[.bool true] 4)
      rw [show (wr.alloc (.cells #[.int .i64 0] 3)).heap.size = wr.heap.size + 1 by simp] at hn2
      have HIz := Lib.hid (HI.out.below hB2)
      obtain ⟨w1, hw1⟩ : ∃ w1, w1 = (wr.alloc (.cells #[.int .i64 0] 3)).alloc (.cells #[.bool true] 4) := ⟨_, rfl⟩
      have HGS : Hid (GS (fun x => x.to == who) l most (wr.heap.size + 1) wr.heap.size (w.heap.size + 2) w.heap.size (w.heap.size + 1) w w1 ∧ GJ (fun x => x.to == who) l most wr.heap.size w1 0 w1 ∧ wr.heap.size < w1.heap.size) := by
        rw [hw1]
        obtain ⟨va, ha1, ha2⟩ := HI.out.at_
        refine ⟨⟨HIz.out.bel, by omega, hsm, hn2, ⟨va, below_blk hB2 ha1, ownsRow_le (own_below ha2 hB2) (by omega), fun e => by have := (ha2.lt _ e).2; omega⟩, ⟨_, B', HIz.out.l_, own_below HR.out HIz.out.bel, fun e => by have := (HR.out.lt _ e).2; have := HI.out.bel.size; omega⟩, HIz.out.m, by omega, by omega, by omega, by omega⟩, ⟨Touch.refl _ _, hn1, .inl rfl⟩, by simp; omega⟩
      clear hB1 hB2 hn1 hn2 HI HIz
      go_wp2_with fail
      rw [← hw1]
      clear hw1
      refine (f34_any who bp bw p B _ HGS.out.1 HH.out.1 HH.out.2.1 HH.out.2.2.1 HGS.out.2.2 HGS.out.2.1).mono ?_
      rintro e w2 ⟨rfl, hE⟩
      have HF : Hid (Below w.heap.size w w2 ∧ w2.cell? ⟨wr.heap.size + 1, 0, none⟩ = some (.bool true) ∧ (∃ n : Nat, w2.cell? ⟨wr.heap.size, 0, none⟩ = some (.int .i64 (n : Int)) ∧ (n : Int) = min (((ats (fun x => x.to == who) l l.length).length : Nat) : Int) (max most 1)) ∧ (∃ aa capa, w2.cell? ⟨w.heap.size + 2, 0, none⟩ = some (.slice aa (ats (fun x => x.to == who) l l.length).length capa)) ∧ w2.cell? ⟨w.heap.size + 1, 0, none⟩ = some (.int .i64 most)) := by
        have hgs := HGS.out.1
        have key : ∀ (ht : Touch wr.heap.size w1 w2), Below w.heap.size w w2 ∧ w2.cell? ⟨wr.heap.size + 1, 0, none⟩ = some (.bool true) ∧ (∃ aa capa, w2.cell? ⟨w.heap.size + 2, 0, none⟩ = some (.slice aa (ats (fun x => x.to == who) l l.length).length capa)) ∧ w2.cell? ⟨w.heap.size + 1, 0, none⟩ = some (.int .i64 most) := fun ht => by
          obtain ⟨va, ha1, ha2, _⟩ := hgs.at_
          obtain ⟨aa, capa, rfl⟩ := own_form1 ha2
          have k1 := ht.blk hgs.ok hgs.ne12
          have k2 := ht.blk ha1 hgs.ne9
          have k3 := ht.blk hgs.m hgs.ne7
          exact ⟨hgs.bel.trans (ht.below hgs.hb hgs.bel.size), by simp [World.cell?, k1], ⟨aa, capa, by simp [World.cell?, k2]⟩, by simp [World.cell?, k3]⟩
        rcases hE with h | ⟨i, h⟩
        · obtain ⟨k1, k2, k3, k4⟩ := key h.touch
          refine ⟨k1, k2, ⟨_, by have := h.n; simp [World.cell?, this]; rfl, ?_⟩, k3, k4⟩
          have := h.few
          omega
        · obtain ⟨k1, k2, k3, k4⟩ := key h.touch
          refine ⟨k1, k2, ⟨(ats (fun x => x.to == who) l i).length + 1, by have := h.n; simp [World.cell?, this], ?_⟩, k3, k4⟩
          have h1 := h.few
          have h2 := h.stop
          have h3 := h.lt
          omega
      obtain ⟨_, f1, ⟨n, f2, hn⟩, ⟨aa, capa, f3⟩, f4⟩ := HF.out
      clear hE
      generalize (ats (fun x => x.to == who) l l.length).length = N at *
      go_wp2_with fail
      all_goals
        go_ret
        exact ⟨by simp; omega, HF.out.1⟩

end Go.Proofs.Ytjalihmjgjajcaa.S
