import Derived.Test.YtjalihmjgjajcaaP
namespace Go.Proofs.Ytjalihmjgjajcaa.S
open Go.RowKit Go.Joins
open Go.Proofs.Ytjalihmjgjajcaa (Touch below_blk own_below plN plN_lt plN_eq ret_ib block_setCells below_cells take_of_get cell_block own_same Ready Left Busy roundEnd mkRec yield_of range_law calls_marks end_mark put_cell put_blk)
attribute [local go_sem] Oper.semAt_some
set_option linter.unusedVariables false
variable {q : LT → Bool} {l : List LT} {most : Int} {b12 b11 b9 b5 b7 i : Nat} {w0 w1 W W' : World}

theorem touch_put {b L : Nat} {w1 W : World} (h : Touch b w1 W) (hL : w1.heap.size ≤ L) (o : Obj) : Touch b w1 (W.putObj L o) :=
  ⟨h.os, h.tape, h.output, by simpa using h.size, fun k hk hne => (World.putObj_heap_other (by omega)).trans (h.block k hk hne)⟩
theorem GJ.put (h : GJ q l most b11 w1 i W) (hs : GS q l most b12 b11 b9 b5 b7 w0 w1) (hlt : b11 < w1.heap.size) {L : Nat} (hL : w1.heap.size ≤ L) (o : Obj) : GJ q l most b11 w1 i (W.putObj L o) :=
  ⟨touch_put h.touch hL o, (World.putObj_heap_other (by omega)).trans h.n, h.few⟩
theorem GX.put (h : GX q l most b11 w1 i W) (hs : GS q l most b12 b11 b9 b5 b7 w0 w1) (hlt : b11 < w1.heap.size) {L : Nat} (hL : w1.heap.size ≤ L) (o : Obj) : GX q l most b11 w1 i (W.putObj L o) :=
  ⟨touch_put h.touch hL o, (World.putObj_heap_other (by omega)).trans h.n, h.few, h.lt, h.stop⟩

/-- the world of the rounds: blocks but b11 and L lie as they lay -/
def Old (b11 L : Nat) (W0 W : World) : Prop := W0.heap.size ≤ W.heap.size ∧ ∀ k, k < W0.heap.size → k ≠ b11 → k ≠ L → W.heap[k]? = W0.heap[k]?

set_option maxHeartbeats 8000000 in
theorem f34_any (who : Int) (bp bw p B : Nat) (w : World) (hs : GS (fun x => x.to == who) l most b12 b11 b9 b5 b7 w0 w1) (hp : w0.heap[bp]? = some (.cells #[.pointer (some ⟨p, 0, none⟩)] 44 (0, 0))) (hw : w0.heap[bw]? = some (.cells #[.int .i64 who] 3 (0, 0))) (hP : PostAt w0 B p l) (h11 : b11 < w1.heap.size) (hJ : GJ (fun x => x.to == who) l most b11 w1 0 w) :
    Calls Try.prog 34 #[.func (Fn.func 33) #[] #[.pointer (some ⟨b12, 0, none⟩), .pointer (some ⟨b11, 0, none⟩), .pointer (some ⟨b9, 0, none⟩), .pointer (some ⟨b5, 0, none⟩), .pointer (some ⟨b7, 0, none⟩)], .pointer (some ⟨bp, 0, none⟩), .pointer (some ⟨bw, 0, none⟩)] w fun e W =>
      e = .returned (.tuple #[]) ∧ (GJ (fun x => x.to == who) l most b11 w1 l.length W ∨ ∃ i, GX (fun x => x.to == who) l most b11 w1 i W) := by
  refine calls_marks (n := 5) Try.func34 rfl ?_
  simp only [Try.ntmps34, List.size_toArray, List.length_cons, List.length_nil, Nat.reduceAdd, Nat.reduceSub, Array.replicate_succ, Array.replicate_zero, List.push_toArray, List.append_toArray, List.nil_append, List.cons_append]
  have hJ1 := hJ.below ((Below.refl w.heap.size w).alloc (Nat.le_refl _) (.cells #[(.func (Fn.func 33) #[] #[.pointer (some ⟨b12, 0, none⟩), .pointer (some ⟨b11, 0, none⟩), .pointer (some ⟨b9, 0, none⟩), .pointer (some ⟨b5, 0, none⟩), .pointer (some ⟨b7, 0, none⟩)])] 72))
  have hy1 := heap_alloc_new w (.cells #[(.func (Fn.func 33) #[] #[.pointer (some ⟨b12, 0, none⟩), .pointer (some ⟨b11, 0, none⟩), .pointer (some ⟨b9, 0, none⟩), .pointer (some ⟨b5, 0, none⟩), .pointer (some ⟨b7, 0, none⟩)])] 72)
  have hO := hJ1.old hs
  have p1 := below_blk hO hp
  have HP1 := Lib.hid (post_below hP hO)
  have HP0 := Lib.hid hP
  have HO0 := Lib.hid hO
  have c1 : (w.alloc (.cells #[(.func (Fn.func 33) #[] #[.pointer (some ⟨b12, 0, none⟩), .pointer (some ⟨b11, 0, none⟩), .pointer (some ⟨b9, 0, none⟩), .pointer (some ⟨b5, 0, none⟩), .pointer (some ⟨b7, 0, none⟩)])] 72)).cell? ⟨bp, 0, none⟩ = some (.pointer (some ⟨p, 0, none⟩)) := by simp [World.cell?, p1]
  have hsz := hJ.touch.size
  have hlb : bp < w0.heap.size := (Array.getElem?_eq_some_iff.1 hp).1
  have hlw : bw < w0.heap.size := (Array.getElem?_eq_some_iff.1 hw).1
  have HS := Lib.hid (⟨hs, hw⟩ : _ ∧ _)
  have HJ1 := Lib.hid hJ1
  have HY1 := Lib.hid hy1
  have h10 := hs.hb
  have hsm := hs.small
  have h01 := hs.bel.size
  clear hs hp hw hP hJ hJ1 hy1 hO p1
  go_wp2_with fail
  refine (all_any B p l _ HP1.out).mono ?_
  rintro e w2 ⟨v, rfl, hv, ho, hvp, hB2⟩
  have HVN : Hid (v.ownBlock ≠ some b11) := by
    obtain ⟨v', hb', ho'⟩ := HP0.out
    rw [below_blk HO0.out hb'] at hvp
    simp at hvp
    subst hvp
    intro e
    have := (ho'.lt _ e).2
    omega
  rw [show (w.alloc (.cells #[(.func (Fn.func 33) #[] #[.pointer (some ⟨b12, 0, none⟩), .pointer (some ⟨b11, 0, none⟩), .pointer (some ⟨b9, 0, none⟩), .pointer (some ⟨b5, 0, none⟩), .pointer (some ⟨b7, 0, none⟩)])] 72)).heap.size = w.heap.size + 1 by simp] at hv ⊢
  have HJ2 := Lib.hid (HJ1.out.below hB2)
  have HY2 := Lib.hid (below_blk hB2 HY1.out)
  have HV := Lib.hid (⟨hv, ho⟩ : _ ∧ _)
  have hs2 : w.heap.size + 1 < w2.heap.size := (Array.getElem?_eq_some_iff.1 hv).1
  clear hv ho hvp hB2 HJ1 HY1 HP1 c1
  go_wp2_with fail
  refine range_law (n := 3) (gf := 37) (lb := #[.pointer (some ⟨w.heap.size + 1, 0, none⟩)]) rfl (enters_of Try.func37 (by kernel_rfl) rfl) ?_
  intro fn W0 rec hrec hW0
  have hD : W0.heap[w2.heap.size]? = some (.deferred (some [])) := by rw [hW0]; exact (Below.heap_alloc _ _ _ (by simp)).trans (heap_alloc_new w2 _)
  have hL : W0.heap[w2.heap.size + 1]? = some (.loop (rec .ready none)) := by
    have := heap_alloc_new (w2.alloc (.deferred (some []))) (.loop (rec .ready none))
    rw [← hW0] at this
    simpa using this
  have hB0 : Below w2.heap.size w2 W0 := by rw [hW0]; exact ((Below.refl _ w2).alloc (Nat.le_refl _) _).alloc (by simp) _
  have hs0 : W0.heap.size = w2.heap.size + 2 := by rw [hW0]; simp
  have HJ0 : Hid (GJ (fun x => x.to == who) l most b11 w1 0 W0 ∧ Ready W0 (w2.heap.size + 1) w2.heap.size rec ∧ Old b11 (w2.heap.size + 1) W0 W0) := ⟨HJ2.out.below hB0, ⟨hL, hD⟩, Nat.le_refl _, fun _ _ _ _ => rfl⟩
  have HY0 := Lib.hid (below_blk hB0 HY2.out)
  have HV0 := Lib.hid (⟨below_blk hB0 HV.out.1, own_below HV.out.2 hB0, fun k hk => ((HV.out.2.lt k hk).2 : k < w2.heap.size)⟩ : _ ∧ _ ∧ ∀ k, v.ownBlock = some k → k < w2.heap.size)
  have HVB : Hid (v.ownBlock ≠ some b11) := HVN.out
  clear hD hL hB0 hW0 HJ2 HY2 HV
  generalize w2.heap.size = D at *
  generalize hbx : w.heap.size = bx at *
  have HBX := Lib.hid hbx
  clear hbx
  have hOld : Hid (∀ {W V : World}, Old b11 (D + 1) W0 W → Touch b11 W V → Old b11 (D + 1) W0 V) := fun {W V} h ht => ⟨Nat.le_trans h.1 ht.size, fun k hk h1 h2 => (ht.block k (by have := h.1; omega) h1).trans (h.2 k hk h1 h2)⟩
  have hOldP : Hid (∀ {W : World} (o : Obj), Old b11 (D + 1) W0 W → Old b11 (D + 1) W0 (W.putObj (D + 1) o)) := fun {W} o h => ⟨by simpa using h.1, fun k hk h1 h2 => (World.putObj_heap_other h2).trans (h.2 k hk h1 h2)⟩
  refine (f37_yield (D + 1) 3 (fun i W => GJ (fun x => x.to == who) l most b11 w1 i W ∧ Ready W (D + 1) D rec ∧ Old b11 (D + 1) W0 W) (fun i W => GX (fun x => x.to == who) l most b11 w1 i W ∧ Left W (D + 1) D rec) (bx + 1) v B l ?_ hsm ?_ ?_ W0 HJ0.out).mono ?_
  · rintro i W ⟨_, _, h⟩
    exact ⟨(h.2 _ (by omega) (by omega) (by omega)).trans HV0.out.1, own_same HV0.out.2.1 fun k hk => h.2 k (by have := HV0.out.2.2 k hk; omega) (fun e => HVB.out (by rw [← e]; exact hk)) (by have := HV0.out.2.2 k hk; omega)⟩
  · rintro i W W' ⟨h1, h2, h3⟩ hb
    exact ⟨h1.below hb, ⟨below_blk hb h2.1, below_blk hb h2.2⟩, hOld.out h3 (Touch.of_below hb b11)⟩
  · rintro i x W hx ⟨h1, h2, h3⟩
    refine yield_of (n := 3) hrec h2 rfl ?_
    have HB1 := Lib.hid ((Below.refl W.heap.size W).alloc (Nat.le_refl _) (.cells #[.int .i64 x.fr, .int .i64 x.to, .string x.what] 48))
    have HN := Lib.hid (heap_alloc_new W (.cells #[.int .i64 x.fr, .int .i64 x.to, .string x.what] 48))
    have HRd := Lib.hid (⟨below_blk HB1.out h2.1, below_blk HB1.out h2.2⟩ : Ready _ (D + 1) D rec)
    have HG := Lib.hid (h1.below HB1.out)
    have HO := Lib.hid (hOld.out h3 (Touch.of_below HB1.out b11))
    have hWs : W0.heap.size ≤ W.heap.size := h3.1
    have HX := Lib.hid hx
    clear h1 h2 h3 hrec hx
    obtain ⟨xf, xt, xw⟩ := x
    simp only [lv] at *
    gi_wp2
    refine ⟨HRd.out, ?_⟩
    have HG2 := Lib.hid (HG.out.put HS.out.1 h11 (show w1.heap.size ≤ D + 1 by omega) (.loop (rec .busy none)))
    have HO2 := Lib.hid (hOldP.out (.loop (rec .busy none)) HO.out)
    have hN2 := put_blk (o' := .loop (rec .busy none)) HRd.out.1 rfl HN.out rfl
    have hBu : Busy ((W.alloc (.cells #[.int .i64 xf, .int .i64 xt, .string xw] 48)).putObj (D + 1) (.loop (rec .busy none))) (D + 1) D rec :=
      ⟨World.putObj_heap_same (Array.getElem?_eq_some_iff.1 HRd.out.1).1, (World.putObj_heap_other (show D ≠ D + 1 by omega)).trans HRd.out.2⟩
    obtain ⟨V, hV⟩ : ∃ V, (W.alloc (.cells #[.int .i64 xf, .int .i64 xt, .string xw] 48)).putObj (D + 1) (.loop (rec .busy none)) = V := ⟨_, rfl⟩
    rw [hV] at hN2 hBu HG2 HO2 ⊢
    have HBu := Lib.hid hBu
    have c0 : V.cell? ⟨W.heap.size, 0, none⟩ = some (.int .i64 xf) := by simp [World.cell?, hN2]
    have c1 : V.cell? ⟨W.heap.size, 1, none⟩ = some (.int .i64 xt) := by simp [World.cell?, hN2]
    have c2 : V.cell? ⟨W.heap.size, 2, none⟩ = some (.string xw) := by simp [World.cell?, hN2]
    have hw1 := below_blk (HG2.out.old HS.out.1) HS.out.2
    have c3 : V.cell? ⟨bw, 0, none⟩ = some (.int .i64 who) := by simp [World.cell?, hw1]
    have hy1 := (HO2.out.2 bx (by omega) (by omega) (by omega)).trans HY0.out
    have c4 : V.cell? ⟨bx, 0, none⟩ = some (.func (Fn.func 33) #[] #[.pointer (some ⟨b12, 0, none⟩), .pointer (some ⟨b11, 0, none⟩), .pointer (some ⟨b9, 0, none⟩), .pointer (some ⟨b5, 0, none⟩), .pointer (some ⟨b7, 0, none⟩)]) := by simp [World.cell?, hy1]
    clear hN2 hBu hV HG HO HRd HN HB1 hw1 hy1
    by_cases hq : xt = who
    · have HQ : Hid (((fun x : LT => x.to == who) ⟨xf, xt, xw⟩) = true) := by show (xt == who) = true; simp [hq]
      have hq2 : (xt == who) = true := by simp [hq]
      clear hq
      gi_wp2_with fail
      refine ⟨trivial, callsIn_wide.2 ((GJ.call HS.out.1 HX.out HQ.out HG2.out).mono ?_)⟩
      rintro e V' ⟨ht, ⟨rfl, h⟩ | ⟨rfl, h⟩⟩
      · have H2 := Lib.hid h
        have HT := Lib.hid ht
        clear h ht c0 c1 c2 c3 c4
        gi_wp2
        have hb1 := (HT.out.block (D + 1) (by have := HO2.out.1; omega) (by omega)).trans HBu.out.1
        have hb2 := (HT.out.block D (by have := HO2.out.1; omega) (by omega)).trans HBu.out.2
        refine ⟨⟨hb1, hb2⟩, .inl ⟨rfl, H2.out.put HS.out.1 h11 (show w1.heap.size ≤ D + 1 by omega) _, ⟨World.putObj_heap_same (Array.getElem?_eq_some_iff.1 hb1).1, (World.putObj_heap_other (show D ≠ D + 1 by omega)).trans hb2⟩, hOldP.out _ (hOld.out HO2.out HT.out)⟩⟩
      · have H2 := Lib.hid h
        have HT := Lib.hid ht
        clear h ht c0 c1 c2 c3 c4
        gi_wp2
        have hb1 := (HT.out.block (D + 1) (by have := HO2.out.1; omega) (by omega)).trans HBu.out.1
        have hb2 := (HT.out.block D (by have := HO2.out.1; omega) (by omega)).trans HBu.out.2
        refine ⟨⟨hb1, hb2⟩, .inr ⟨rfl, H2.out.put HS.out.1 h11 (show w1.heap.size ≤ D + 1 by omega) _, ⟨World.putObj_heap_same (Array.getElem?_eq_some_iff.1 hb1).1, (World.putObj_heap_other (show D ≠ D + 1 by omega)).trans hb2⟩⟩⟩
    · have HQ : Hid (((fun x : LT => x.to == who) ⟨xf, xt, xw⟩) = false) := by show (xt == who) = false; simp [hq]
      have hq2 : (xt == who) = false := by simp [hq]
      clear hq
      gi_wp2_with fail
      refine ⟨(fun _ h => (by cases h)), ?_⟩
      gi_wp2
      refine ⟨HBu.out, .inl ⟨rfl, (GJ.next HX.out HQ.out HG2.out).put HS.out.1 h11 (show w1.heap.size ≤ D + 1 by omega) _, ⟨World.putObj_heap_same (Array.getElem?_eq_some_iff.1 HBu.out.1).1, (World.putObj_heap_other (show D ≠ D + 1 by omega)).trans HBu.out.2⟩, hOldP.out _ HO2.out⟩⟩
  · rintro e W ⟨rfl, ⟨h1, h2, h3⟩ | ⟨i, hi, h1, h2⟩⟩
    · clear hrec
      refine ⟨⟨_, rfl⟩, .inl ⟨h2, ?_⟩⟩
      have HJ := Lib.hid (⟨h1, h2⟩ : _ ∧ _)
      clear h1 h2 h3
      go_wp2
      refine end_mark (.inl rfl) rfl ((World.putObj_heap_other (show D ≠ D + 1 by omega)).trans HJ.out.2.2) ⟨_, results_none rfl _ _ _, ?_⟩
      exact ⟨rfl, .inl ((HJ.out.1.put HS.out.1 h11 (by omega) _).put HS.out.1 h11 (by omega) _)⟩
    · clear hrec
      refine ⟨⟨_, rfl⟩, .inr ⟨h2, ?_⟩⟩
      have HJ := Lib.hid (⟨h1, h2⟩ : _ ∧ _)
      clear h1 h2
      refine end_mark (.inr rfl) rfl ((World.putObj_heap_other (show D ≠ D + 1 by omega)).trans HJ.out.2.2) ⟨_, results_none rfl _ _ _, ?_⟩
      exact ⟨rfl, .inr ⟨i, (HJ.out.1.put HS.out.1 h11 (by omega) _).put HS.out.1 h11 (by omega) _⟩⟩
end Go.Proofs.Ytjalihmjgjajcaa.S
