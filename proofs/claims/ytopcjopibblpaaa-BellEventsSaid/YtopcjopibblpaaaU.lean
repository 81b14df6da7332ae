import Derived.Test.YtopcjopibblpaaaS
namespace Go.Proofs.Ytopcjopibblpaaa
open Go.RowKit Go.Joins
set_option linter.unusedVariables false

theorem at5 (w : World) (o1 o2 o3 o4 o5 : Obj) : (((((w.alloc o1).alloc o2).alloc o3).alloc o4).alloc o5).heap[w.heap.size]? = some o1 ∧ (((((w.alloc o1).alloc o2).alloc o3).alloc o4).alloc o5).heap[w.heap.size + 1]? = some o2 ∧
    (((((w.alloc o1).alloc o2).alloc o3).alloc o4).alloc o5).heap[w.heap.size + 2]? = some o3 ∧ (((((w.alloc o1).alloc o2).alloc o3).alloc o4).alloc o5).heap[w.heap.size + 3]? = some o4 ∧ (((((w.alloc o1).alloc o2).alloc o3).alloc o4).alloc o5).heap[w.heap.size + 4]? = some o5 ∧
    (((((w.alloc o1).alloc o2).alloc o3).alloc o4).alloc o5).heap.size = w.heap.size + 5 ∧ Below w.heap.size w (((((w.alloc o1).alloc o2).alloc o3).alloc o4).alloc o5) := by
  have al : ∀ {v : World} {b : Nat} {o : Obj} (o' : Obj), v.heap[b]? = some o → (v.alloc o').heap[b]? = some o := fun o' hb => (Below.heap_alloc _ _ _ (Array.getElem?_eq_some_iff.1 hb).1).trans hb
  have h1 := heap_alloc_new w o1
  have h2 := heap_alloc_new (w.alloc o1) o2
  have h3 := heap_alloc_new ((w.alloc o1).alloc o2) o3
  have h4 := heap_alloc_new (((w.alloc o1).alloc o2).alloc o3) o4
  have h5 := heap_alloc_new ((((w.alloc o1).alloc o2).alloc o3).alloc o4) o5
  rw [show (w.alloc o1).heap.size = w.heap.size + 1 by simp] at h2
  rw [show ((w.alloc o1).alloc o2).heap.size = w.heap.size + 2 by simp] at h3
  rw [show (((w.alloc o1).alloc o2).alloc o3).heap.size = w.heap.size + 3 by simp] at h4
  rw [show ((((w.alloc o1).alloc o2).alloc o3).alloc o4).heap.size = w.heap.size + 4 by simp] at h5
  refine ⟨al _ (al _ (al _ (al _ h1))), al _ (al _ (al _ h2)), al _ (al _ h3), al _ h4, h5, by simp, ((((((Below.refl _ w).alloc (Nat.le_refl _) _).alloc (by simp) _).alloc (by simp; omega) _).alloc (by simp; omega) _).alloc (by simp; omega) _)⟩

/-- all but two blocks lie as they lay -/
structure Two (x y B : Nat) (w w' : World) : Prop where
  os : w'.os = w.os
  tape : w'.tape = w.tape
  output : w'.output = w.output
  size : w.heap.size ≤ w'.heap.size
  block : ∀ k, k < B → k ≠ x → k ≠ y → w'.heap[k]? = w.heap[k]?
namespace Two
variable {x y B : Nat} {w w1 w2 : World}
theorem of_below (h : Below B w w1) : Two x y B w w1 := ⟨h.os, h.tape, h.output, h.size, fun k hk _ _ => h.block k hk⟩
theorem trans (h : Two x y B w w1) (k : Two x y B w1 w2) : Two x y B w w2 :=
  ⟨k.os.trans h.os, k.tape.trans h.tape, k.output.trans h.output, Nat.le_trans h.size k.size, fun i hi h1 h2 => (k.block i hi h1 h2).trans (h.block i hi h1 h2)⟩
theorem below (h : Two x y B w w1) {n : Nat} (hB : n ≤ B) (hx : n ≤ x) (hy : n ≤ y) : Below n w w1 := ⟨h.os, h.tape, h.output, h.size, fun k hk => h.block k (by omega) (by omega) (by omega)⟩
end Two

def SU (L R F : Int) (A : Bool) (w : World) (p : Nat) (w5 W : World) : Prop :=
  W.cell? ⟨w.heap.size, 0, none⟩ = some (.int .i64 L) ∧ W.cell? ⟨w.heap.size, 1, none⟩ = some (.bool A) ∧ W.cell? ⟨w.heap.size, 2, none⟩ = some (.int .i64 R) ∧ W.cell? ⟨w.heap.size, 3, none⟩ = some (.int .i64 F) ∧ Two (p + 1) (p + 4) w5.heap.size w5 W
theorem SU.next {L R F : Int} {A : Bool} {w : World} {p : Nat} {w5 W W' : World} (h : SU L R F A w p w5 W) (hp : w.heap.size < p) (hs : p + 5 ≤ w5.heap.size) (ht : Two (p + 1) (p + 4) w5.heap.size W W') : SU L R F A w p w5 W' := by
  obtain ⟨h0, h1, h2, h3, h4⟩ := h
  have c : ∀ j v, W.cell? ⟨w.heap.size, j, none⟩ = some v → W'.cell? ⟨w.heap.size, j, none⟩ = some v := fun j v hv =>
    (World.cell?_of_block (w := W) (a := ⟨w.heap.size, j, none⟩) (ht.block w.heap.size (by omega) (by omega) (by omega))).trans hv
  exact ⟨c 0 _ h0, c 1 _ h1, c 2 _ h2, c 3 _ h3, h4.trans ht⟩

theorem SumsAt.same {w W : World} {a : Option Addr} {n : Nat} {z : Nat → Int} (h : SumsAt w a n z) (hb : ∀ k, k < w.heap.size → W.heap[k]? = w.heap[k]?) : SumsAt W a n z := by
  intro i hi
  obtain ⟨ad, e, q⟩ := h i hi
  exact ⟨ad, e, (World.cell?_of_block (hb _ (cell_lt q))).trans q⟩

theorem events_at (L R F : Int) (A : Bool) (z : Nat → Int) (n c : Nat) (sa : Option Addr) (m : Int) (M : Nat) (ba bq bs bp bn bl bok bt bm g0 cap0 : Nat) (T : List Nat) (hT : (rs ⟨L, A, R, F⟩ z n).out = T) (w : World)
    (hr : rightB ⟨L, A, R, F⟩ = true) (hn : n ≤ 80) (hM : M = if m < 1 then 1 else m.toNat) (hm0 : 0 ≤ m) (hm8 : m ≤ 8)
    (ha : AlAt 23 w ba ⟨L, A, R, F⟩) (hq : w.heap[bq]? = some (.cells #[.func (Fn.func 23) #[] #[.pointer (some ⟨bs, 0, none⟩), .pointer (some ⟨bp, 0, none⟩)]] 49 (0, 0)))
    (hbn : w.heap[bn]? = some (.cells #[.int .i64 0] 3 (0, 0))) (hbl : w.heap[bl]? = some (.cells #[.slice none 0 0] 44 (0, 0))) (hne : bl ≠ bn) (hok1 : bok ≠ bl) (hbm1 : bm ≠ bl)
    (hst : ∀ W : World, (∀ k, k < w.heap.size → k ≠ bl → k ≠ bn → W.heap[k]? = w.heap[k]?) → StatE T z n c sa m bs bp bn bok bt bm g0 cap0 W) :
    Calls Try.prog 22 #[.func (Fn.func 17) #[] #[.pointer (some ⟨bl, 0, none⟩), .pointer (some ⟨bok, 0, none⟩), .pointer (some ⟨bt, 0, none⟩), .pointer (some ⟨bm, 0, none⟩)], .pointer (some ⟨ba, 0, none⟩), .pointer (some ⟨bq, 0, none⟩)] w (EvPost T n M bl bn w) := by
  subst hT
  exact events_any L R F A z n c sa m M ba bq bs bp bn bl bok bt bm g0 cap0 w hr hn hM hm0 hm8 ha hq hbn hbl hne hok1 hbm1 hst

theorem EvPost.two {T : List Nat} {n M bl bn B : Nat} {w w' : World} {e : Ending} (h : EvPost T n M bl bn w e w') (hB : B ≤ w.heap.size) : Two bl bn B w w' := by
  obtain ⟨_, k, i, v, _, _, _, _, _, h1, h2, h3, h4, h5⟩ := h
  exact ⟨h1, h2, h3, h4, fun k hk => h5 k (by omega)⟩
theorem stat_of {T : List Nat} {z : Nat → Int} {n c : Nat} {a : Option Addr} {mm : Int} {bs bp p g0 capt Bt : Nat} {aot : Option Addr} {w w7 : World} (hz : SumsAt w a n z) (hwp : w.heap.size ≤ p) (hw7 : Below w.heap.size w w7)
    (hs : w7.heap[bs]? = some (.cells #[.slice a n c] 24 (0, 0))) (hp : w7.heap[bp]? = some (.cells #[.pointer (some ⟨p + 4, 0, none⟩)] 51 (0, 0))) (hbs : p + 5 ≤ bs) (hbp : p + 5 ≤ bp)
    (hok : w7.heap[p + 3]? = some (.cells #[.bool true] 4 (0, 0))) (hm : w7.heap[p + 2]? = some (.cells #[.int .i64 mm] 3 (0, 0))) (ht : w7.heap[p]? = some (.cells #[.slice aot T.length capt] 24 (0, 0)))
    (hg : T = [] ∨ (aot = some ⟨g0, 0, none⟩ ∧ g0 < p)) (ho : w7.ownsRow Bt 3 1 (.slice aot T.length capt) T.length (ints T)) :
    ∀ W : World, (∀ k, k < w7.heap.size → k ≠ p + 1 → k ≠ p + 4 → W.heap[k]? = w7.heap[k]?) → StatE T z n c a mm bs bp (p + 4) (p + 3) p (p + 2) g0 capt W := by
  intro W hW
  have blk : ∀ {b : Nat} {o : Obj}, w7.heap[b]? = some o → b ≠ p + 1 → b ≠ p + 4 → W.heap[b]? = some o := fun hb h1 h2 => (hW _ (Array.getElem?_eq_some_iff.1 hb).1 h1 h2).trans hb
  have hp7 : p < w7.heap.size := (Array.getElem?_eq_some_iff.1 ht).1
  have s1 := blk hs (by omega) (by omega)
  have s2 := blk hp (by omega) (by omega)
  have s3 := blk ht (by omega) (by omega)
  refine ⟨by simp [World.cell?, s1], by simp [World.cell?, s2], hz.same fun k hk => (hW k (by omega) (by omega) (by omega)).trans (hw7.block k hk), blk hok (by omega) (by omega), fun k x hx => ?_, blk hm (by omega) (by omega)⟩
  have hk := (List.getElem?_eq_some_iff.1 hx).1
  rcases hg with rfl | ⟨rfl, hgp⟩
  · simp at hk
  · refine ⟨by simp [World.cell?, s3], ?_⟩
    have h1 : w7.cell? ⟨g0, k, none⟩ = some (.int .i64 (x : Int)) := by
      rw [ho.cellAt k (by omega)]
      simp [ints, hx]
    exact (World.cell?_of_block (w := w7) (a := ⟨g0, k, none⟩) (hW g0 (by omega) (by omega) (by omega))).trans h1

set_option maxRecDepth 100000 in
set_option maxHeartbeats 16000000 in
theorem bellEvents_any (L R F : Int) (A : Bool) (a : Option Addr) (n c : Nat) (z : Nat → Int) (mu : Int) (w : World) (hc : n ≤ c) (hcm : c ≤ maxLen) (hm0 : 0 ≤ mu) (hm1 : mu ≤ 255) (hS : SumsAt w a n z) :
    Calls Try.prog 6 #[.agg #[.int .i64 L, .bool A, .int .i64 R, .int .i64 F], .slice a n c, .int .u8 mu] w fun e w' => e = .returned (.bool true) ∧ Below w.heap.size w w' := by
  unfold maxLen at hcm
  have HS := Lib.hid hS
  clear hS
  have hA := AlAt.new 23 w L R F A
  have hB0 := (Below.refl w.heap.size w).alloc (Nat.le_refl _) (.cells #[.int .i64 L, .bool A, .int .i64 R, .int .i64 F] 23)
  have H0 : Hid (AlAt 23 _ w.heap.size ⟨L, A, R, F⟩ ∧ Below w.heap.size w _) := ⟨hA, hB0⟩
  clear hA hB0
  go_enter Try.func6, Try.ntmps6
  go_wp2_with fail
  refine (awake_any _).mono ?_
  rintro e w1 ⟨rfl, hB1⟩
  have hA1 : AlAt 23 w1 w.heap.size ⟨L, A, R, F⟩ := below_blk hB1 H0.out.1
  have HB1 := Lib.hid (H0.out.2.trans (hB1.mono (by simp)))
  have HA1 := Lib.hid hA1
  obtain ⟨⟨d0, d1, d2, d3⟩, df⟩ := hA1.cell
  simp only at d0 d1 d2 d3
  clear hB1 hA1 H0
  by_cases hn : n ≤ 80
  · go_wp2_with fail
    refine (rightR_any L R F A _).mono ?_
    rintro e w2 ⟨rfl, hB2⟩
    have HB2 := Lib.hid (HB1.out.trans (hB2.mono HB1.out.size))
    have HA2 : Hid (AlAt 23 w2 w.heap.size ⟨L, A, R, F⟩) := below_blk hB2 HA1.out
    clear d0 d1 d2 d3 df hB2 HB1 HA1
    cases hr : rightB ⟨L, A, R, F⟩
    · clear hr
      go_wp2_with fail
      refine (awake_any _).mono ?_
      rintro e w3 ⟨rfl, hB3⟩
      have HB3 := Lib.hid (HB2.out.trans (hB3.mono HB2.out.size))
      clear hB3
      go_wp2
      go_ret
      exact ⟨rfl, HB3.out⟩
    · have HR := Lib.hid hr
      clear hr
      obtain ⟨⟨d0, d1, d2, d3⟩, df⟩ := HA2.out.cell
      simp only at d0 d1 d2 d3
      go_wp2_with fail
      refine (turnsR_any L R F A a n c z _ hn (HS.out.below HB2.out)).mono ?_
      rintro e w3 ⟨vt, rfl, ho3, hB3⟩
      have HB3 := Lib.hid (HB2.out.trans (hB3.mono HB2.out.size))
      have HA3 : Hid (AlAt 23 w3 w.heap.size ⟨L, A, R, F⟩) := below_blk hB3 HA2.out
      have hfacts := rs_facts ⟨L, A, R, F⟩ z n
      have HFX := Lib.hid hfacts
      obtain ⟨aot, capt, rfl⟩ : ∃ ao cap, vt = .slice ao (rs ⟨L, A, R, F⟩ z n).out.length cap := by
        rcases ho3.2 with ⟨rfl, e0⟩ | ⟨g, cap, cur, rfl, _⟩
        · exact ⟨none, 0, by rw [e0]⟩
        · exact ⟨_, cap, rfl⟩
      have HO3 := Lib.hid ho3
      have htl : (rs ⟨L, A, R, F⟩ z n).out.length ≤ 80 := by have := hfacts.2.2.1; omega
      have HTN : Hid (∀ j, (rs ⟨L, A, R, F⟩ z n).out.getD j 0 ≤ 80) := fun j => by
        rw [List.getD_eq_getElem?_getD]
        cases hj : (rs ⟨L, A, R, F⟩ z n).out[j]? with
        | none => simp
        | some x =>
          have := hfacts.2.2.2.1 x (List.mem_of_getElem? hj)
          simp; omega
      clear d0 d1 d2 d3 df hB3 hfacts ho3
      generalize hT : (rs ⟨L, A, R, F⟩ z n).out = T at *
      have HT := Lib.hid hT
      clear hT
      generalize ((rs ⟨L, A, R, F⟩ z n).ag : Int) = ag
      go_wp2_with fail
      obtain ⟨mm, hmm⟩ : ∃ mm, mu % 9 = mm := ⟨_, rfl⟩
      rw [hmm]
      have hmm0 : 0 ≤ mm := by omega
      have hmm8 : mm ≤ 8 := by omega
      obtain ⟨M, hM⟩ : ∃ M : Nat, M = if mm < 1 then 1 else mm.toNat := ⟨_, rfl⟩
      have HM := Lib.hid hM
      clear hmm hM
      have H5 := Lib.hid (at5 w3 (.cells #[.slice aot T.length capt] 24) (.cells #[.slice none 0 0] 44) (.cells #[.int .i64 mm] 3) (.cells #[.bool true] 4) (.cells #[.int .i64 0] 3))
      obtain ⟨w5, hw5⟩ : ∃ w5, (((((w3.alloc (.cells #[.slice aot T.length capt] 24)).alloc (.cells #[.slice none 0 0] 44)).alloc (.cells #[.int .i64 mm] 3)).alloc (.cells #[.bool true] 4)).alloc (.cells #[.int .i64 0] 3)) = w5 := ⟨_, rfl⟩
      rw [hw5] at H5
      rw [hw5]
      clear hw5
      have hp3 : w.heap.size < w3.heap.size := by have := HA3.out.lt; omega
      have HG : Hid (∃ g0, T = [] ∨ (aot = some ⟨g0, 0, none⟩ ∧ g0 < w3.heap.size)) := by
        rcases HO3.out.2 with ⟨_, e0⟩ | ⟨g, cap, cur, e0, _, hh, _⟩
        · exact ⟨0, .inl (List.eq_nil_of_length_eq_zero e0)⟩
        · simp only [Value.slice.injEq] at e0
          exact ⟨g, .inr ⟨e0.1, (Array.getElem?_eq_some_iff.1 hh).1⟩⟩
      have hA5 : AlAt 23 w5 w.heap.size ⟨L, A, R, F⟩ := below_blk H5.out.2.2.2.2.2.2 HA3.out
      obtain ⟨g0, HG0⟩ := HG.out
      have HG0 := Lib.hid HG0
      have HO5 := Lib.hid (own_below HO3.out H5.out.2.2.2.2.2.2)
      have HS5 := Lib.hid (HS.out.below (HB3.out.trans (H5.out.2.2.2.2.2.2.mono HB3.out.size)))
      have HB5 := Lib.hid (HB3.out.trans (H5.out.2.2.2.2.2.2.mono HB3.out.size))
      have hs5 : w3.heap.size + 5 ≤ w5.heap.size := by have := H5.out.2.2.2.2.2.1; omega
      obtain ⟨⟨d0, d1, d2, d3⟩, df⟩ := hA5.cell
      simp only at d0 d1 d2 d3
      have HA5 := Lib.hid hA5
      have e1 : w3.heap.size + 1 + 1 = w3.heap.size + 2 := by omega
      have e2 : w3.heap.size + 1 + 1 + 1 = w3.heap.size + 3 := by omega
      have e3 : w3.heap.size + 1 + 1 + 1 + 1 = w3.heap.size + 4 := by omega
      rw [e3, e2, e1]
      clear e1 e2 e3 HB2 HA2 HG hA5
      generalize w3.heap.size = p at *
      have HK5 : Hid (SU L R F A w p w5 w5.drew) := ⟨d0, d1, d2, d3, ⟨rfl, rfl, rfl, Nat.le_refl _, fun _ _ _ _ => rfl⟩⟩
      go_region_held3 (fun W' => W'.cell? ⟨w.heap.size, 0, none⟩ = some (.int .i64 L) ∧ W'.cell? ⟨w.heap.size, 1, none⟩ = some (.bool A) ∧ W'.cell? ⟨w.heap.size, 2, none⟩ = some (.int .i64 R) ∧ W'.cell? ⟨w.heap.size, 3, none⟩ = some (.int .i64 F) ∧ Two (p + 1) (p + 4) w5.heap.size w5 W')
        (first | exact HK5.out | exact SU.next HK5.out hp3 hs5 (Two.of_below hB6) | exact SU.next (SU.next HK5.out hp3 hs5 (Two.of_below hB6)) hp3 hs5 (Two.of_below (hB7.mono hB6.size)) | exact SU.next (SU.next (SU.next HK5.out hp3 hs5 (Two.of_below hB6)) hp3 hs5 (Two.of_below (hB7.mono hB6.size))) hp3 hs5 (HE8.out.two (Nat.le_trans hB6.size hB7.size)))
        (first
          | (go_at_call 16; refine (mkPoints a n c ⟨p + 4, 0, none⟩ w5.drew).mono ?_; rintro e w6 ⟨rfl, hs6, hp6, hB6⟩)
          | (go_at_call 15; refine (mkEvents L R F A _ _ w6).mono ?_; rintro e w7 ⟨rfl, ha7, hq7, hB7⟩)
          | (go_at_call 22
             refine (events_at L R F A z n c a mm M _ _ _ _ (p + 4) (p + 1) (p + 3) p (p + 2) g0 capt T HT.out w7 HR.out hn HM.out hmm0 hmm8 ha7 hq7 (below_blk hB7 (below_blk (w := w5.drew) hB6 H5.out.2.2.2.2.1)) (below_blk hB7 (below_blk (w := w5.drew) hB6 H5.out.2.1)) (by omega) (by omega) (by omega)
               (stat_of HS.out (by omega) ((HB5.out.drew.trans (hB6.mono HB5.out.size)).trans (hB7.mono (Nat.le_trans HB5.out.size hB6.size))) (below_blk hB7 hs6) (below_blk hB7 hp6) hs5 (Nat.le_trans hs5 (Nat.le_succ _)) (below_blk hB7 (below_blk (w := w5.drew) hB6 H5.out.2.2.2.1)) (below_blk hB7 (below_blk (w := w5.drew) hB6 H5.out.2.2.1)) (below_blk hB7 (below_blk (w := w5.drew) hB6 H5.out.1)) HG0.out (own_below (own_below (w := w5.drew) HO5.out hB6) hB7))).mono ?_
             rintro e w8 hE8
             have HE8 := Lib.hid hE8
             obtain ⟨rfl, hrest⟩ := hE8
             clear hrest))
      all_goals
        rename_i hh
        have HTW := Lib.hid hh.2.2.2.2
        clear hh
        obtain ⟨_, k, i, v, hk, hi, hbl, hov, hbn, hrest⟩ := HE8.out
        clear hrest
        have HB8 := Lib.hid (HB5.out.trans (HTW.out.below (n := w.heap.size) (by omega) (by omega) (by omega)))
        have q0 := (HTW.out.block p (by omega) (by omega) (by omega)).trans H5.out.1
        have q2 := (HTW.out.block (p + 2) (by omega) (by omega) (by omega)).trans H5.out.2.2.1
        have q3 := (HTW.out.block (p + 3) (by omega) (by omega) (by omega)).trans H5.out.2.2.2.1
        have HA8 : Hid (AlAt 23 w8 w.heap.size ⟨L, A, R, F⟩) := (HTW.out.block w.heap.size (by omega) (by omega) (by omega)).trans HA5.out
        have HO8 : Hid (w8.ownsRow (w2.heap.size + 1) 3 1 (.slice aot T.length capt) T.length (ints T) ∨ T = []) := by
          rcases HG0.out with e | ⟨e, hg⟩
          · exact .inr e
          · refine .inl (own_same HO5.out fun j hj => ?_)
            rw [e] at hj
            simp [Value.ownBlock] at hj
            subst hj
            exact HTW.out.block _ (by omega) (by omega) (by omega)
        have hk8 : k ≤ 8 := by
          have := HM.out
          rw [hk, this]
          split <;> omega
        have HKK := Lib.hid (⟨hk, hi⟩ : _ ∧ _)
        have HRow := Lib.hid (⟨hbl, hov, hbn, q0, q2, q3⟩ : _ ∧ _ ∧ _ ∧ _ ∧ _ ∧ _)
        obtain ⟨aov, capv, rfl⟩ : ∃ ao cap, v = .slice ao k cap := by
          rcases hov.2 with ⟨rfl, e0⟩ | ⟨g, cap, cur, rfl, _⟩
          · exact ⟨none, 0, by rw [e0]⟩
          · exact ⟨_, cap, rfl⟩
        have c0 : w8.cell? ⟨p, 0, none⟩ = some (.slice aot T.length capt) := by simp [World.cell?, q0]
        have c1 : w8.cell? ⟨p + 1, 0, none⟩ = some (.slice aov k capv) := by simp [World.cell?, hbl]
        have c2 : w8.cell? ⟨p + 2, 0, none⟩ = some (.int .i64 mm) := by simp [World.cell?, q2]
        have c3 : w8.cell? ⟨p + 3, 0, none⟩ = some (.bool true) := by simp [World.cell?, q3]
        have c4 : w8.cell? ⟨p + 4, 0, none⟩ = some (.int .i64 (i : Int)) := by simp [World.cell?, hbn]
        obtain ⟨⟨d0, d1, d2, d3⟩, df⟩ := HA8.out.cell
        simp only at d0 d1 d2 d3
        clear hk hi hbl hov hbn q0 q2 q3 HE8 HTW H5 HA5 HO5 HS5 HB5 hB6 hB7 ha7 hq7 hs6 hp6 HK5
        obtain ⟨r, hr⟩ : ∃ r, M = r + 1 := ⟨M - 1, by have := HM.out; split at this <;> omega⟩
        have hmax : (if mm < 1 then (1 : Int) else mm) = (r : Int) + 1 := by
          have := HM.out
          split <;> rename_i h <;> simp only [h, if_true, if_false] at this <;> omega
        have hr8 : r ≤ 7 := by
          have := HM.out
          split at this <;> omega
        have HMX := Lib.hid hmax
        by_cases hTM : r + 1 ≤ T.length
        · have HKI : Hid (k = r + 1 ∧ i = T.getD r 0 + 1) := by
            obtain ⟨h1, h2⟩ := HKK.out
            rw [hr] at h1 h2
            rw [if_pos hTM] at h2
            exact ⟨by rw [h1]; omega, h2⟩
          obtain ⟨rfl, rfl⟩ := HKI.out
          have htr := HTN.out r
          have ct : ∃ g1, aot = some ⟨g1, 0, none⟩ ∧ w8.cell? ⟨g1, r, none⟩ = some (.int .i64 ((T.getD r 0 : Nat) : Int)) := by
            rcases HO8.out with ho | e
            · obtain ⟨g1, cap1, e1, _⟩ := ho.form (by omega)
              simp only [Value.slice.injEq, true_and] at e1
              obtain ⟨rfl, rfl⟩ := e1
              refine ⟨g1, rfl, ?_⟩
              rw [ho.cellAt r (by omega)]
              simp [ints, List.getD_eq_getElem?_getD, show r < T.length by omega]
            · rw [e] at hTM; simp at hTM
          obtain ⟨g1, rfl, ct⟩ := ct
          generalize T.getD r 0 = tr at *
          have u1 : (r : Int) + 1 ≤ (T.length : Int) := by omega
          have u2 : ¬ (T.length : Int) < (r : Int) + 1 := by omega
          have hmin : (if (r : Int) + 1 < (T.length : Int) then (r : Int) + 1 else (T.length : Int)) = (r : Int) + 1 := by split <;> omega
          have HTM := Lib.hid hTM
          clear hr hTM HKI
          go_wp2_with fail
          refine (spans_any L R F A T (r + 1) w7.heap.size _ w8 (by omega) (fun j => Nat.le_trans (HTN.out j) (by omega)) HRow.out.2.1).mono ?_
          rintro e w9 ⟨vs, rfl, hos, hB9⟩
          have HB9 := Lib.hid (HB8.out.trans (hB9.mono HB8.out.size))
          have HL9 := Lib.hid (own_below HRow.out.2.1 hB9)
          have c9 := below_cell hB9 c1
          obtain ⟨aos, caps, rfl⟩ : ∃ ao cap, vs = .slice ao (((r + 1) + 1) / 2) cap := by
            rcases hos.2 with ⟨rfl, e0⟩ | ⟨g, cap, cur, rfl, _⟩
            · exact ⟨none, 0, by rw [e0]⟩
            · exact ⟨_, cap, rfl⟩
          have HOS := Lib.hid hos
          obtain ⟨s, hs⟩ : ∃ s, ((r + 1) + 1) / 2 = s := ⟨_, rfl⟩
          rw [hs] at HOS ⊢
          have hs1 : 2 * s ≤ (r + 1) + 1 := by omega
          have hs2 : (r + 1) ≤ 2 * s := by omega
          have x1 : ((((r + 1) : Nat) : Int) + 1) / 2 = (s : Int) := by omega
          have x2 : Int.tdiv ((((r + 1) : Nat) : Int) + 1) 2 = (s : Int) := by rw [Int.tdiv_eq_ediv_of_nonneg (by omega)]; exact x1
          rw [show (((r + 1 : Nat) : Int)) = (r : Int) + 1 by omega] at x1 x2
          have HS1 := Lib.hid (⟨hs1, hs2⟩ : _ ∧ _)
          clear hs hos hB9 d0 d1 d2 d3 df c0 c1 c2 c3 c4 HRow HO8 HA8 HB8
          go_wp2_with fail
          clear x1 x2
          go_loopw [89] (fun jv wr => ∃ j : Nat, j ≤ s ∧ jv = .int .i64 j ∧ Below w9.heap.size w9 wr) (fun jv _ => s - (intOf jv).toNat)
          case atStart => exact ⟨0, by omega, rfl, Below.refl _ _⟩
          case round =>
            obtain ⟨j, hj, rfl, hBj⟩ := hrel
            by_cases hlt : j < s
            · have c9 := below_cell hBj c9
              have hos2 := own_below HOS.out hBj
              have hol2 := own_below HL9.out hBj
              obtain ⟨gs, caps', es, _⟩ := hos2.form (by omega)
              simp only [Value.slice.injEq, true_and] at es
              obtain ⟨rfl, rfl⟩ := es
              obtain ⟨gv, capv', ev, _⟩ := hol2.form (by omega)
              simp only [Value.slice.injEq, true_and] at ev
              obtain ⟨rfl, rfl⟩ := ev
              have hsl := spn_length T (r + 1) s
              have hel := evs_length T (r + 1)
              have hsg := spn_get T (r + 1) s j hlt
              have s0 : wr.cell? ⟨gs, j * 2, none⟩ = _ := (hos2.cellAt (j * 2) (by omega)).trans hsg.1
              have s1 : wr.cell? ⟨gs, j * 2 + 1, none⟩ = _ := (hos2.cellAt (j * 2 + 1) (by omega)).trans hsg.2
              have hjk : 2 * j < (r + 1) := by omega
              have v0 : wr.cell? ⟨gv, 2 * j * 2, none⟩ = _ := (hol2.cellAt (2 * j * 2) (by omega)).trans (evs_get T (r + 1) (2 * j) hjk).1
              have tj := HTN.out (2 * j)
              have tj2 := HTN.out (2 * j + 1)
              have HV2 : Hid (∀ _ : 2 * j + 1 < (r + 1), wr.cell? ⟨gv, (2 * j + 1) * 2, none⟩ = some (.int .i64 (10 * ((T.getD (2 * j + 1) 0 : Nat) : Int)))) := fun h => (hol2.cellAt ((2 * j + 1) * 2) (by omega)).trans (evs_get T (r + 1) (2 * j + 1) h).1
              have hU : untilS T (r + 1) j = if 2 * j + 1 < (r + 1) then 10 * ((T.getD (2 * j + 1) 0 : Nat) : Int) else 1000 := rfl
              rw [hU] at s1
              have HBJ := Lib.hid hBj
              have hne := neqArr2
              have k1 : IntKind.i64.wrap (2 * (j : Int)) = 2 * (j : Int) := by rw [IntKind.wrap_i64]; omega
              have k2 : (0 : Int) ≤ 2 * (j : Int) := by omega
              have k3 : (2 * (j : Int)).toNat = 2 * j := by omega
              have k4 : 2 * (j : Int) < (((r + 1) : Nat) : Int) := by omega
              rw [show (((r + 1 : Nat) : Int)) = (r : Int) + 1 by omega] at k4
              clear hos2 hol2 hsl hel hsg hU hBj
              by_cases hj2 : 2 * j + 1 < (r + 1)
              · have v1 := HV2.out hj2
                rw [if_pos hj2] at s1
                generalize 10 * ((T.getD (2 * j) 0 : Nat) : Int) = X at *
                generalize 10 * ((T.getD (2 * j + 1) 0 : Nat) : Int) = Y at *
                have k5 : (2 * (j : Int) + 1).toNat = 2 * j + 1 := by omega
                have k6 : 2 * (j : Int) + 1 < (((r + 1) : Nat) : Int) := by omega
                rw [show (((r + 1 : Nat) : Int)) = (r : Int) + 1 by omega] at k6
                have a9 := below_cell ((Below.refl wr.heap.size wr).alloc (Nat.le_refl _) (.cells #[.int .i64 X, .int .i64 Y] 38)) c9
                have a0 := below_cell ((Below.refl wr.heap.size wr).alloc (Nat.le_refl _) (.cells #[.int .i64 X, .int .i64 Y] 38)) v0
                have a1 := below_cell ((Below.refl wr.heap.size wr).alloc (Nat.le_refl _) (.cells #[.int .i64 X, .int .i64 Y] 38)) v1
                go_wp2_with fail
                go_quiet (fail)
                clear a9 a0 a1 k1 k2 k3 k4 k5 k6 hne c9 s0 s1 v0 v1
                go_wp2
                exact ⟨⟨j + 1, by omega, by go_num, below_drewN' (HBJ.out.alloc HBJ.out.size _) nq⟩, by simp [intOf]; omega⟩
              · rw [if_neg hj2] at s1
                generalize 10 * ((T.getD (2 * j) 0 : Nat) : Int) = X at *
                have k6 : (((r + 1) : Nat) : Int) ≤ 2 * (j : Int) + 1 := by omega
                rw [show (((r + 1 : Nat) : Int)) = (r : Int) + 1 by omega] at k6
                have a9 := below_cell ((Below.refl wr.heap.size wr).alloc (Nat.le_refl _) (.cells #[.int .i64 X, .int .i64 1000] 38)) c9
                have a0 := below_cell ((Below.refl wr.heap.size wr).alloc (Nat.le_refl _) (.cells #[.int .i64 X, .int .i64 1000] 38)) v0
                go_wp2_with fail
                go_quiet (fail)
                clear a9 a0 k1 k2 k3 k4 k6 hne c9 s0 s1 v0
                go_wp2
                exact ⟨⟨j + 1, by omega, by go_num, below_drewN' (HBJ.out.alloc HBJ.out.size _) nq⟩, by simp [intOf]; omega⟩
            · have HE := Lib.hid (HB9.out.trans (hBj.mono HB9.out.size))
              obtain rfl : j = s := by omega
              clear hBj
              go_wp2
              go_ret
              exact ⟨rfl, HE.out⟩
        · have HKI : Hid (k = T.length ∧ i = n) := by
            obtain ⟨h1, h2⟩ := HKK.out
            rw [hr] at h1 h2
            rw [if_neg hTM] at h2
            exact ⟨by rw [h1]; omega, h2⟩
          obtain ⟨rfl, rfl⟩ := HKI.out
          have u1 : (T.length : Int) < (r : Int) + 1 := by omega
          have hmin : (if (r : Int) + 1 < (T.length : Int) then (r : Int) + 1 else (T.length : Int)) = (T.length : Int) := by split <;> omega
          have HTM := Lib.hid hTM
          clear hr hTM HKI
          go_wp2_with fail
          refine (spans_any L R F A T T.length w7.heap.size _ w8 (by omega) (fun j => Nat.le_trans (HTN.out j) (by omega)) HRow.out.2.1).mono ?_
          rintro e w9 ⟨vs, rfl, hos, hB9⟩
          have HB9 := Lib.hid (HB8.out.trans (hB9.mono HB8.out.size))
          have HL9 := Lib.hid (own_below HRow.out.2.1 hB9)
          have c9 := below_cell hB9 c1
          obtain ⟨aos, caps, rfl⟩ : ∃ ao cap, vs = .slice ao ((T.length + 1) / 2) cap := by
            rcases hos.2 with ⟨rfl, e0⟩ | ⟨g, cap, cur, rfl, _⟩
            · exact ⟨none, 0, by rw [e0]⟩
            · exact ⟨_, cap, rfl⟩
          have HOS := Lib.hid hos
          obtain ⟨s, hs⟩ : ∃ s, (T.length + 1) / 2 = s := ⟨_, rfl⟩
          rw [hs] at HOS ⊢
          have hs1 : 2 * s ≤ T.length + 1 := by omega
          have hs2 : T.length ≤ 2 * s := by omega
          have x1 : (((T.length : Nat) : Int) + 1) / 2 = (s : Int) := by omega
          have x2 : Int.tdiv (((T.length : Nat) : Int) + 1) 2 = (s : Int) := by rw [Int.tdiv_eq_ediv_of_nonneg (by omega)]; exact x1
          skip
          have HS1 := Lib.hid (⟨hs1, hs2⟩ : _ ∧ _)
          clear hs hos hB9 d0 d1 d2 d3 df c0 c1 c2 c3 c4 HRow HO8 HA8 HB8
          go_wp2_with fail
          clear x1 x2
          go_loopw [89] (fun jv wr => ∃ j : Nat, j ≤ s ∧ jv = .int .i64 j ∧ Below w9.heap.size w9 wr) (fun jv _ => s - (intOf jv).toNat)
          case atStart => exact ⟨0, by omega, rfl, Below.refl _ _⟩
          case round =>
            obtain ⟨j, hj, rfl, hBj⟩ := hrel
            by_cases hlt : j < s
            · have c9 := below_cell hBj c9
              have hos2 := own_below HOS.out hBj
              have hol2 := own_below HL9.out hBj
              obtain ⟨gs, caps', es, _⟩ := hos2.form (by omega)
              simp only [Value.slice.injEq, true_and] at es
              obtain ⟨rfl, rfl⟩ := es
              obtain ⟨gv, capv', ev, _⟩ := hol2.form (by omega)
              simp only [Value.slice.injEq, true_and] at ev
              obtain ⟨rfl, rfl⟩ := ev
              have hsl := spn_length T T.length s
              have hel := evs_length T T.length
              have hsg := spn_get T T.length s j hlt
              have s0 : wr.cell? ⟨gs, j * 2, none⟩ = _ := (hos2.cellAt (j * 2) (by omega)).trans hsg.1
              have s1 : wr.cell? ⟨gs, j * 2 + 1, none⟩ = _ := (hos2.cellAt (j * 2 + 1) (by omega)).trans hsg.2
              have hjk : 2 * j < T.length := by omega
              have v0 : wr.cell? ⟨gv, 2 * j * 2, none⟩ = _ := (hol2.cellAt (2 * j * 2) (by omega)).trans (evs_get T T.length (2 * j) hjk).1
              have tj := HTN.out (2 * j)
              have tj2 := HTN.out (2 * j + 1)
              have HV2 : Hid (∀ _ : 2 * j + 1 < T.length, wr.cell? ⟨gv, (2 * j + 1) * 2, none⟩ = some (.int .i64 (10 * ((T.getD (2 * j + 1) 0 : Nat) : Int)))) := fun h => (hol2.cellAt ((2 * j + 1) * 2) (by omega)).trans (evs_get T T.length (2 * j + 1) h).1
              have hU : untilS T T.length j = if 2 * j + 1 < T.length then 10 * ((T.getD (2 * j + 1) 0 : Nat) : Int) else 1000 := rfl
              rw [hU] at s1
              have HBJ := Lib.hid hBj
              have hne := neqArr2
              have k1 : IntKind.i64.wrap (2 * (j : Int)) = 2 * (j : Int) := by rw [IntKind.wrap_i64]; omega
              have k2 : (0 : Int) ≤ 2 * (j : Int) := by omega
              have k3 : (2 * (j : Int)).toNat = 2 * j := by omega
              have k4 : 2 * (j : Int) < ((T.length : Nat) : Int) := by omega
              skip
              clear hos2 hol2 hsl hel hsg hU hBj
              by_cases hj2 : 2 * j + 1 < T.length
              · have v1 := HV2.out hj2
                rw [if_pos hj2] at s1
                generalize 10 * ((T.getD (2 * j) 0 : Nat) : Int) = X at *
                generalize 10 * ((T.getD (2 * j + 1) 0 : Nat) : Int) = Y at *
                have k5 : (2 * (j : Int) + 1).toNat = 2 * j + 1 := by omega
                have k6 : 2 * (j : Int) + 1 < ((T.length : Nat) : Int) := by omega
                skip
                have a9 := below_cell ((Below.refl wr.heap.size wr).alloc (Nat.le_refl _) (.cells #[.int .i64 X, .int .i64 Y] 38)) c9
                have a0 := below_cell ((Below.refl wr.heap.size wr).alloc (Nat.le_refl _) (.cells #[.int .i64 X, .int .i64 Y] 38)) v0
                have a1 := below_cell ((Below.refl wr.heap.size wr).alloc (Nat.le_refl _) (.cells #[.int .i64 X, .int .i64 Y] 38)) v1
                go_wp2_with fail
                go_quiet (fail)
                clear a9 a0 a1 k1 k2 k3 k4 k5 k6 hne c9 s0 s1 v0 v1
                go_wp2
                exact ⟨⟨j + 1, by omega, by go_num, below_drewN' (HBJ.out.alloc HBJ.out.size _) nq⟩, by simp [intOf]; omega⟩
              · rw [if_neg hj2] at s1
                generalize 10 * ((T.getD (2 * j) 0 : Nat) : Int) = X at *
                have k6 : ((T.length : Nat) : Int) ≤ 2 * (j : Int) + 1 := by omega
                skip
                have a9 := below_cell ((Below.refl wr.heap.size wr).alloc (Nat.le_refl _) (.cells #[.int .i64 X, .int .i64 1000] 38)) c9
                have a0 := below_cell ((Below.refl wr.heap.size wr).alloc (Nat.le_refl _) (.cells #[.int .i64 X, .int .i64 1000] 38)) v0
                go_wp2_with fail
                go_quiet (fail)
                clear a9 a0 k1 k2 k3 k4 k6 hne c9 s0 s1 v0
                go_wp2
                exact ⟨⟨j + 1, by omega, by go_num, below_drewN' (HBJ.out.alloc HBJ.out.size _) nq⟩, by simp [intOf]; omega⟩
            · have HE := Lib.hid (HB9.out.trans (hBj.mono HB9.out.size))
              obtain rfl : j = s := by omega
              clear hBj
              go_wp2
              go_ret
              exact ⟨rfl, HE.out⟩
  · go_wp2_with fail
    refine (awake_any _).mono ?_
    rintro e w2 ⟨rfl, hB2⟩
    have HB2 := Lib.hid (HB1.out.trans (hB2.mono HB1.out.size))
    clear hB2
    go_wp2
    go_ret
    exact ⟨rfl, HB2.out⟩
end Go.Proofs.Ytopcjopibblpaaa
