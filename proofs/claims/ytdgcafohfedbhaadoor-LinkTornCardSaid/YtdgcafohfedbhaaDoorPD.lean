import Derived.Test.YtdgcafohfedbhaaDoorPC
import Derived.Maps.AppendAt
namespace Go.Proofs.YtdgcafohfedbhaaDoor.K
open Go.RowKit Go.Joins
attribute [local go_sem] Oper.semAt_some
set_option linter.unusedVariables false
set_option linter.unusedSimpArgs false

theorem bits_or128 (d : Nat) (h : d < 128) : bits .or .u8 (d : Int) 128 = ((d + 128 : Nat) : Int) := by
  have h1 : (BitVec.ofInt 8 (d : Int)).toNat = d := by
    rw [BitVec.ofInt_natCast, BitVec.toNat_ofNat]; exact Nat.mod_eq_of_lt (by omega)
  have h2 : (BitVec.ofInt 8 128).toNat = 128 := by decide
  show IntKind.u8.wrap ((BitVec.ofInt 8 (d : Int) ||| BitVec.ofInt 8 128).toNat : Int) = _
  rw [BitVec.toNat_or, h1, h2, or_more d h, IntKind.wrap_u8]
  omega
/-- the first k digits, the lowest first, all but it marked -/
def dg (n : Nat) : Nat → List Nat
  | 0 => []
  | k + 1 => dg n k ++ [nn n k % 128 + (if 0 < k then 128 else 0)]
theorem dg_length (n k : Nat) : (dg n k).length = k := by
  induction k with
  | zero => rfl
  | succ k ih => simp [dg, ih]
/-- a number's bytes -/
def up (n : Nat) : List Nat := (dg n (len n)).reverse
theorem info5 : (Tryd.prog.info? 5).map (fun i => (i.zero, i.size, i.bytes)) = some (some (.int .u8 0), 1, 1) := by kernel_rfl

/-- a coil's object -/
def CoilAt (w : World) (B c : Nat) (bs : List Nat) : Prop := ∃ v, w.heap[c]? = some (.cells #[v] 45 (0, 0)) ∧ w.ownsRow B 5 1 v bs.length (byts bs)
/-- below B, block g alone may have turned -/
structure TouchB (g B : Nat) (w w' : World) : Prop where
  os : w'.os = w.os
  tape : w'.tape = w.tape
  output : w'.output = w.output
  size : w.heap.size ≤ w'.heap.size
  block : ∀ k, k < B → k ≠ g → w'.heap[k]? = w.heap[k]?

theorem groups_mk (n : Int) (w : World) :
    Calls Tryd.prog 32 #[.int .u64 n] w fun e w' => e = .returned (.func (Fn.func 36) #[] #[.pointer (some ⟨w.heap.size, 0, none⟩)]) ∧ w'.heap[w.heap.size]? = some (.cells #[.int .u64 n] 63 (0, 0)) ∧ Below w.heap.size w w' := by
  have hmf : ∀ (fn : Fn) (first cap : Array Value) (w : World), (Instr.makeFunc fn first cap).run Tryd.prog w = .ok (.func fn first cap) w := fun _ _ _ _ => rfl
  go_enter Tryd.func32, Tryd.ntmps32
  go_wp2
  go_ret
  exact ⟨rfl, heap_alloc_new w _, (Below.refl _ w).alloc (Nat.le_refl _) _⟩

/-- i digits lie in the row behind block t; b holds what is left -/
structure NJ (n t b D B : Nat) (rec : LoopState → Option Code → Loop) (W0 : World) (k i : Nat) (W : World) : Prop where
  os : W.os = W0.os
  tape : W.tape = W0.tape
  output : W.output = W0.output
  size : W0.heap.size ≤ W.heap.size
  block : ∀ k, k < B → W.heap[k]? = W0.heap[k]?
  row : ∃ v, W.heap[t]? = some (.cells #[v] 22 (0, 0)) ∧ W.ownsRow W0.heap.size 5 1 v k (byts (dg n k))
  box : W.heap[b]? = some (.cells #[.int .u64 (nn n i : Int)] 63 (0, 0))
  ready : Ready W (D + 1) D rec

/-- an append onto a row of one's own, of any run of cells, at a region's operation -/
theorem wp_append_own_at {o : Oper} {a : Act} {w : World} {K : Act → World → Prop} {Q : Exit → Act → World → Prop} (s x : Operand) (t : TypeId)
    (ho : o.op = .call { callee := .builtin .append, args := #[s, x], argTypes := #[t, t] })
    (base : Nat) (e : TypeId) (i : TypeInfo) (z : Value) (size bytes : Nat) (ht : Tryd.prog.underlying t = some (.slice e)) (hi : Tryd.prog.info? e = some i) (hz : i.zero = some z)
    (hsize : i.size = size) (hby : i.bytes = bytes) (hzs : z.cells.size = size) (hsz : 0 < size)
    (v : Value) (n : Nat) (xs : List Value) (hs : a.eval s = v) (hown : w.ownsRow base e size v n xs)
    (ad : Addr) (m c : Nat) (news : List Value) (hx : a.eval x = .slice (some ad) m c) (hl : news.length = m * size) (hnews : ∀ j u, news[j]? = some u → w.cell? (ad.add j) = some u) (h1 : ∀ u ∈ news, u.oneCell' = true)
    (h63 : n + m ≤ maxLen) (hbytes : (n + m) * bytes ≤ 140737488355328) (hbase : base ≤ w.heap.size)
    (h : ∀ v' w', w'.ownsRow base e size v' (n + m) (xs ++ news) → w.grownBy w' v.ownBlock → K (a.put o.dst v') w') : o.wp Tryd.prog a w K Q := by
  obtain ⟨v', w', hr, h2, h3, h4, h5⟩ := run_append_own_at (P := Tryd.prog) w base t o.type e i z size bytes ht hi hz hsize hby hzs hsz v n xs hown ad m c news hl hnews h1 h63 hbytes hbase
  unfold Oper.wp execOp
  simp only [ho, resolve, invoke, builtin, Sem.run_bind, Sem.run_pure, Result.andThen_ok, List.map_toArray, List.map_cons, List.map_nil, hs, hx, hr]
  exact h v' w' h2 h3


theorem step_append_own_at {ops : Array Oper} {E : Prop} {o : Oper} {a : Act} {w : World} {K : Act → World → Prop} {Q : Exit → Act → World → Prop} (hgd : o.guard = none) (s x : Operand) (t : TypeId)
    (ho : o.op = .call { callee := .builtin .append, args := #[s, x], argTypes := #[t, t] })
    (base : Nat) (e : TypeId) (i : TypeInfo) (z : Value) (size bytes : Nat) (ht : Tryd.prog.underlying t = some (.slice e)) (hi : Tryd.prog.info? e = some i) (hz : i.zero = some z)
    (hsize : i.size = size) (hby : i.bytes = bytes) (hzs : z.cells.size = size) (hsz : 0 < size)
    (v : Value) (n : Nat) (xs : List Value) (hs : a.eval s = v) (hown : w.ownsRow base e size v n xs)
    (ad : Addr) (m c : Nat) (news : List Value) (hx : a.eval x = .slice (some ad) m c) (hl : news.length = m * size) (hnews : ∀ j u, news[j]? = some u → w.cell? (ad.add j) = some u) (h1 : ∀ u ∈ news, u.oneCell' = true)
    (h63 : n + m ≤ maxLen) (hbytes : (n + m) * bytes ≤ 140737488355328) (hbase : base ≤ w.heap.size)
    (h : ∀ v' w', w'.ownsRow base e size v' (n + m) (xs ++ news) → w.grownBy w' v.ownBlock → K (a.put o.dst v') w') :
    if Region.wanted o (yielded ops a.tmps) = true then Oper.wp Tryd.prog o a w K Q else E := by
  rw [if_pos (by simp [Region.wanted, hgd])]
  exact wp_append_own_at s x t ho base e i z size bytes ht hi hz hsize hby hzs hsz v n xs hs hown ad m c news hx hl hnews h1 h63 hbytes hbase h
theorem region_plain {id : Nat} {ops : Array Oper} {Q : Exit → Act → World → Prop} {a : Act} {w : World} (hm : Tryd.prog.follows .mixedOrders = true)
    (h : wpAny Tryd.prog .any ops Q ops.size (Array.replicate ops.size false) a w.drew) : (Code.region id ops true).wp Tryd.prog Q a w := wp_region_any hm h


set_option maxRecDepth 100000 in
set_option maxHeartbeats 16000000 in
theorem number_any (c B : Nat) (bs : List Nat) (n : Nat) (w : World) (hn : n < 9223372036854775808) (hc : CoilAt w B c bs) (hcB : c < B) (hB : B ≤ w.heap.size) (hl : bs.length ≤ 1000000) :
    Calls Tryd.prog 29 #[.pointer (some ⟨c, 0, none⟩), .int .u64 (n : Int)] w fun e w' => e = .returned (.tuple #[]) ∧ CoilAt w' B c (bs ++ up n) ∧ TouchB c B w w' := by
  obtain ⟨i5, hi5, hz5⟩ := Option.map_eq_some_iff.1 info5
  simp only [Prod.mk.injEq] at hz5
  refine calls_marks (n := 5) Tryd.func29 rfl ?_
  simp only [Tryd.ntmps29, List.size_toArray, List.length_cons, List.length_nil, Nat.reduceAdd, Nat.reduceSub, Array.replicate_succ, Array.replicate_zero, List.push_toArray, List.append_toArray, List.nil_append, List.cons_append]
  have HC := Lib.hid hc
  have HT := Lib.hid (heap_alloc_new w (.cells #[.slice none 0 0] 22))
  have HB1 := Lib.hid ((Below.refl w.heap.size w).alloc (Nat.le_refl _) (.cells #[.slice none 0 0] 22))
  clear hc
  go_wp2_with fail
  refine (groups_mk n _).mono ?_
  rintro e w2 ⟨rfl, hb, hB2⟩
  rw [show (w.alloc (.cells #[.slice none 0 0] 22)).heap.size = w.heap.size + 1 by simp] at hb ⊢
  have HT2 := Lib.hid (below_blk hB2 HT.out)
  have HB2 := Lib.hid (HB1.out.trans (hB2.mono (by simp)))
  have HBX := Lib.hid hb
  have hs2 : w.heap.size + 1 < w2.heap.size := (Array.getElem?_eq_some_iff.1 hb).1
  clear hb hB2 HT HB1
  go_wp2_with fail
  refine range_law (n := 3) (gf := 36) (lb := #[.pointer (some ⟨w.heap.size + 1, 0, none⟩)]) rfl (enters_of Tryd.func36 (by kernel_rfl) rfl) ?_
  intro fn W0 rec hrec hW0
  have hD : W0.heap[w2.heap.size]? = some (.deferred (some [])) := by rw [hW0]; exact (Below.heap_alloc _ _ _ (by simp)).trans (heap_alloc_new w2 _)
  have hL : W0.heap[w2.heap.size + 1]? = some (.loop (rec .ready none)) := by
    have := heap_alloc_new (w2.alloc (.deferred (some []))) (.loop (rec .ready none))
    rw [← hW0] at this
    simpa using this
  have hB0 : Below w2.heap.size w2 W0 := by rw [hW0]; exact ((Below.refl _ w2).alloc (Nat.le_refl _) _).alloc (by simp) _
  have hs0 : W0.heap.size = w2.heap.size + 2 := by rw [hW0]; simp
  have HJ0 : Hid (NJ n w.heap.size (w.heap.size + 1) w2.heap.size w.heap.size rec W0 0 0 W0) := ⟨rfl, rfl, rfl, Nat.le_refl _, fun _ _ => rfl, ⟨_, below_blk hB0 HT2.out, World.ownsRow_nil _ _ _ _⟩, below_blk hB0 HBX.out, ⟨hL, hD⟩⟩
  have HB0 := Lib.hid (HB2.out.trans (hB0.mono (by omega)))
  clear hD hL hB0 hW0 HT2 HBX HB2
  generalize w2.heap.size = D at *
  generalize htx : w.heap.size = t at *
  have HTX := Lib.hid htx
  clear htx
  have hlen := len_le 8 n (by simp; omega)
  have hpos := len_pos n
  refine (groups_any (D + 1) 3 n hn (t + 1) (fun i W => NJ n t (t + 1) D t rec W0 i i W) (fun i W => NJ n t (t + 1) D t rec W0 (i + 1) i W) (fun i W h => h.box) (fun i W h => h.box) ?_ ?_ W0 HJ0.out).mono ?_
  · intro i W hi h
    refine yield_of (n := 3) hrec h.ready rfl ?_
    have H := Lib.hid h
    clear h hrec
    gi_wp2
    refine ⟨H.out.ready, ?_⟩
    obtain ⟨v, hv, hvo⟩ := H.out.row
    obtain ⟨ao, cap, rfl⟩ := own_form hvo
    have hsz := H.out.size
    have hV1 : (W.putObj (D + 1) (.loop (rec .busy none))).heap[t]? = _ := (World.putObj_heap_other (show t ≠ D + 1 by omega)).trans hv
    have hV2 : (W.putObj (D + 1) (.loop (rec .busy none))).ownsRow W0.heap.size 5 1 (.slice ao i cap) i (byts (dg n i)) := own_same hvo fun k hk => World.putObj_heap_other (by have := (hvo.lt k hk).1; omega)
    have hBu : Busy (W.putObj (D + 1) (.loop (rec .busy none))) (D + 1) D rec := ⟨World.putObj_heap_same (Array.getElem?_eq_some_iff.1 H.out.ready.1).1, (World.putObj_heap_other (show D ≠ D + 1 by omega)).trans H.out.ready.2⟩
    have hBx := (World.putObj_heap_other (w := W) (o := .loop (rec .busy none)) (show t + 1 ≠ D + 1 by omega)).trans H.out.box
    have hFr : ∀ k, k < t → (W.putObj (D + 1) (.loop (rec .busy none))).heap[k]? = W0.heap[k]? := fun k hk => (World.putObj_heap_other (by omega)).trans (H.out.block k hk)
    obtain ⟨V, hV⟩ : ∃ V, W.putObj (D + 1) (.loop (rec .busy none)) = V := ⟨_, rfl⟩
    have hVs : W0.heap.size ≤ V.heap.size := by rw [← hV]; simpa using hsz
    have hVo : V.os = W0.os ∧ V.tape = W0.tape ∧ V.output = W0.output := by rw [← hV]; exact ⟨H.out.os, H.out.tape, H.out.output⟩
    rw [hV] at hV1 hV2 hBu hBx hFr ⊢
    have HV := Lib.hid (⟨hV1, hV2, hBu, hBx, hFr, hVo⟩ : _ ∧ _ ∧ _ ∧ _ ∧ _ ∧ _)
    clear hV hv hvo hV2 hBu hBx hFr hVo
    have c0 : V.cell? ⟨t, 0, none⟩ = some (.slice ao i cap) := by simp [World.cell?, hV1]
    have HT1 := Lib.hid hV1
    clear hV1
    generalize hdg : ((nn n i : Nat) : Int) % 128 = dI at *
    obtain ⟨d, rfl⟩ : ∃ d : Nat, dI = (d : Int) := ⟨nn n i % 128, by omega⟩
    have hd : d < 128 := by omega
    have HD : Hid (nn n i % 128 = d) := (by omega : nn n i % 128 = d)
    clear hdg
    have hbi := bits_or128 d hd
    rcases Nat.eq_zero_or_pos i with hi0 | hi0
    · subst hi0
      have HA1 := Lib.hid ((Below.refl V.heap.size V).alloc (Nat.le_refl _) (.cells #[.int .u8 (d : Int)] 5))
      have HO1 := Lib.hid (own_below HV.out.2.1 HA1.out)
      have ht1 := below_blk HA1.out HT1.out
      have htl : t < V.heap.size := (Array.getElem?_eq_some_iff.1 HT1.out).1
      gi_wp2_with (first
        | (gi_at_builtin
           refine wpListIn_append_own _ rfl _ _ 22 rfl W0.heap.size 5 i5 _ 1 1 Tryd.underlying22 hi5 hz5.1 hz5.2.1 hz5.2.2 rfl (by omega) _ 0 _ rfl HO1.out _ 1 1 [.int .u8 (d : Int)] rfl rfl (World.news_of_block (heap_alloc_new V _)) (by intro u hu; simp at hu; subst hu; rfl) (by unfold maxLen; omega) (by omega) (by simp; omega) ?_)
        | fail)
      intro v5 w5 hown5 hg5 _
      obtain ⟨ao5, cap5, rfl⟩ := own_form hown5
      have keep : ∀ k, k < W0.heap.size → w5.heap[k]? = V.heap[k]? := fun k hk => by
        rw [hg5.block k (by simp; omega) (fun e => by have := (HO1.out.lt k e.symm).1; omega)]
        exact HA1.out.block k (by omega)
      have p5 : w5.heap[t]? = some (.cells #[.slice ao 0 cap] 22 (0, 0)) := (keep t (by omega)).trans HT1.out
      have c5 : w5.cell? ⟨t, 0, none⟩ = some (.slice ao 0 cap) := by simp [World.cell?, p5]
      have f5 : w5.frozen? ⟨t, 0, none⟩ = false := by simp [World.frozen?, p5]
      have HK := Lib.hid keep
      have H5 := Lib.hid (⟨hown5, p5, hg5⟩ : _ ∧ _ ∧ _)
      clear hown5 hg5 keep p5 ht1 c0
      gi_wp2
      have hbz : (w5.setCell ⟨t, 0, none⟩ (.slice ao5 1 cap5)).heap[D + 1]? = some (.loop (rec .busy none)) := (Below.heap_setCell _ _ _ _ (show D + 1 ≠ t by omega)).trans ((HK.out _ (by omega)).trans HV.out.2.2.1.1)
      have hdz : (w5.setCell ⟨t, 0, none⟩ (.slice ao5 1 cap5)).heap[D]? = some (.deferred (some [])) := (Below.heap_setCell _ _ _ _ (show D ≠ t by omega)).trans ((HK.out _ (by omega)).trans HV.out.2.2.1.2)
      refine ⟨⟨hbz, hdz⟩, rfl, ⟨?_, ?_, ?_, ?_, fun k hk => ?_, ⟨.slice ao5 1 cap5, ?_, ?_⟩, ?_, ⟨World.putObj_heap_same (Array.getElem?_eq_some_iff.1 hbz).1, (World.putObj_heap_other (show D ≠ D + 1 by omega)).trans hdz⟩⟩⟩
      · exact H5.out.2.2.os.trans HV.out.2.2.2.2.2.1
      · exact H5.out.2.2.tape.trans HV.out.2.2.2.2.2.2.1
      · exact H5.out.2.2.output.trans HV.out.2.2.2.2.2.2.2
      · have := H5.out.2.2.size; simp [World.setCell] at this ⊢; omega
      · exact (World.putObj_heap_other (by omega)).trans ((Below.heap_setCell _ _ _ _ (show k ≠ t by omega)).trans ((HK.out k (by omega)).trans (HV.out.2.2.2.2.1 k hk)))
      · rw [World.putObj_heap_other (show t ≠ D + 1 by omega)]
        have := block_setCell (i := 0) H5.out.2.1 (.slice ao5 1 cap5)
        simpa using this
      · refine own_same (w := w5) ?_ fun k hk => (World.putObj_heap_other (by have := (H5.out.1.lt k hk).1; omega)).trans (Below.heap_setCell _ _ _ _ (show k ≠ t by have := (H5.out.1.lt k hk).1; omega))
        have h := H5.out.1
        rw [dg, byts_append, HD.out, if_neg (by omega), hs0, show byts [d + 0] = [Value.int .u8 (d : Int)] by simp [byts]]
        exact h
      · exact (World.putObj_heap_other (show t + 1 ≠ D + 1 by omega)).trans ((Below.heap_setCell _ _ _ _ (show t + 1 ≠ t by omega)).trans ((HK.out _ (by omega)).trans HV.out.2.2.2.1))
    · have HI0 := Lib.hid hi0
      have hi1 : (0 : Int) < (i : Int) := by omega
      have HA1 := Lib.hid ((Below.refl V.heap.size V).alloc (Nat.le_refl _) (.cells #[.int .u8 ((d : Int) + 128)] 5))
      have HO1 := Lib.hid (own_below HV.out.2.1 HA1.out)
      have ht1 := below_blk HA1.out HT1.out
      have htl : t < V.heap.size := (Array.getElem?_eq_some_iff.1 HT1.out).1
      gi_wp2_with (first
        | (gi_at_builtin
           refine wpListIn_append_own _ rfl _ _ 22 rfl W0.heap.size 5 i5 _ 1 1 Tryd.underlying22 hi5 hz5.1 hz5.2.1 hz5.2.2 rfl (by omega) _ i _ rfl HO1.out _ 1 1 [.int .u8 ((d : Int) + 128)] rfl rfl (World.news_of_block (heap_alloc_new V _)) (by intro u hu; simp at hu; subst hu; rfl) (by unfold maxLen; omega) (by omega) (by simp; omega) ?_)
        | fail)
      intro v5 w5 hown5 hg5 _
      obtain ⟨ao5, cap5, rfl⟩ := own_form hown5
      have keep : ∀ k, k < W0.heap.size → w5.heap[k]? = V.heap[k]? := fun k hk => by
        rw [hg5.block k (by simp; omega) (fun e => by have := (HO1.out.lt k e.symm).1; omega)]
        exact HA1.out.block k (by omega)
      have p5 : w5.heap[t]? = some (.cells #[.slice ao i cap] 22 (0, 0)) := (keep t (by omega)).trans HT1.out
      have c5 : w5.cell? ⟨t, 0, none⟩ = some (.slice ao i cap) := by simp [World.cell?, p5]
      have f5 : w5.frozen? ⟨t, 0, none⟩ = false := by simp [World.frozen?, p5]
      have HK := Lib.hid keep
      have H5 := Lib.hid (⟨hown5, p5, hg5⟩ : _ ∧ _ ∧ _)
      clear hown5 hg5 keep p5 ht1 c0
      gi_wp2
      have hbz : (w5.setCell ⟨t, 0, none⟩ (.slice ao5 (i + 1) cap5)).heap[D + 1]? = some (.loop (rec .busy none)) := (Below.heap_setCell _ _ _ _ (show D + 1 ≠ t by omega)).trans ((HK.out _ (by omega)).trans HV.out.2.2.1.1)
      have hdz : (w5.setCell ⟨t, 0, none⟩ (.slice ao5 (i + 1) cap5)).heap[D]? = some (.deferred (some [])) := (Below.heap_setCell _ _ _ _ (show D ≠ t by omega)).trans ((HK.out _ (by omega)).trans HV.out.2.2.1.2)
      refine ⟨⟨hbz, hdz⟩, rfl, ⟨?_, ?_, ?_, ?_, fun k hk => ?_, ⟨.slice ao5 (i + 1) cap5, ?_, ?_⟩, ?_, ⟨World.putObj_heap_same (Array.getElem?_eq_some_iff.1 hbz).1, (World.putObj_heap_other (show D ≠ D + 1 by omega)).trans hdz⟩⟩⟩
      · exact H5.out.2.2.os.trans HV.out.2.2.2.2.2.1
      · exact H5.out.2.2.tape.trans HV.out.2.2.2.2.2.2.1
      · exact H5.out.2.2.output.trans HV.out.2.2.2.2.2.2.2
      · have := H5.out.2.2.size; simp [World.setCell] at this ⊢; omega
      · exact (World.putObj_heap_other (by omega)).trans ((Below.heap_setCell _ _ _ _ (show k ≠ t by omega)).trans ((HK.out k (by omega)).trans (HV.out.2.2.2.2.1 k hk)))
      · rw [World.putObj_heap_other (show t ≠ D + 1 by omega)]
        have := block_setCell (i := 0) H5.out.2.1 (.slice ao5 (i + 1) cap5)
        simpa using this
      · refine own_same (w := w5) ?_ fun k hk => (World.putObj_heap_other (by have := (H5.out.1.lt k hk).1; omega)).trans (Below.heap_setCell _ _ _ _ (show k ≠ t by have := (H5.out.1.lt k hk).1; omega))
        have h := H5.out.1
        rw [dg, byts_append, HD.out, if_pos HI0.out, hs0, show byts [d + 128] = [Value.int .u8 ((d : Int) + 128)] by simp [byts]]
        exact h
      · exact (World.putObj_heap_other (show t + 1 ≠ D + 1 by omega)).trans ((Below.heap_setCell _ _ _ _ (show t + 1 ≠ t by omega)).trans ((HK.out _ (by omega)).trans HV.out.2.2.2.1))
  · intro i W hi h
    obtain ⟨v, hv, hvo⟩ := h.row
    have hb := block_setCell (i := 0) h.box (.int .u64 (nn n (i + 1) : Int))
    have hsz := h.size
    exact ⟨h.os, h.tape, h.output, by simpa [World.setCell] using h.size, fun k hk => (Below.heap_setCell _ _ _ _ (show k ≠ t + 1 by omega)).trans (h.block k hk), ⟨v, (Below.heap_setCell _ _ _ _ (show t ≠ t + 1 by omega)).trans hv, own_same hvo fun k hk => Below.heap_setCell _ _ _ _ (show k ≠ t + 1 by have := (hvo.lt k hk).1; omega)⟩, by simpa using hb,
      (Below.heap_setCell _ _ _ _ (show D + 1 ≠ t + 1 by omega)).trans h.ready.1, (Below.heap_setCell _ _ _ _ (show D ≠ t + 1 by omega)).trans h.ready.2⟩
  · rintro e W ⟨rfl, hJ⟩
    clear hrec
    refine ⟨⟨_, rfl⟩, .inl ⟨hJ.ready, ?_⟩⟩
    rw [show len n - 1 + 1 = len n by omega] at hJ
    obtain ⟨v, hv, hvo⟩ := hJ.row
    have hvo2 : W.ownsRow W0.heap.size 5 1 v (dg n (len n)).length (byts (dg n (len n))) := by rw [dg_length]; exact hvo
    obtain ⟨g, cap, rfl, hg0, hg1⟩ := hvo2.form (by rw [dg_length]; exact hpos)
    have hsz := hJ.size
    have hP1 : (W.putObj (D + 1) (.loop (rec .exhausted none))).heap[t]? = _ := (World.putObj_heap_other (show t ≠ D + 1 by omega)).trans hv
    have hP2 : (W.putObj (D + 1) (.loop (rec .exhausted none))).ownsRow W0.heap.size 5 1 (.slice (some ⟨g, 0, none⟩) (dg n (len n)).length cap) (dg n (len n)).length (byts (dg n (len n))) := own_same hvo2 fun k hk => World.putObj_heap_other (by have := (hvo2.lt k hk).1; omega)
    have hP3 : (W.putObj (D + 1) (.loop (rec .exhausted none))).heap[D]? = some (.deferred (some [])) := (World.putObj_heap_other (show D ≠ D + 1 by omega)).trans hJ.ready.2
    have hP4 : ∀ k, k < t → (W.putObj (D + 1) (.loop (rec .exhausted none))).heap[k]? = w.heap[k]? := fun k hk => (World.putObj_heap_other (by omega)).trans ((hJ.block k hk).trans (HB0.out.block k hk))
    have hP5 : (W.putObj (D + 1) (.loop (rec .exhausted none))).os = w.os ∧ (W.putObj (D + 1) (.loop (rec .exhausted none))).tape = w.tape ∧ (W.putObj (D + 1) (.loop (rec .exhausted none))).output = w.output := ⟨hJ.os.trans HB0.out.os, hJ.tape.trans HB0.out.tape, hJ.output.trans HB0.out.output⟩
    have hP6 : W0.heap.size ≤ (W.putObj (D + 1) (.loop (rec .exhausted none))).heap.size := by simpa using hsz
    obtain ⟨V, hV⟩ : ∃ V, W.putObj (D + 1) (.loop (rec .exhausted none)) = V := ⟨_, rfl⟩
    rw [hV] at hP1 hP2 hP3 hP4 hP5 hP6 ⊢
    have HV := Lib.hid (⟨hP1, hP2, hP3, hP4, hP5, hP6⟩ : _ ∧ _ ∧ _ ∧ _ ∧ _ ∧ _)
    have c0 : V.cell? ⟨t, 0, none⟩ = some (.slice (some ⟨g, 0, none⟩) (dg n (len n)).length cap) := by simp [World.cell?, hP1]
    have HLN : Hid ((dg n (len n)).length = len n) := dg_length n (len n)
    clear hV hv hvo hvo2 hP1 hP2 hP3 hP4 hP5 hP6 hJ
    generalize hdl : dg n (len n) = dl at *
    have HDL := Lib.hid hdl
    clear hdl
    go_wp2_with fail
    refine (reverse_any W0.heap.size g cap dl V (by rw [HLN.out]; omega) (by rw [HLN.out]; exact hpos) HV.out.2.1).mono ?_
    rintro e V2 ⟨rfl, hr2, ht2⟩
    have hVs := HV.out.2.2.2.2.2
    have b1 := (ht2.block t (by omega) (by omega)).trans HV.out.1
    have b2 := (ht2.block D (by omega) (by omega)).trans HV.out.2.2.1
    obtain ⟨vc, hc1, hc2⟩ := HC.out
    obtain ⟨aoc, capc, rfl⟩ := own_form hc2
    have b3 : V2.heap[c]? = some (.cells #[.slice aoc bs.length capc] 45 (0, 0)) := (ht2.block c (by omega) (by omega)).trans ((HV.out.2.2.2.1 c (by omega)).trans hc1)
    have b4 : V2.ownsRow B 5 1 (.slice aoc bs.length capc) bs.length (byts bs) := own_same hc2 fun k hk => by
      have h1 := (hc2.lt k hk).2
      rw [HTX.out] at h1
      exact (ht2.block k (show k < V.heap.size by omega) (show k ≠ g by omega)).trans (HV.out.2.2.2.1 k (by omega))
    have ht2s : W0.heap.size ≤ V2.heap.size := Nat.le_trans hVs ht2.size
    have HOB : Hid (∀ k, (Value.slice aoc bs.length capc).ownBlock = some k → k < t) := fun k hk => by have h1 := (hc2.lt k hk).2; rw [HTX.out] at h1; exact h1
    have H2 := Lib.hid (⟨hr2, ht2, b1, b2, b3, b4⟩ : _ ∧ _ ∧ _ ∧ _ ∧ _ ∧ _)
    have d0 : V2.cell? ⟨t, 0, none⟩ = some (.slice (some ⟨g, 0, none⟩) dl.length cap) := by simp [World.cell?, b1]
    have d1 : V2.cell? ⟨c, 0, none⟩ = some (.slice aoc bs.length capc) := by simp [World.cell?, b3]
    have d2 : V2.frozen? ⟨c, 0, none⟩ = false := by simp [World.frozen?, b3]
    clear hr2 ht2 b1 b2 b3 b4 hc1 hc2 c0
    go_wp2_with fail
    have hVV := ht2s
    have ownNot : ∀ k, (Value.slice aoc bs.length capc).ownBlock = some k → k < t := HOB.out
    have hmx : Tryd.prog.follows .mixedOrders = true := by kernel_rfl
    have HNW : Hid (∀ j u, (byts dl.reverse)[j]? = some u → V2.drew.cell? ((⟨g, 0, none⟩ : Addr).add j) = some u) := fun j u hu => by
      have h1 := (List.getElem?_eq_some_iff.1 hu).1
      rw [byts_length, List.length_reverse] at h1
      rw [Addr.add_lit, Nat.zero_add]
      exact (H2.out.1.cellAt j (by omega)).trans hu
    refine wp_mono (Q := fun e a W' => e = .normal ∧ a.defers = [{ target := .collected D, args := #[] }] ∧ CoilAt W' B c (bs ++ dl.reverse) ∧ TouchB c B w W' ∧ W'.heap[D]? = some (.deferred (some [])) ∧ D + 1 < W'.heap.size) ?_ ?_
    rotate_left
    · rintro e a W' ⟨rfl, hdf, k1, k2, k3, k4⟩
      refine end_mark (.inl rfl) hdf k3 ⟨_, results_none rfl _ _ _, rfl, ?_, ?_⟩
      · obtain ⟨v, q1, q2⟩ := k1
        have e : up n = dl.reverse := by unfold up; rw [HDL.out]
        rw [e]
        refine ⟨v, (World.putObj_heap_other (show c ≠ D by omega)).trans q1, own_same q2 fun k hk => World.putObj_heap_other ?_⟩
        rintro rfl
        rcases q2.2 with ⟨rfl, _⟩ | ⟨g', cap', cur, rfl, _, hh, _⟩
        · cases hk
        · have e2 : g' = k := Option.some.inj hk
          rw [e2, k3] at hh
          cases hh
      · exact ⟨k2.os, k2.tape, k2.output, by simpa using k2.size, fun k hk hne => (World.putObj_heap_other (show k ≠ D by omega)).trans (k2.block k hk hne)⟩
    have hdn : dl.length ≤ 9 := by rw [HLN.out]; exact hlen
    go_region_law (
      refine step_append_own_at rfl (.tmp 25) (.tmp 26) 22 rfl B 5 i5 _ 1 1 Tryd.underlying22 hi5 hz5.1 hz5.2.1 hz5.2.2 rfl (by omega) _ _ _ (by simp [Act.eval, Act.put]) H2.out.2.2.2.2.2 ⟨g, 0, none⟩ dl.length cap (byts dl.reverse) (by simp [Act.eval]) (by simp [byts]) HNW.out (byts_one _) (by unfold maxLen; omega) (by omega) (show B ≤ V2.heap.size by omega) ?_
      intro v6 w6 hown6 hg6
      obtain ⟨ao6, cap6, rfl⟩ := own_form hown6
      have p6 : w6.heap[c]? = some (.cells #[.slice aoc bs.length capc] 45 (0, 0)) := by
        rw [hg6.block c (show c < V2.heap.size by omega) (fun e => by have := (H2.out.2.2.2.2.2.lt c e.symm).1; omega)]
        exact H2.out.2.2.2.2.1
      have q6 : w6.heap[D]? = some (.deferred (some [])) := by
        rw [hg6.block D (show D < V2.heap.size by omega) (fun e => by have := ownNot D e.symm; omega)]
        exact H2.out.2.2.2.1
      have c6 : w6.cell? ⟨c, 0, none⟩ = some (.slice aoc bs.length capc) := by simp [World.cell?, p6]
      have f6 : w6.frozen? ⟨c, 0, none⟩ = false := by simp [World.frozen?, p6])
    all_goals
      have hbo : ∀ k, (Value.slice aoc bs.length capc).ownBlock = some k → B ≤ k := fun k hk => (H2.out.2.2.2.2.2.lt k hk).1
      have hz6 : V2.heap.size ≤ w6.heap.size := hg6.size
      refine ⟨rfl, rfl, ⟨.slice ao6 (bs.length + dl.length) cap6, ?_, ?_⟩, ⟨?_, ?_, ?_, ?_, fun k hk hne => ?_⟩, ?_, ?_⟩
      · have := block_setCell (i := 0) p6 (.slice ao6 (bs.length + dl.length) cap6)
        simpa using this
      · rw [List.length_append, List.length_reverse, byts_append]; exact ownsRow_setCell_below hown6 hcB _
      · exact hg6.os.trans (H2.out.2.1.os.trans HV.out.2.2.2.2.1.1)
      · exact hg6.tape.trans (H2.out.2.1.tape.trans HV.out.2.2.2.2.1.2.1)
      · exact hg6.output.trans (H2.out.2.1.output.trans HV.out.2.2.2.2.1.2.2)
      · rw [HTX.out]; simp [World.setCell]; omega
      · exact (Below.heap_setCell _ _ _ _ hne).trans ((hg6.block k (show k < V2.heap.size by omega) (fun e => by have := hbo k e.symm; omega)).trans ((H2.out.2.1.block k (by omega) (by omega)).trans (HV.out.2.2.2.1 k (by omega))))
      · exact (Below.heap_setCell _ _ _ _ (show D ≠ c by omega)).trans q6
      · simp [World.setCell]; omega
end Go.Proofs.YtdgcafohfedbhaaDoor.K
