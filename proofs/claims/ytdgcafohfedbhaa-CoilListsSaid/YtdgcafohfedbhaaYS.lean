import Derived.Test.YtdgcafohfedbhaaY
import Derived.Maps.AppendAt
namespace Go.Proofs.Ytdgcafohfedbhaa.S
open Go.RowKit Go.Joins
open Go.Proofs.Ytdgcafohfedbhaa
attribute [local go_sem] Oper.semAt_some
set_option linter.unusedVariables false
set_option linter.unusedSimpArgs false

set_option maxRecDepth 100000 in
set_option maxHeartbeats 4000000 in
/-- the values, one by one -/
theorem values_any (l m : Nat) (a : Option Addr) (n cap : Nat) (xs : List ByteArray) (hn : xs.length = n) (hn63 : n ≤ 9223372036854775807) (b : Nat) (J : Nat → World → Prop)
    (hs : ∀ i W, J i W → W.cell? ⟨b, 0, none⟩ = some (.slice a n cap) ∧ ShowsV W a (xs.map (Value.string)))
    (hY : ∀ i x W, xs[i]? = some x → J i W → YieldAt Fence.wide m Try.prog l #[(Value.string) x] W fun e W' => e = .returned (.bool true) ∧ J (i + 1) W')
    (w : World) (h0 : J 0 w) :
    Calls Try.prog 46 #[.func (.yield l) #[] #[], .pointer (some ⟨b, 0, none⟩)] w fun e W' => e = .returned (.tuple #[]) ∧ J n W' := by
  refine (callsIn_wide (n := m + 1)).1 ?_
  refine callsIn_of_wp Try.func46 rfl trivial ?_ rfl
  simp only [Try.ntmps46, List.size_toArray, List.length_cons, List.length_nil, Nat.reduceAdd, Nat.reduceSub, Array.replicate_succ, Array.replicate_zero, List.push_toArray, List.append_toArray, List.nil_append, List.cons_append]
  have c0 := (hs 0 w h0).1
  have HS := Lib.hid hs
  have HY := Lib.hid hY
  have HN := Lib.hid hn
  clear hs hY hn
  gi_wp2_with fail
  gi_loopw [7] (fun i wr => ∃ k : Nat, k ≤ n ∧ i = .int .i64 k ∧ J k wr) (fun i _ => n - (intOf i).toNat)
  case atStart => exact ⟨0, by omega, rfl, h0⟩
  case round =>
    obtain ⟨k, hk, rfl, hJ⟩ := hrel
    have HJ := Lib.hid hJ
    clear hJ h0 c0
    by_cases hlt : k < n
    · obtain ⟨x, hx⟩ : ∃ x, xs[k]? = some x := ⟨_, List.getElem?_eq_getElem (by rw [HN.out]; exact hlt)⟩
      obtain ⟨fn, tmps, assign, body, hy, hR⟩ := HY.out k x wr hx HJ.out
      obtain ⟨g, o, rfl, hc⟩ := (HS.out k wr HJ.out).2 k ((Value.string) x) (by rw [List.getElem?_map, hx]; rfl)
      have i1 : (0 : Int) ≤ (k : Int) := by omega
      have i2 : (k : Int) < (n : Int) := by omega
      clear hx
      gi_wp2_with fail
      refine hR.mono ?_
      rintro e W' ⟨rfl, h⟩
      have H := Lib.hid h
      clear h hy hR hc
      gi_wp2
      exact ⟨⟨k + 1, by omega, by go_num, H.out⟩, by simp [intOf]; omega⟩
    · obtain rfl : k = n := by omega
      gi_wp2
      refine bodyPost_end (results_none rfl _ _ _) rfl ⟨rfl, HJ.out⟩

def ens (l : List ByteArray) : List Nat := l.flatMap (enc)
theorem ens_snoc {l : List ByteArray} {i : Nat} {x : ByteArray} (h : l[i]? = some x) : ens (l.take (i + 1)) = ens (l.take i) ++ enc x := by
  rw [take_snoc h]; simp [ens]
theorem values_mk (v : Value) (w : World) (hv : ∃ a n cap, v = .slice a n cap) :
    Calls Try.prog 33 #[v] w fun e w' => e = .returned (.func (Fn.func 46) #[] #[.pointer (some ⟨w.heap.size, 0, none⟩)]) ∧ w'.heap[w.heap.size]? = some (.cells #[v] 45 (0, 0)) ∧ Below w.heap.size w w' := by
  have hmf : ∀ (fn : Fn) (first cap : Array Value) (w : World), (Instr.makeFunc fn first cap).run Try.prog w = .ok (.func fn first cap) w := fun _ _ _ _ => rfl
  obtain ⟨a, n, cap, rfl⟩ := hv
  go_enter Try.func33, Try.ntmps33
  go_wp2
  go_ret
  exact ⟨rfl, heap_alloc_new w _, (Below.refl _ w).alloc (Nat.le_refl _) _⟩

theorem one_any (c B : Nat) (bs : List Nat) (s : ByteArray) (w : World) (hc : CoilAt w B c bs) (hcB : c < B) (hB : B ≤ w.heap.size) (hl : bs.length ≤ 900000) (hs : s.size ≤ 1000) :
    Calls Try.prog 34 #[.pointer (some ⟨c, 0, none⟩), .string s] w fun e w' => e = .returned (.tuple #[]) ∧ CoilAt w' B c (bs ++ enc s) ∧ TouchB c B w w' := by
  have HT := Lib.hid (text_any c B bs s w hc hcB hB hl (by omega))
  clear hc
  go_enter Try.func34, Try.ntmps34
  go_wp2_with fail
  refine HT.out.mono ?_
  rintro e w' ⟨rfl, h1, h2⟩
  rw [List.append_assoc] at h1
  have H := Lib.hid (⟨h1, h2⟩ : _ ∧ _)
  clear h1 h2
  go_wp2
  go_end0
  exact ⟨rfl, H.out.1, H.out.2⟩
/-- i items were put -/
structure PJ (xs : List ByteArray) (t : Nat) (rec : LoopState → Option Code → Loop) (W0 : World) (i : Nat) (W : World) : Prop where
  os : W.os = W0.os
  tape : W.tape = W0.tape
  output : W.output = W0.output
  size : t + 5 ≤ W.heap.size
  block : ∀ k, k < t → W.heap[k]? = W0.heap[k]?
  one : W.heap[t]? = some (.cells #[.func (Fn.func 34) #[] #[]] 59 (0, 0))
  items : CoilAt W (t + 5) (t + 1) (ens (xs.take i))
  num : W.heap[t + 2]? = some (.cells #[.int .i64 (i : Int)] 3 (0, 0))
  ready : Ready W (t + 4) (t + 3) rec

set_option maxRecDepth 100000 in
set_option maxHeartbeats 16000000 in
theorem put_any (c b : Nat) (a : Option Addr) (cap : Nat) (xs : List ByteArray) (w : World) (hc : w.heap[c]? = some (.cells #[.slice none 0 0] 25 (0, 0))) (hb : w.heap[b]? = some (.cells #[.slice a xs.length cap] 45 (0, 0)))
    (hx : ShowsV w a (xs.map (Value.string))) (hok : ∀ x ∈ xs, x.size ≤ 1000) (hn : xs.length ≤ 1000) (hlen : ∀ i, (ens (xs.take i)).length ≤ 500000) :
    Calls Try.prog 32 #[.pointer (some ⟨c, 0, none⟩), .func (Fn.func 46) #[] #[.pointer (some ⟨b, 0, none⟩)], .func (Fn.func 34) #[] #[]] w fun e w' => e = .returned (.tuple #[]) ∧ CoilAt w' w.heap.size c (up xs.length ++ ens xs) ∧ TouchB c w.heap.size w w' := by
  refine calls_marks (n := 5) Try.func32 rfl ?_
  simp only [Try.ntmps32, List.size_toArray, List.length_cons, List.length_nil, Nat.reduceAdd, Nat.reduceSub, Array.replicate_succ, Array.replicate_zero, List.push_toArray, List.append_toArray, List.nil_append, List.cons_append]
  have hmx : Try.prog.follows .mixedOrders = true := by kernel_rfl
  have hcl : c < w.heap.size := (Array.getElem?_eq_some_iff.1 hc).1
  have hbl : b < w.heap.size := (Array.getElem?_eq_some_iff.1 hb).1
  have HC := Lib.hid (⟨hc, hb, hx, hok, hlen⟩ : _ ∧ _ ∧ _ ∧ _ ∧ _)
  clear hc hb hx hok hlen
  go_wp2_with fail
  obtain ⟨w2, hw2⟩ : ∃ w2, ((w.alloc (.cells #[.func (Fn.func 34) #[] #[]] 59)).alloc (.cells #[.slice none 0 0] 25)).alloc (.cells #[.int .i64 0] 3) = w2 := ⟨_, rfl⟩
  obtain ⟨t, ht⟩ : ∃ t, w.heap.size = t := ⟨_, rfl⟩
  have hB2 : Below t w w2 := by subst ht hw2; exact (((Below.refl _ w).alloc (Nat.le_refl _) _).alloc (by simp) _).alloc (by simp; omega) _
  have hs2 : w2.heap.size = t + 3 := by subst ht hw2; simp
  have g0 : w2.heap[t]? = some (.cells #[.func (Fn.func 34) #[] #[]] 59 (0, 0)) := by
    subst ht hw2
    exact (Below.heap_alloc _ _ _ (by simp; omega)).trans ((Below.heap_alloc _ _ _ (by simp)).trans (heap_alloc_new w _))
  have g1 : w2.heap[t + 1]? = some (.cells #[.slice none 0 0] 25 (0, 0)) := by
    subst ht hw2
    have := heap_alloc_new (w.alloc (.cells #[.func (Fn.func 34) #[] #[]] 59)) (.cells #[.slice none 0 0] 25)
    rw [show (w.alloc (.cells #[.func (Fn.func 34) #[] #[]] 59)).heap.size = w.heap.size + 1 by simp] at this
    exact (Below.heap_alloc _ _ _ (by simp)).trans this
  have g2 : w2.heap[t + 2]? = some (.cells #[.int .i64 0] 3 (0, 0)) := by
    subst ht hw2
    have := heap_alloc_new ((w.alloc (.cells #[.func (Fn.func 34) #[] #[]] 59)).alloc (.cells #[.slice none 0 0] 25)) (.cells #[.int .i64 0] 3)
    rw [show ((w.alloc (.cells #[.func (Fn.func 34) #[] #[]] 59)).alloc (.cells #[.slice none 0 0] 25)).heap.size = w.heap.size + 2 by simp] at this
    exact this
  rw [hw2, ht]
  rw [ht] at hcl hbl
  refine range_law (n := 3) (gf := 46) (lb := #[.pointer (some ⟨b, 0, none⟩)]) rfl (enters_of Try.func46 (by kernel_rfl) rfl) ?_
  intro fn W0 rec hrec hW0
  rw [hs2] at hrec ⊢
  have hB0 : Below w2.heap.size w2 W0 := by rw [hW0]; exact ((Below.refl _ w2).alloc (Nat.le_refl _) _).alloc (by simp) _
  have hD : W0.heap[t + 3]? = some (.deferred (some [])) := by rw [hW0, ← hs2]; exact (Below.heap_alloc _ _ _ (by simp)).trans (heap_alloc_new w2 _)
  have hL : W0.heap[t + 4]? = some (.loop (rec .ready none)) := by
    have := heap_alloc_new (w2.alloc (.deferred (some []))) (.loop (rec .ready none))
    rw [← hW0] at this
    simpa [hs2] using this
  have hs0 : W0.heap.size = t + 5 := by rw [hW0]; simp [hs2]
  have HJ0 : Hid (PJ xs t rec W0 0 W0) := ⟨rfl, rfl, rfl, Nat.le_of_eq hs0.symm, fun _ _ => rfl, below_blk hB0 g0, coil_nil_base (B := 0) (below_blk hB0 g1), below_blk hB0 g2, ⟨hL, hD⟩⟩
  have HB0 : Hid (Below t w W0) := hB2.trans (hB0.mono (by omega))
  clear hB2 hB0 hD hL hW0 hw2 g0 g1 g2
  have HT := Lib.hid ht
  clear ht
  refine (values_any (t + 4) 3 a xs.length cap xs rfl (by omega) b (fun i W => PJ xs t rec W0 i W) (fun i W h => ?_) ?_ W0 HJ0.out).mono ?_
  · have hw : ∀ k, k < t → W.heap[k]? = w.heap[k]? := fun k hk => (h.block k hk).trans (HB0.out.block k hk)
    have hbk := (hw b hbl).trans HC.out.2.1
    refine ⟨by simp [World.cell?, hbk], fun i v hv => ?_⟩
    obtain ⟨g, o, e, hcc⟩ := HC.out.2.2.1 i v hv
    have hg : g < t := by rw [← HT.out]; exact cell_block hcc
    exact ⟨g, o, e, (World.cell?_of_block (hw g hg)).trans hcc⟩
  · intro i x W hx h
    refine yield_of (n := 3) hrec h.ready rfl ?_
    have H := Lib.hid h
    have HX := Lib.hid hx
    clear h hrec hx
    gi_wp2
    refine ⟨H.out.ready, ?_⟩
    have hsz := H.out.size
    have hin : i < xs.length := (List.getElem?_eq_some_iff.1 HX.out).1
    have keep : ∀ k, k ≠ t + 4 → (W.putObj (t + 4) (.loop (rec .busy none))).heap[k]? = W.heap[k]? := fun k hk => World.putObj_heap_other hk
    have hBu : Busy (W.putObj (t + 4) (.loop (rec .busy none))) (t + 4) (t + 3) rec := ⟨World.putObj_heap_same (Array.getElem?_eq_some_iff.1 H.out.ready.1).1, (keep (t + 3) (by omega)).trans H.out.ready.2⟩
    have hVs : (W.putObj (t + 4) (.loop (rec .busy none))).heap.size = W.heap.size := by simp
    have hVo : (W.putObj (t + 4) (.loop (rec .busy none))).os = W0.os ∧ (W.putObj (t + 4) (.loop (rec .busy none))).tape = W0.tape ∧ (W.putObj (t + 4) (.loop (rec .busy none))).output = W0.output := ⟨H.out.os, H.out.tape, H.out.output⟩
    obtain ⟨V, hV⟩ : ∃ V, W.putObj (t + 4) (.loop (rec .busy none)) = V := ⟨_, rfl⟩
    rw [hV] at keep hBu hVs hVo ⊢
    have hone := (keep t (by omega)).trans H.out.one
    have hit : CoilAt V (t + 5) (t + 1) (ens (xs.take i)) := by
      obtain ⟨v, h1, h2⟩ := H.out.items
      exact ⟨v, (keep (t + 1) (by omega)).trans h1, own_same h2 fun k hk => keep k (by have := (h2.lt k hk).1; omega)⟩
    have HV := Lib.hid (⟨keep, hBu, hVs, hVo, hit⟩ : _ ∧ _ ∧ _ ∧ _ ∧ _)
    have c0 : V.cell? ⟨t, 0, none⟩ = some (.func (Fn.func 34) #[] #[]) := by simp [World.cell?, hone]
    clear keep hBu hVs hVo hit hone hV
    gi_wp2_with fail
    refine ⟨trivial, callsIn_wide.2 ((one_any (t + 1) (t + 5) (ens (xs.take i)) x V HV.out.2.2.2.2 (by omega) (by rw [HV.out.2.2.1]; exact H.out.size) (by have := HC.out.2.2.2.2 i; omega) (HC.out.2.2.2.1 x (List.mem_of_getElem? HX.out))).mono ?_)⟩
    rintro e V2 ⟨rfl, hc2, ht2⟩
    have h22 := (ht2.block (t + 2) (by omega) (by omega)).trans ((HV.out.1 (t + 2) (by omega)).trans H.out.num)
    have c2 : V2.cell? ⟨t + 1 + 1, 0, none⟩ = some (.int .i64 (i : Int)) := by simp [World.cell?, h22]
    have f2 : V2.frozen? ⟨t + 1 + 1, 0, none⟩ = false := by simp [World.frozen?, h22]
    have H2 := Lib.hid (⟨hc2, ht2, h22⟩ : _ ∧ _ ∧ _)
    clear hc2 ht2 h22 c0
    gi_wp2
    obtain ⟨V3, hV3⟩ : ∃ V3, V2.setCell ⟨t + 1 + 1, 0, none⟩ (.int .i64 ((i : Int) + 1)) = V3 := ⟨_, rfl⟩
    have k3 : ∀ k, k ≠ t + 2 → V3.heap[k]? = V2.heap[k]? := fun k hk => by rw [← hV3]; exact Below.heap_setCell _ _ _ _ hk
    have n3 : V3.heap[t + 2]? = some (.cells #[.int .i64 ((i : Int) + 1)] 3 (0, 0)) := by
      have := block_setCell (i := 0) H2.out.2.2 (.int .i64 ((i : Int) + 1))
      rw [← hV3]; simpa using this
    have s3 : V3.heap.size = V2.heap.size := by rw [← hV3]; simp [World.setCell]
    have o3 : V3.os = V2.os ∧ V3.tape = V2.tape ∧ V3.output = V2.output := by rw [← hV3]; exact ⟨rfl, rfl, rfl⟩
    rw [hV3]
    have hb3 : V3.heap[t + 4]? = some (.loop (rec .busy none)) := (k3 _ (by omega)).trans ((H2.out.2.1.block _ (by omega) (by omega)).trans HV.out.2.1.1)
    have hd3 : V3.heap[t + 3]? = some (.deferred (some [])) := (k3 _ (by omega)).trans ((H2.out.2.1.block _ (by omega) (by omega)).trans HV.out.2.1.2)
    have kk : ∀ k, k < t + 5 → k ≠ t + 1 → k ≠ t + 2 → k ≠ t + 4 → (V3.putObj (t + 4) (.loop (rec .ready none))).heap[k]? = W.heap[k]? := fun k h1 h2 h3 h4 =>
      (World.putObj_heap_other h4).trans ((k3 k h3).trans ((H2.out.2.1.block k h1 h2).trans (HV.out.1 k h4)))
    refine ⟨⟨hb3, hd3⟩, rfl, ⟨?_, ?_, ?_, ?_, fun k hk => ?_, ?_, ?_, ?_, ⟨World.putObj_heap_same (Array.getElem?_eq_some_iff.1 hb3).1, (World.putObj_heap_other (show t + 3 ≠ t + 4 by omega)).trans hd3⟩⟩⟩
    · exact o3.1.trans (H2.out.2.1.os.trans HV.out.2.2.2.1.1)
    · exact o3.2.1.trans (H2.out.2.1.tape.trans HV.out.2.2.2.1.2.1)
    · exact o3.2.2.trans (H2.out.2.1.output.trans HV.out.2.2.2.1.2.2)
    · have h1 := H2.out.2.1.size
      have h2 := HV.out.2.2.1
      simp only [World.putObj_size]
      omega
    · rw [kk k (by omega) (by omega) (by omega) (by omega)]; exact H.out.block k hk
    · rw [kk t (by omega) (by omega) (by omega) (by omega)]; exact H.out.one
    · obtain ⟨v, h1, h2⟩ := H2.out.1
      rw [ens_snoc HX.out]
      refine ⟨v, (World.putObj_heap_other (show t + 1 ≠ t + 4 by omega)).trans ((k3 _ (by omega)).trans h1), own_same h2 fun k hk => ?_⟩
      have := (h2.lt k hk).1
      exact (World.putObj_heap_other (by omega)).trans (k3 k (by omega))
    · rw [World.putObj_heap_other (show t + 2 ≠ t + 4 by omega), n3]; simp
  · rintro e W ⟨rfl, hJ⟩
    clear hrec
    refine ⟨⟨_, rfl⟩, .inl ⟨hJ.ready, ?_⟩⟩
    have hit := hJ.items
    rw [List.take_length] at hit
    have hsz := hJ.size
    have keep : ∀ k, k ≠ t + 4 → (W.putObj (t + 4) (.loop (rec .exhausted none))).heap[k]? = W.heap[k]? := fun k hk => World.putObj_heap_other hk
    have hVs : (W.putObj (t + 4) (.loop (rec .exhausted none))).heap.size = W.heap.size := by simp
    have hVo : (W.putObj (t + 4) (.loop (rec .exhausted none))).os = w.os ∧ (W.putObj (t + 4) (.loop (rec .exhausted none))).tape = w.tape ∧ (W.putObj (t + 4) (.loop (rec .exhausted none))).output = w.output := ⟨hJ.os.trans HB0.out.os, hJ.tape.trans HB0.out.tape, hJ.output.trans HB0.out.output⟩
    obtain ⟨V, hV⟩ : ∃ V, W.putObj (t + 4) (.loop (rec .exhausted none)) = V := ⟨_, rfl⟩
    rw [hV] at keep hVs hVo ⊢
    have hold : ∀ k, k < t → V.heap[k]? = w.heap[k]? := fun k hk => (keep k (by omega)).trans ((hJ.block k hk).trans (HB0.out.block k hk))
    have hnum := (keep (t + 2) (by omega)).trans hJ.num
    have c2 : V.cell? ⟨t + 1 + 1, 0, none⟩ = some (.int .i64 (xs.length : Int)) := by simp [World.cell?, hnum]
    have hitV : CoilAt V (t + 5) (t + 1) (ens xs) := by
      obtain ⟨v, h1, h2⟩ := hit
      exact ⟨v, (keep (t + 1) (by omega)).trans h1, own_same h2 fun k hk => keep k (by have := (h2.lt k hk).1; omega)⟩
    have HV := Lib.hid (⟨hold, hVo, hitV, (keep (t + 3) (by omega)).trans hJ.ready.2, (hold c hcl).trans HC.out.1⟩ : _ ∧ _ ∧ _ ∧ _ ∧ _)
    have hVl : t + 5 ≤ V.heap.size := by omega
    have hvk : V.heap.size = V.heap.size := rfl
    clear hit keep hVs hVo hold hnum hitV hV hsz hvk hJ
    have hlen := HC.out.2.2.2.2 xs.length
    rw [List.take_length] at hlen
    have HLEN := Lib.hid hlen
    clear hlen
    go_wp2_with fail
    refine (up_any c V.heap.size [] xs.length V (by omega) (coil_nil_base (B := 0) HV.out.2.2.2.2) (by omega) (Nat.le_refl _) (by simp)).mono ?_
    rintro e V2 ⟨rfl, hc2, ht2⟩
    rw [List.nil_append] at hc2
    have hi2 := coil_other HV.out.2.2.1 ht2 (by omega) (by omega)
    have hd2 := (ht2.block (t + 3) (by omega) (by omega)).trans HV.out.2.2.2.1
    obtain ⟨v1, p1, o1⟩ := hc2
    obtain ⟨v2, p2, o2⟩ := hi2
    have hul := up_len9 xs.length (by omega)
    have hup : 0 < (up xs.length).length := by rw [up_len]; exact len_pos _
    obtain ⟨ao1, cap1, rfl⟩ := own_form o1
    obtain ⟨ao2, cap2, rfl⟩ := own_form o2
    have HEL := Lib.hid HLEN.out
    generalize hbs : up xs.length = bs at *
    have HBS := Lib.hid hbs
    generalize hcs : ens xs = cs at *
    have HCS := Lib.hid hcs
    clear hbs hcs
    have H2 := Lib.hid (⟨p1, o1, p2, o2, hd2, ht2⟩ : _ ∧ _ ∧ _ ∧ _ ∧ _ ∧ _)
    have d1 : V2.cell? ⟨c, 0, none⟩ = some (.slice ao1 bs.length cap1) := by simp [World.cell?, p1]
    have d2 : V2.cell? ⟨t + 1, 0, none⟩ = some (.slice ao2 cs.length cap2) := by simp [World.cell?, p2]
    have d3 : V2.frozen? ⟨c, 0, none⟩ = false := by simp [World.frozen?, p1]
    have hs2 : V.heap.size ≤ V2.heap.size := ht2.size
    clear p1 o1 p2 o2 hd2 ht2 c2
    go_wp2_with fail
    refine wp_mono (Q := fun e a W' => e = .normal ∧ a.defers = [{ target := .collected (t + 3), args := #[] }] ∧ CoilAt W' V.heap.size c (bs ++ cs) ∧ TouchB c V.heap.size V2 W' ∧ W'.heap[t + 3]? = some (.deferred (some []))) ?_ ?_
    rotate_left
    · rintro e a W' ⟨rfl, hdf, q1, q2, q3⟩
      refine end_mark (.inl rfl) hdf q3 ⟨_, results_none rfl _ _ _, rfl, ?_, ?_⟩
      · rw [HT.out, HBS.out, HCS.out]
        obtain ⟨v, r1, r2⟩ := q1
        refine ⟨v, (World.putObj_heap_other (show c ≠ t + 3 by omega)).trans r1, own_same (own_base r2 (by omega)) fun k hk => World.putObj_heap_other ?_⟩
        have := (r2.lt k hk).1
        omega
      · rw [HT.out]
        refine ⟨q2.os.trans (H2.out.2.2.2.2.2.os.trans HV.out.2.1.1), q2.tape.trans (H2.out.2.2.2.2.2.tape.trans HV.out.2.1.2.1), q2.output.trans (H2.out.2.2.2.2.2.output.trans HV.out.2.1.2.2), ?_, fun k hk hne => ?_⟩
        · have := q2.size
          rw [HT.out]
          simp only [World.putObj_size]
          omega
        · exact (World.putObj_heap_other (show k ≠ t + 3 by omega)).trans ((q2.block k (by omega) hne).trans ((H2.out.2.2.2.2.2.block k (by omega) hne).trans (HV.out.1 k hk)))
    go_region_law (
      refine step_append_row rfl (.tmp 24) (.tmp 26) rfl V.heap.size (t + 5) bs cs _ _ (by simp [Act.eval, Act.put]) H2.out.2.1 hup (by simp [Act.eval, Act.put]) H2.out.2.2.2.1 (by have := HEL.out; omega) hs2 ?_
      intro ao3 cap3 w3 hown3 hg3
      obtain ⟨q1, q2, q3, q4⟩ := coil_grow (w0 := V2) H2.out.1 H2.out.2.1 ⟨rfl, rfl, rfl, Nat.le_refl _, fun _ _ _ => rfl⟩ hs2 (show c < V.heap.size by omega) (Below.refl V2.heap.size V2).drew rfl hown3 hg3
      rw [List.length_append] at q3 q4
      have HQ := Lib.hid (⟨q3, q4⟩ : _ ∧ _)
      clear q3 q4 hown3 hg3)
    all_goals
      exact ⟨rfl, rfl, HQ.out.1, HQ.out.2, (HQ.out.2.block (t + 3) (by omega) (by omega)).trans H2.out.2.2.2.2.1⟩

theorem infoE : (Try.prog.info? 9).map (fun i => (i.zero, i.size, i.bytes)) = some (some (.string ⟨#[]⟩), 1, 16) := by kernel_rfl
theorem vals_one (l : List ByteArray) : ∀ u ∈ l.map (Value.string), u.oneCell' = true := by
  intro u hu
  simp only [List.mem_map] at hu
  obtain ⟨b, _, rfl⟩ := hu
  rfl
theorem taken_any (r : Nat) (bs : List Nat) (w : World) (hb8 : Oct bs) (hlen : bs.length ≤ 1000000) (h : ReelAt w r r bs 0) :
    Calls Try.prog 31 #[.pointer (some ⟨r, 0, none⟩)] w fun e w' => e = .returned ((Value.string) (oneS bs).1) ∧ ReelAt w' r r (oneS bs).2.1 (oneS bs).2.2 ∧ Touch r w w' := by
  have HT := Lib.hid (text_take r r bs 0 300 w hb8 hlen h (Nat.le_refl r))
  clear h hb8
  unfold oneS
  go_enter Try.func31, Try.ntmps31
  go_wp2_with fail
  refine HT.out.mono ?_
  rintro e w' ⟨rfl, h1, h2⟩
  have H := Lib.hid (⟨h1, h2⟩ : _ ∧ _)
  clear h1 h2
  go_wp2
  go_ret
  exact ⟨rfl, H.out.1, H.out.2⟩
/-- i items were taken -/
def KR (w : World) (r n : Nat) (most : Int) (bs0 : List Nat) (out iv : Value) (wr : World) : Prop :=
  ∃ (i : Nat) (acc : List ByteArray) (bs : List Nat) (f : Int), i ≤ n ∧ iv = .int .i64 i ∧ acc.length = i ∧ wr.ownsRow w.heap.size 9 1 out acc.length (acc.map (Value.string)) ∧ ReelAt wr r r bs f ∧ Touch r w wr ∧ Oct bs ∧ bs.length ≤ 1000000 ∧
    (f ≠ 0 → n = 0) ∧ takeT oneS most bs0 = (if f = 0 then goT oneS (n - i) bs acc else ([], bs, f))

set_option maxRecDepth 100000 in
set_option maxHeartbeats 16000000 in
theorem take_any (r : Nat) (bs0 : List Nat) (most : Int) (w : World) (hb8 : Oct bs0) (hlen : bs0.length ≤ 1000000) (h : ReelAt w r r bs0 0) (hn : (upS most bs0 0).1 ≤ 1000) :
    Calls Try.prog 30 #[.pointer (some ⟨r, 0, none⟩), .int .i64 most, .func (Fn.func 31) #[] #[]] w fun e w' => ∃ v, e = .returned v ∧ w'.ownsRow w.heap.size 9 1 v (takeT oneS most bs0).1.length ((takeT oneS most bs0).1.map (Value.string)) ∧
      ReelAt w' r r (takeT oneS most bs0).2.1 (takeT oneS most bs0).2.2 ∧ Touch r w w' := by
  obtain ⟨i0, hi, hzz⟩ := Option.map_eq_some_iff.1 infoE
  simp only [Prod.mk.injEq] at hzz
  have hrl : r < w.heap.size := by obtain ⟨_, _, h, _⟩ := h.ex; exact (Array.getElem?_eq_some_iff.1 h).1
  have HU := Lib.hid (up_take r r bs0 0 most w hb8 hlen h (Nat.le_refl r))
  have hcode := upS_code most bs0 0
  have HT : Hid (takeT oneS most bs0 = if (upS most bs0 0).2.2 = 0 then goT oneS (upS most bs0 0).1 (upS most bs0 0).2.1 [] else ([], (upS most bs0 0).2.1, (upS most bs0 0).2.2)) := rfl
  have HO : Hid (Oct (upS most bs0 0).2.1 ∧ (upS most bs0 0).2.1.length ≤ 1000000) := ⟨upS_oct hb8, Nat.le_trans (upS_len _ _ _) hlen⟩
  clear h hb8
  generalize upS most bs0 0 = q at *
  obtain ⟨n, bs1, f1⟩ := q
  simp only at HU hcode HT HO hn
  have HCD := Lib.hid hcode
  clear hcode
  go_enter Try.func30, Try.ntmps30
  go_wp2_with fail
  refine HU.out.mono ?_
  rintro e w1 ⟨rfl, hr1, ht1⟩
  have H1 : Hid (KR w r n most bs0 (.slice none 0 0) (.int .i64 0) w1) := ⟨0, [], bs1, f1, by omega, rfl, rfl, World.ownsRow_nil _ _ _ _, hr1, ht1, HO.out.1, HO.out.2, fun h => HCD.out.resolve_left h, by rw [HT.out]; rfl⟩
  clear hr1 ht1 HU HT HO HCD
  go_wp2_with fail
  go_loopw [7, 12] (KR w r n most bs0) (fun _ iv _ => n - (intOf iv).toNat)
  case atStart => exact H1.out
  case round =>
    obtain ⟨i, acc, bs, f, hin, rfl, hai, hown, hre, hto, hoc, hle, hfn, htk⟩ := hrel
    have HR := Lib.hid (⟨hai, hown, hre, hto, hoc, hle, hfn, htk⟩ : _ ∧ _ ∧ _ ∧ _ ∧ _ ∧ _ ∧ _ ∧ _)
    obtain ⟨ao, cap, rfl⟩ := own_form hown
    clear H1 hai hown hre hto hoc hle hfn htk
    by_cases hlt : i < n
    · have hf : f = 0 := by
        rcases Decidable.em (f = 0) with h | h
        · exact h
        · have := HR.out.2.2.2.2.2.2.1 h; omega
      subst hf
      have HON := Lib.hid (taken_any r bs wr HR.out.2.2.2.2.1 HR.out.2.2.2.2.2.1 HR.out.2.2.1)
      have HOK := Lib.hid (oneS_ok HR.out.2.2.2.2.1)
      have hgo : (takeT oneS most bs0 = if (oneS bs).2.2 = 0 then goT oneS (n - (i + 1)) (oneS bs).2.1 (acc ++ [(oneS bs).1]) else ([], (oneS bs).2.1, (oneS bs).2.2)) := by
        rw [HR.out.2.2.2.2.2.2.2, if_pos rfl, show n - i = (n - (i + 1)) + 1 by omega, goT]
      have HGO := Lib.hid hgo
      clear hgo
      generalize oneS bs = q at *
      obtain ⟨x, bs2, f2⟩ := q
      simp only at HON HOK HGO
      go_wp2_with fail
      refine HON.out.mono ?_
      rintro e w2 ⟨rfl, hr2, ht2⟩
      have c2 := reel_cell hr2
      have hsz2 : w.heap.size ≤ w2.heap.size := Nat.le_trans HR.out.2.2.2.1.size ht2.size
      have ho2 : w2.ownsRow w.heap.size 9 1 (.slice ao acc.length cap) acc.length (acc.map (Value.string)) := own_same HR.out.2.1 fun k hk => ht2.block k (HR.out.2.1.lt k hk).2 (by have := (HR.out.2.1.lt k hk).1; omega)
      have H2 := Lib.hid (⟨hr2, HR.out.2.2.2.1.trans ht2, ho2⟩ : _ ∧ _ ∧ _)
      clear hr2 ht2 ho2
      by_cases hf : f2 = 0
      · subst hf
        have HB3 := Lib.hid ((Below.refl w2.heap.size w2).alloc (Nat.le_refl _) (.cells #[(Value.string) x] 9))
        have HO3 := Lib.hid (own_below H2.out.2.2 HB3.out)
        have hal : acc.length = i := HR.out.1
        have HAL := Lib.hid hal
        clear hal
        go_wp2_with (first
          | (at_builtin
             refine wpList_append_own _ rfl _ _ 45 rfl w.heap.size 9 i0 _ 1 16 Try.underlying45 hi hzz.1 hzz.2.1 hzz.2.2 rfl (by omega) _ acc.length _ rfl HO3.out ⟨w2.heap.size, 0, none⟩ 1 1 [(Value.string) x] rfl rfl (World.news_of_block (heap_alloc_new w2 _)) (by intro u hu; simp at hu; subst hu; rfl) (by have := HAL.out; unfold maxLen; omega) (by have := HAL.out; omega) (by simp; omega) ?_)
          | fail)
        intro v3 w3 hown3 hg3 _
        have keep : ∀ k, k < w2.heap.size → (∀ j, (Value.slice ao acc.length cap).ownBlock = some j → k ≠ j) → w3.heap[k]? = w2.heap[k]? := fun k hk hj => by
          rw [hg3.block k (by simp; omega) (fun e => hj k e.symm rfl)]
          exact HB3.out.block k hk
        have hold : ∀ j, (Value.slice ao acc.length cap).ownBlock = some j → w.heap.size ≤ j := fun j hj => (H2.out.2.2.lt j hj).1
        have HT3 : Hid (Touch r w w3) := ⟨hg3.os.trans (HB3.out.os.trans H2.out.2.1.os), hg3.tape.trans (HB3.out.tape.trans H2.out.2.1.tape), hg3.output.trans (HB3.out.output.trans H2.out.2.1.output), by have := hg3.size; simp at this; omega, fun k hk hne => (keep k (by omega) (fun j hj => by have := hold j hj; omega)).trans (H2.out.2.1.block k hk hne)⟩
        have HR3 : Hid (ReelAt w3 r r bs2 0) := by
          obtain ⟨a, cp, q1, q2, q3, q4, q5⟩ := H2.out.1.ex
          refine ⟨a, cp, (keep r (by omega) (fun j hj => by have := hold j hj; omega)).trans q1, q2, q3, fun j y hy => ?_, q5⟩
          obtain ⟨g, o, e, hc⟩ := q4 j y hy
          have hg := q5 _ e
          simp only at hg
          exact ⟨g, o, e, (World.cell?_of_block (keep g (by omega) (fun j hj => by have := hold j hj; omega))).trans hc⟩
        have HO4 : Hid (w3.ownsRow w.heap.size 9 1 v3 (acc ++ [x]).length ((acc ++ [x]).map (Value.string))) := by
          rw [List.length_append, List.map_append]; exact hown3
        clear hown3 hg3 keep hold c2
        go_wp2
        refine ⟨⟨i + 1, acc ++ [x], bs2, 0, by omega, by go_num, by rw [List.length_append, HAL.out]; rfl, HO4.out, HR3.out, HT3.out, HOK.out.1, Nat.le_trans HOK.out.2 HR.out.2.2.2.2.2.1, fun h => absurd rfl h, HGO.out⟩, by simp [intOf]; omega⟩
      · have hfb : (f2 != 0) = true := by simpa using hf
        have HGF : Hid (takeT oneS most bs0 = ([], bs2, f2)) := (by rw [HGO.out, if_neg hf] : takeT oneS most bs0 = ([], bs2, f2))
        go_wp2
        go_ret
        rw [HGF.out]
        exact ⟨_, rfl, World.ownsRow_nil _ _ _ _, H2.out.1, H2.out.2.1⟩
    · obtain rfl : i = n := by omega
      have hgf : takeT oneS most bs0 = (acc, bs, f) := by
        have h := HR.out.2.2.2.2.2.2.2
        rw [Nat.sub_self] at h
        by_cases hf : f = 0
        · subst hf
          rw [h, if_pos rfl, goT]
        · rw [h, if_neg hf]
          have h1 := HR.out.2.2.2.2.2.2.1 hf
          have h2 := HR.out.1
          rw [show acc = [] from List.eq_nil_of_length_eq_zero (by omega)]
      have HGF := Lib.hid hgf
      clear hgf
      go_wp2
      go_ret
      rw [HGF.out]
      exact ⟨_, rfl, HR.out.2.1, HR.out.2.2.1, HR.out.2.2.2.1⟩

end Go.Proofs.Ytdgcafohfedbhaa.S
