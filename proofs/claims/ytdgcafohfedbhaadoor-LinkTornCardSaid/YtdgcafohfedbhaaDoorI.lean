import Derived.Test.YtdgcafohfedbhaaDoorH
namespace Go.Proofs.YtdgcafohfedbhaaDoor.T
open Go.RowKit Go.Joins
open Go.Proofs.YtdgcafohfedbhaaDoor.K
attribute [local go_sem] Oper.semAt_some
set_option linter.unusedVariables false
set_option linter.unusedSimpArgs false

theorem eqNil3 (ad : Addr) (n cap : Nat) (wx : World) : (binOp .eql 22 (.slice (some ad) n cap) (.slice none 0 0)).run Tryd.prog wx = .ok (.bool false) wx := by kernel_rfl
theorem eqNil4 (cap : Nat) (wx : World) : (binOp .eql 22 (.slice none 0 cap) (.slice none 0 0)).run Tryd.prog wx = .ok (.bool true) wx := by kernel_rfl
set_option maxHeartbeats 4000000 in
/-- slices.Clone, of whatever a slice shows -/
theorem clone_cut (B : Nat) (v : Value) (bs : List Nat) (w : World) (h : Cut w B v bs) (hl : bs.length ≤ 1000000) :
    Calls Tryd.prog 17 #[v] w fun e w' => ∃ v', e = .returned v' ∧ w'.ownsRow w.heap.size 5 1 v' bs.length (byts bs) ∧ Below w.heap.size w w' := by
  obtain ⟨a, cap, rfl, hs, hb⟩ := h
  cases a with
  | none =>
    have h0 : bs = [] := by
      rcases bs with _ | ⟨x, l⟩
      · rfl
      · obtain ⟨g, o, e, _⟩ := hs 0 x rfl
        cases e
    subst h0
    have q := eqNil4 cap
    clear hs hb
    simp only [List.length_nil]
    go_enter Tryd.func17, Tryd.ntmps17
    go_wp2
    go_ret
    exact ⟨_, rfl, World.ownsRow_nil _ _ _ _, Below.refl _ _⟩
  | some ad =>
    have HBE := Lib.hid ((Below.refl w.heap.size w).alloc (Nat.le_refl _) (.cells #[] 5))
    obtain ⟨v2, w2, hr, ho2, hg2⟩ := run_append_cut (w.alloc (.cells #[] 5)) w.heap.size w.heap.size (some ad) cap bs ⟨rfl, .inr ⟨w.heap.size, 0, #[], rfl, Nat.le_refl _, heap_alloc_new w _, Nat.le_refl _, by decide, rfl, rfl⟩⟩ (shows_below hs HBE.out) hl (by simp)
    have HR := Lib.hid hr
    have H2 : Hid (w2.ownsRow w.heap.size 5 1 v2 bs.length (byts bs) ∧ Below w.heap.size w w2) := ⟨ho2, HBE.out.grown hg2 (by simp) (fun k hk => Nat.le_of_eq (Option.some.inj hk))⟩
    obtain ⟨ao2, cap2, rfl⟩ := own_form ho2
    have q := eqNil3 ad bs.length cap
    clear hr ho2 hg2 hs hb
    go_enter Tryd.func17, Tryd.ntmps17
    go_wp2_with (first | (at_builtin; refine Lib.wpList_append_run_sl _ rfl _ _ 22 rfl _ _ rfl rfl HR.out ?_) | fail)
    go_wp2
    go_ret
    exact ⟨_, rfl, H2.out.1, H2.out.2⟩
theorem frames_mk (v : Value) (w : World) (hv : ∃ a n cap, v = .slice a n cap) :
    Calls Tryd.prog 16 #[v] w fun e w' => e = .returned (.func (Fn.func 22) #[] #[.pointer (some ⟨w.heap.size, 0, none⟩)]) ∧ w'.heap[w.heap.size]? = some (.cells #[v] 22 (0, 0)) ∧ Below w.heap.size w w' := by
  have hmf : ∀ (fn : Fn) (first cap : Array Value) (w : World), (Instr.makeFunc fn first cap).run Tryd.prog w = .ok (.func fn first cap) w := fun _ _ _ _ => rfl
  obtain ⟨a, n, cap, rfl⟩ := hv
  go_enter Tryd.func16, Tryd.ntmps16
  go_wp2
  go_ret
  exact ⟨rfl, heap_alloc_new w _, (Below.refl _ w).alloc (Nat.le_refl _) _⟩

/-! ### a chain -/
def chain (L : List (List Nat)) : List Nat := L.flatMap frm
def off (L : List (List Nat)) (i : Nat) : Nat := (chain (L.take i)).length
theorem chain_oct (L : List (List Nat)) (h : ∀ x ∈ L, Oct x) : Oct (chain L) := by
  induction L with
  | nil => exact Oct.nil
  | cons x L ih => exact (frm_oct (h x (by simp))).append (ih fun y hy => h y (by simp [hy]))
theorem chain_append (A B : List (List Nat)) : chain (A ++ B) = chain A ++ chain B := by simp [chain]
theorem chain_take (L : List (List Nat)) (i : Nat) : chain L = chain (L.take i) ++ chain (L.drop i) := by
  rw [← chain_append, List.take_append_drop]
theorem off_succ {L : List (List Nat)} {i : Nat} {x : List Nat} (h : L[i]? = some x) : off L (i + 1) = off L i + (frm x).length := by
  unfold off
  rw [take_snoc h, chain_append, List.length_append]
  simp [chain]
theorem drop_off (L : List (List Nat)) (i : Nat) (t : List Nat) : (chain L ++ t).drop (off L i) = chain (L.drop i) ++ t := by
  rw [chain_take L i, List.append_assoc]
  unfold off
  rw [List.drop_left]
theorem drop_off_cons {L : List (List Nat)} {i : Nat} {x : List Nat} (h : L[i]? = some x) (t : List Nat) : (chain L ++ t).drop (off L i) = frm x ++ (chain (L.drop (i + 1)) ++ t) := by
  rw [drop_off, drop_cons h]
  simp [chain]
theorem off_le (L : List (List Nat)) (i : Nat) : off L i ≤ (chain L).length := by
  rw [chain_take L i, List.length_append]; unfold off; omega
theorem off_all (L : List (List Nat)) : off L L.length = (chain L).length := by unfold off; rw [List.take_length]
theorem frm_pos (x : List Nat) : 4 ≤ (frm x).length := by rw [frm_len]; omega

set_option maxRecDepth 100000 in
set_option maxHeartbeats 16000000 in
/-- the frames, one by one: by a range over the function -/
theorem frames_any (l m : Nat) (a : Option Addr) (c : Nat) (L : List (List Nat)) (tail : List Nat) (b : Nat) (J : Nat → World → Prop) (ho : Oct (chain L ++ tail)) (hsm : ∀ x ∈ L, x.length ≤ 200000) (htl : (oneP tail).2.2 ≠ 0) (hl : (chain L ++ tail).length ≤ 1000000) (hc : (chain L ++ tail).length ≤ c) (hcm : c ≤ maxLen)
    (hJ : ∀ i W, J i W → W.cell? ⟨b, 0, none⟩ = some (.slice a (chain L ++ tail).length c) ∧ Shows W a (chain L ++ tail) ∧ (∀ ad, a = some ad → ad.block < W.heap.size) ∧ NibAt W)
    (hB : ∀ i W W', J i W → Below W.heap.size W W' → J i W')
    (hY : ∀ i x v W, L[i]? = some x → J i W → Cut W W.heap.size v x → YieldAt Fence.wide m Tryd.prog l #[.int .i64 (off L (i + 1) : Int), v] W fun e W' => e = .returned (.bool true) ∧ J (i + 1) W')
    (w : World) (h0 : J 0 w) :
    Calls Tryd.prog 22 #[.func (.yield l) #[] #[], .pointer (some ⟨b, 0, none⟩)] w fun e W' => e = .returned (.tuple #[]) ∧ J L.length W' := by
  refine (callsIn_wide (n := m + 1)).1 ?_
  refine callsIn_of_wp Tryd.func22 rfl trivial ?_ rfl
  simp only [Tryd.ntmps22, List.size_toArray, List.length_cons, List.length_nil, Nat.reduceAdd, Nat.reduceSub, Array.replicate_succ, Array.replicate_zero, List.push_toArray, List.append_toArray, List.nil_append, List.cons_append]
  have HO := Lib.hid (⟨ho, hsm, htl, hl, hc, hcm⟩ : _ ∧ _ ∧ _ ∧ _ ∧ _ ∧ _)
  have HJ := Lib.hid hJ
  have HB := Lib.hid hB
  have HY := Lib.hid hY
  have H0 := Lib.hid h0
  obtain ⟨N, hN⟩ : ∃ N, (chain L ++ tail).length = N := ⟨_, rfl⟩
  have HN := Lib.hid hN
  have hcm2 := hcm
  unfold maxLen at hcm2
  have hNc : N ≤ c := by rw [← hN]; exact hc
  have hNl : N ≤ 1000000 := by rw [← hN]; exact hl
  clear ho hsm htl hl hc hcm hJ hB hY h0 hN
  gi_wp2_with fail
  gi_loopw [3] (fun atv wr => ∃ i : Nat, i ≤ L.length ∧ atv = .int .i64 (off L i : Int) ∧ J i wr) (fun atv _ => N - (intOf atv).toNat)
  case atStart => exact ⟨0, by omega, rfl, H0.out⟩
  case round =>
    obtain ⟨i, hi, rfl, hJi⟩ := hrel
    have H := Lib.hid hJi
    clear H0 hJi
    have c0 := (HJ.out i wr H.out).1
    rw [HN.out] at c0
    have hoff : off L i ≤ N := by have := off_le L i; have := HN.out; rw [List.length_append] at this; omega
    have hdl : ((chain L ++ tail).drop (off L i)).length = N - off L i := by rw [List.length_drop, HN.out]
    by_cases hlt : off L i < N
    · obtain ⟨g, o, rfl, hg0⟩ := (HJ.out i wr H.out).2.1 0 _ (List.getElem?_eq_getElem (by rw [HN.out]; omega))
      clear hg0
      have hsh := (HJ.out i wr H.out).2.1.drop (off L i)
      have hgl : g < wr.heap.size := (HJ.out i wr H.out).2.2.1 _ rfl
      have HONE := Lib.hid (one_any (some ⟨g, o + off L i, none⟩) (c - off L i) ((chain L ++ tail).drop (off L i)) wr ⟨_, _, rfl, hsh, fun ad e => by cases e; exact hgl⟩ (HO.out.1.drop _) (by rw [hdl]; omega) (by rw [hdl]; omega) (by unfold maxLen; omega) (HJ.out i wr H.out).2.2.2)
      rw [hdl] at HONE
      clear hsh hgl
      by_cases hiL : i < L.length
      · obtain ⟨x, hx⟩ : ∃ x, L[i]? = some x := ⟨_, List.getElem?_eq_getElem hiL⟩
        have hP : oneP ((chain L ++ tail).drop (off L i)) = (x, (frm x).length, 0) := by
          rw [drop_off_cons hx]
          exact oneP_frame x _ (HO.out.2.1 x (List.mem_of_getElem? hx))
        rw [hP] at HONE
        simp only at HONE
        have hsum := off_succ hx
        have hoff1 : off L (i + 1) ≤ N := by have := off_le L (i + 1); have := HN.out; rw [List.length_append] at this; omega
        have HX := Lib.hid hx
        have HOF : Hid (off L i = off L i) := rfl
        have hfp := frm_pos x
        clear hP hdl hx
        obtain ⟨p1, hp1⟩ : ∃ p1, off L (i + 1) = p1 := ⟨_, rfl⟩
        have HP1 := Lib.hid hp1
        rw [hp1] at hsum hoff1
        clear hp1 HOF
        generalize off L i = p0 at *
        generalize (frm x).length = n0 at *
        have e0 : (p0 : Int) + (n0 : Int) = (p1 : Int) := by omega
        have hlt1 : (p0 : Int) < (N : Int) := by omega
        have hlt0 : (0 : Int) ≤ (p0 : Int) := by omega
        have hlc : (p0 : Int) ≤ (c : Int) := by omega
        have hne : ¬ c = p0 := by omega
        clear hsum
        gi_wp2_with fail
        refine ⟨trivial, callsIn_wide.2 (HONE.out.mono ?_)⟩
        rintro e w1 ⟨v, rfl, hcu, hb1⟩
        have H1 := Lib.hid (HB.out i wr w1 H.out hb1)
        obtain ⟨ac, cc, rfl, hcs, hcb⟩ := hcu
        obtain ⟨fn, tmps, assign, body, hy, hR⟩ := HY.out i x (.slice ac x.length cc) w1 HX.out H1.out ⟨ac, cc, rfl, hcs, hcb⟩
        rw [HP1.out] at hy
        clear hcs hcb hb1 c0 HONE H
        gi_wp2_with fail
        refine hR.mono ?_
        rintro e W' ⟨rfl, h⟩
        have H2 := Lib.hid h
        clear h hy hR
        gi_wp2
        exact ⟨⟨i + 1, by omega, by rw [HP1.out], H2.out⟩, by simp [intOf]; omega⟩
      · obtain rfl : i = L.length := by omega
        have hP : (chain L ++ tail).drop (off L L.length) = tail := by rw [off_all, List.drop_left]
        rw [hP] at HONE
        have htl := HO.out.2.2.1
        generalize oneP tail = q at *
        obtain ⟨pt, nt, ft⟩ := q
        simp only at HONE htl
        have hft : (ft != 0) = true := by simpa using htl
        clear hP hdl htl
        generalize off L L.length = p0 at *
        have hlt1 : (p0 : Int) < (N : Int) := by omega
        have hlt0 : (0 : Int) ≤ (p0 : Int) := by omega
        have hlc : (p0 : Int) ≤ (c : Int) := by omega
        have hne : ¬ c = p0 := by omega
        gi_wp2_with fail
        refine ⟨trivial, callsIn_wide.2 (HONE.out.mono ?_)⟩
        rintro e w1 ⟨v, rfl, ⟨ac, cc, rfl, _, _⟩, hb1⟩
        have H1 := Lib.hid (HB.out _ wr w1 H.out hb1)
        clear hb1 c0 HONE H
        gi_wp2
        refine ⟨(fun _ h => (by cases h)), ?_⟩
        gi_wp2
        exact bodyPost_ret (results_none rfl _ _ _) rfl ⟨rfl, H1.out⟩
    · have hiL : i = L.length := by
        rcases Nat.lt_or_ge i L.length with h | h
        · have h1 := off_succ (List.getElem?_eq_getElem h)
          have h2 := frm_pos L[i]
          have h3 := off_le L (i + 1)
          have h4 := HN.out
          rw [List.length_append] at h4
          omega
        · omega
      subst hiL
      have hlt1 : ¬ (off L L.length : Int) < (N : Int) := by omega
      gi_wp2
      exact bodyPost_end (results_none rfl _ _ _) rfl ⟨rfl, H.out⟩
end Go.Proofs.YtdgcafohfedbhaaDoor.T
