import Derived.Test.YtdgcafohfedbhaaDoorR
namespace Go.Proofs.YtdgcafohfedbhaaDoor.T
open Go.RowKit Go.Joins
open Go.Proofs.YtdgcafohfedbhaaDoor.K
attribute [local go_sem] Oper.semAt_some
set_option linter.unusedVariables false
set_option linter.unusedSimpArgs false

/-- an append of a builtin that is guarded, by its run -/
theorem wpList_append_guarded {ops : Array Oper} {rest : List Oper} {o : Oper} {a : Act} {w w' : World} {Q : Exit → Act → World → Prop} (s x : Operand) (t : TypeId) (v v2 v' : Value)
    (ho : o.op = .call { callee := .builtin .append, args := #[s, x], argTypes := #[t, t] }) (hw : Region.wanted o (yielded ops a.tmps) = true) (hs : a.eval s = v) (hx : a.eval x = v2)
    (hr : (Builtin.append_ #[t, t] o.type #[v, v2]).run Tryd.prog w = .ok v' w') (h : wpList Tryd.prog ops Q rest (a.put o.dst v') w') : wpList Tryd.prog ops Q (o :: rest) a w := by
  show (if Region.wanted o (yielded ops a.tmps) = true then _ else _)
  rw [if_pos hw]
  refine .inl ?_
  unfold Oper.wp execOp
  simp only [ho, resolve, invoke, builtin, Sem.run_bind, Sem.run_pure, Result.andThen_ok, List.map_toArray, List.map_cons, List.map_nil, hs, hx, hr]
  exact h

theorem own_apart {W W' : World} {B n s e e' : Nat} {v : Value} {xs : List Value} {row : Option Nat} (hne : e ≠ e') (h : W.ownsRow B e s v n xs) (hg : W.grownBy W' row) (hr : ∀ k, row = some k → ∃ cur, W.heap[k]? = some (.cells cur e' (0, 0))) : W'.ownsRow B e s v n xs := by
  rcases h.2 with ⟨rfl, h0⟩ | ⟨g, cap, cur, rfl, hB, hh, r⟩
  · exact ⟨h.1, .inl ⟨rfl, h0⟩⟩
  · refine own_same h fun k hk => hg.block k (h.lt k hk).2 (fun e => ?_)
    obtain ⟨cur', hc⟩ := hr k e.symm
    have e2 : g = k := Option.some.inj hk
    subst e2
    rw [hh] at hc
    cases hc
    exact hne rfl

/-! ### plain: where the chain is cut -/
theorem off_cons (x : List Nat) (L : List (List Nat)) (i : Nat) : off (x :: L) (i + 1) = (frm x).length + off L i := by
  unfold off
  simp [chain]
theorem chain_cons (x : List Nat) (L : List (List Nat)) : chain (x :: L) = frm x ++ chain L := by simp [chain]
theorem off_zero (L : List (List Nat)) : off L 0 = 0 := by simp [off, chain]
theorem cut_at (L : List (List Nat)) (k : Nat) (hk : k ≤ (chain L).length) (hl : ∀ x ∈ L, x.length ≤ 200000) :
    ∃ m tail, m ≤ L.length ∧ (chain L).take k = chain (L.take m) ++ tail ∧ (oneP tail).2.2 = 17 ∧ off L m ≤ k ∧ (m < L.length → k < off L (m + 1)) := by
  induction L generalizing k with
  | nil =>
    have h0 : k = 0 := by simpa [chain] using hk
    subst h0
    exact ⟨0, [], by simp, rfl, rfl, by simp [off, chain], fun h => by simp at h⟩
  | cons x L ih =>
    rw [chain_cons, List.length_append] at hk
    by_cases h : k < (frm x).length
    · refine ⟨0, (frm x).take k, by omega, ?_, ?_, by rw [off_zero]; omega, fun _ => by rw [off_cons, off_zero]; omega⟩
      · rw [chain_cons, List.take_append_of_le_length (by omega)]
        simp [chain]
      · rw [oneP_torn x k (hl x (by simp)) h]
    · obtain ⟨m, tail, h1, h2, h3, h4, h5⟩ := ih (k - (frm x).length) (by omega) (fun y hy => hl y (by simp [hy]))
      refine ⟨m + 1, tail, by simp; omega, ?_, h3, by rw [off_cons]; omega, fun h6 => ?_⟩
      · rw [chain_cons, List.take_append, List.take_of_length_le (by omega), h2, List.take_succ_cons, chain_cons, List.append_assoc]
      · have := h5 (by simpa using h6)
        rw [off_cons]
        omega
theorem off_mono (L : List (List Nat)) {i j : Nat} (h : i ≤ j) : off L i ≤ off L j := by
  have e : L.take i = (L.take j).take i := by rw [List.take_take, Nat.min_eq_left h]
  have h1 := off_le (L.take j) i
  unfold off at h1 ⊢
  rw [← e] at h1
  exact h1
theorem off_take (L : List (List Nat)) {i m : Nat} (h : i ≤ m) : off (L.take m) i = off L i := by
  unfold off
  rw [List.take_take, Nat.min_eq_left h]
theorem chain_len (L : List (List Nat)) (h : ∀ x ∈ L, x.length ≤ 200) : (chain L).length ≤ 213 * L.length := by
  induction L with
  | nil => simp [chain]
  | cons x L ih =>
    have h1 := frm_len x
    have h2 := h x (by simp)
    have h3 := up_len9 x.length (by omega)
    have h4 := ih (fun y hy => h y (by simp [hy]))
    rw [chain_cons, List.length_append, List.length_cons]
    omega
/-- the places behind the frames -/
def ends (L : List (List Nat)) (i : Nat) : List Value := (List.range i).map fun j => Value.int .i64 (off L (j + 1) : Int)
theorem ends_snoc (L : List (List Nat)) (i : Nat) : ends L (i + 1) = ends L i ++ [Value.int .i64 (off L (i + 1) : Int)] := by
  simp [ends, List.range_succ]
theorem ends_get (L : List (List Nat)) {i j : Nat} (h : j < i) : (ends L i)[j]? = some (.int .i64 (off L (j + 1) : Int)) := by
  simp [ends, h]
theorem ends_length (L : List (List Nat)) (i : Nat) : (ends L i).length = i := by simp [ends]
theorem ends_one (L : List (List Nat)) (i : Nat) : ∀ u ∈ ends L i, u.oneCell' = true := by
  intro u hu
  simp only [ends, List.mem_map] at hu
  obtain ⟨j, _, rfl⟩ := hu
  rfl
theorem info3 : (Tryd.prog.info? 3).map (fun i => (i.zero, i.size, i.bytes)) = some (some (.int .i64 0), 1, 8) := by kernel_rfl
/-- nought, and the ends behind it -/
theorem run_ends (L : List (List Nat)) (n B : Nat) (v : Value) (W : World) (hown : W.ownsRow B 3 1 v n (ends L n)) (hn : n ≤ 1000) :
    ∃ g cap w', (Builtin.append_ #[39, 39] 39 #[.slice (some ⟨W.heap.size, 0, none⟩) 1 1, v]).run Tryd.prog (W.alloc (.cells #[.int .i64 0] 3)) = .ok (.slice (some ⟨g, 0, none⟩) (n + 1) cap) w' ∧ (∀ j, j ≤ n → w'.cell? ⟨g, j, none⟩ = some (.int .i64 (off L j : Int))) ∧ Below W.heap.size W w' := by
  obtain ⟨i3, hi3, hz3⟩ := Option.map_eq_some_iff.1 info3
  simp only [Prod.mk.injEq] at hz3
  have hb : Below W.heap.size W (W.alloc (.cells #[.int .i64 0] 3)) := (Below.refl _ W).alloc (Nat.le_refl _) _
  have hd : (W.alloc (.cells #[.int .i64 0] 3)).ownsRow W.heap.size 3 1 (.slice (some ⟨W.heap.size, 0, none⟩) 1 1) 1 [.int .i64 0] := ⟨rfl, .inr ⟨W.heap.size, 1, _, rfl, Nat.le_refl _, heap_alloc_new W _, Nat.le_refl _, by decide, rfl, rfl⟩⟩
  have hs := own_below hown hb
  have fin : ∀ (g cap : Nat) (w' : World), w'.ownsRow W.heap.size 3 1 (.slice (some ⟨g, 0, none⟩) (n + 1) cap) (n + 1) ([.int .i64 0] ++ ends L n) → ∀ j : Nat, j ≤ n → w'.cell? ⟨g, j, none⟩ = some (.int .i64 (off L j : Int)) := fun g cap w' h j hj => by
    rw [h.cellAt j (by omega)]
    rcases j with _ | j
    · rw [off_zero]; rfl
    · rw [List.singleton_append, List.getElem?_cons_succ]
      exact ends_get L (by omega)
  rcases hs.2 with ⟨rfl, hn0⟩ | ⟨g, cap, cur, rfl, _, _, _⟩
  · subst hn0
    have hr := run_append_nothing (P := Tryd.prog) (W.alloc (.cells #[.int .i64 0] 3)) 39 39 39 3 i3 Tryd.underlying39 hi3 (some ⟨W.heap.size, 0, none⟩) 1 1 (Nat.le_refl _) (.slice none 0 0) (Src.ofNil (P := Tryd.prog) _ Tryd.underlying39 0)
    exact ⟨_, _, _, hr, fin _ _ _ (by simpa [ends] using hd), hb⟩
  · obtain ⟨v', w', hr, h2, h3, _⟩ := run_append_own_at (P := Tryd.prog) (W.alloc (.cells #[.int .i64 0] 3)) W.heap.size 39 39 3 i3 _ 1 8 Tryd.underlying39 hi3 hz3.1 hz3.2.1 hz3.2.2 rfl (by omega) _ 1 _ hd ⟨g, 0, none⟩ n cap (ends L n) (by rw [ends_length, Nat.mul_one]) (fun j u hu => by
      have hj := (List.getElem?_eq_some_iff.1 hu).1
      rw [ends_length] at hj
      rw [Addr.add_lit, Nat.zero_add, hs.cellAt j (by omega)]
      exact hu) (ends_one L n) (by unfold maxLen; omega) (by omega) (by simp)
    obtain ⟨g', cap', rfl, _⟩ := h2.form (by omega)
    rw [Nat.add_comm 1 n] at hr h2
    exact ⟨_, _, _, hr, fin _ _ _ h2, hb.grown h3 (by simp) (fun k hk => Nat.le_of_eq (Option.some.inj hk))⟩
end Go.Proofs.YtdgcafohfedbhaaDoor.T
