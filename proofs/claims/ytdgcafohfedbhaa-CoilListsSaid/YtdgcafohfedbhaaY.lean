import Derived.Test.YtdgcafohfedbhaaX
import Derived.Maps.AppendAt
import Derived.Lib.SlFresh
import Derived.Deep.Upon
namespace Go.Proofs.Ytdgcafohfedbhaa
open Go.RowKit Go.Joins
attribute [local go_sem] Oper.semAt_some
set_option linter.unusedVariables false
set_option linter.unusedSimpArgs false

/-- an append of a row of one's own, nil or not, onto a row of one's own that holds something, at a region's operation -/
theorem step_append_row {ops : Array Oper} {E : Prop} {o : Oper} {a : Act} {w : World} {K : Act → World → Prop} {Q : Exit → Act → World → Prop} (hgd : o.guard = none) (s x : Operand)
    (ho : o.op = .call { callee := .builtin .append, args := #[s, x], argTypes := #[23, 23] })
    (B B2 : Nat) (bs cs : List Nat) (v v2 : Value) (hs : a.eval s = v) (hown : w.ownsRow B 5 1 v bs.length (byts bs)) (hp : 0 < bs.length)
    (hx : a.eval x = v2) (hown2 : w.ownsRow B2 5 1 v2 cs.length (byts cs)) (hl : bs.length + cs.length ≤ 10000000) (hbase : B ≤ w.heap.size)
    (h : ∀ ao cap w', w'.ownsRow B 5 1 (.slice ao (bs ++ cs).length cap) (bs ++ cs).length (byts (bs ++ cs)) → w.grownBy w' v.ownBlock → K (a.put o.dst (.slice ao (bs ++ cs).length cap)) w') :
    if Region.wanted o (yielded ops a.tmps) = true then Oper.wp Try.prog o a w K Q else E := by
  obtain ⟨i5, hi5, hz5⟩ := Option.map_eq_some_iff.1 info5
  simp only [Prod.mk.injEq] at hz5
  rcases hown2.2 with ⟨rfl, h0⟩ | ⟨g, cap, cur, rfl, hg, hh, h1, h2, h3, h4⟩
  · have hc0 : cs = [] := List.eq_nil_of_length_eq_zero h0
    subst hc0
    rw [if_pos (by simp [Region.wanted, hgd])]
    obtain ⟨g, cap, rfl, _⟩ := hown.form hp
    have hr := run_append_nothing (P := Try.prog) w 23 23 o.type 5 i5 Try.underlying23 hi5 (some ⟨g, 0, none⟩) bs.length cap (by
      rcases hown.2 with ⟨e, _⟩ | ⟨g', cap', cur, e, _, _, hle, _⟩
      · cases e
      · simp only [Value.slice.injEq] at e
        obtain ⟨_, _, rfl⟩ := e
        exact hle) (.slice none 0 0) (Src.ofNil (P := Try.prog) w Try.underlying23 0)
    unfold Oper.wp execOp
    simp only [ho, resolve, invoke, builtin, Sem.run_bind, Sem.run_pure, Result.andThen_ok, List.map_toArray, List.map_cons, List.map_nil, hs, hx, hr]
    have := h (some ⟨g, 0, none⟩) cap w (by simpa using hown) (World.grownBy.refl _ _)
    simp only [List.append_nil] at this
    exact this
  · refine step_append_own_at hgd s x 23 ho B 5 i5 _ 1 1 Try.underlying23 hi5 hz5.1 hz5.2.1 hz5.2.2 rfl (by omega) v bs.length _ hs hown ⟨g, 0, none⟩ cs.length cap (byts cs) hx (by rw [byts_length, Nat.mul_one]) (fun j u hu => ?_) (byts_one _) (by unfold maxLen; omega) (by omega) hbase ?_
    · have hj := (List.getElem?_eq_some_iff.1 hu).1
      rw [byts_length] at hj
      rw [Addr.add_lit, Nat.zero_add, hown2.cellAt j (by omega)]
      exact hu
    · intro v' w' h5 h6
      obtain ⟨ao, cap', rfl⟩ := own_form h5
      have := h ao cap' w' (by rw [byts_append, List.length_append]; exact h5) h6
      rw [List.length_append] at this
      exact this
theorem own_base {w : World} {B B' e s n : Nat} {v : Value} {xs : List Value} (h : w.ownsRow B e s v n xs) (hB : B' ≤ B) : w.ownsRow B' e s v n xs := by
  refine ⟨h.1, h.2.imp_right ?_⟩
  rintro ⟨g, cap, cur, hv, hg, r⟩
  exact ⟨g, cap, cur, hv, Nat.le_trans hB hg, r⟩

/-! ### a list is taken -/
def goT {α : Type} (one : List Nat → α × List Nat × Int) : Nat → List Nat → List α → List α × List Nat × Int
  | 0, bs, acc => (acc, bs, 0)
  | k + 1, bs, acc => if (one bs).2.2 = 0 then goT one k (one bs).2.1 (acc ++ [(one bs).1]) else ([], (one bs).2.1, (one bs).2.2)
def takeT {α : Type} (one : List Nat → α × List Nat × Int) (most : Int) (bs : List Nat) : List α × List Nat × Int :=
  if (upS most bs 0).2.2 = 0 then goT one (upS most bs 0).1 (upS most bs 0).2.1 [] else ([], (upS most bs 0).2.1, (upS most bs 0).2.2)
theorem upS_code (most : Int) (bs : List Nat) (f : Int) : (upS most bs f).2.2 = 0 ∨ (upS most bs f).1 = 0 := by
  unfold upS
  split
  · exact .inr rfl
  · exact numS_code bs f
def oneS (bs : List Nat) : ByteArray × List Nat × Int := (strOf (textS 300 bs 0).1, (textS 300 bs 0).2.1, (textS 300 bs 0).2.2)
def oneI (bs : List Nat) : Int × List Nat × Int := intS bs 0
theorem oneS_ok {bs : List Nat} (h : Oct bs) : Oct (oneS bs).2.1 ∧ (oneS bs).2.1.length ≤ bs.length := ⟨(textS_oct h).2, textS_len _ _ _⟩
theorem oneI_ok {bs : List Nat} (h : Oct bs) : Oct (oneI bs).2.1 ∧ (oneI bs).2.1.length ≤ bs.length := ⟨numS_oct h, numS_len _ _⟩
end Go.Proofs.Ytdgcafohfedbhaa
