import Derived.Test.YtdgcafohfedbhaaU
namespace Go.Proofs.Ytdgcafohfedbhaa
open Go.RowKit Go.Joins
set_option linter.unusedVariables false
set_option linter.unusedSimpArgs false

/-! ### plain: the reel's takes are the document's -/
/-- the reel's answer beside the document's -/
structure Same {α : Type} (bs : List Nat) (q : α × List Nat × Int) (d : α × Nat × Int) : Prop where
  val : q.1 = d.1
  code : q.2.2 = d.2.2
  rest : d.2.2 = 0 → q.2.1 = bs.drop d.2.1
  bad : d.2.2 ≠ 0 → d.2.1 = 0
  le : d.2.1 ≤ bs.length
theorem up_same (most : Int) (bs : List Nat) : Same bs (upS most bs 0) (takeUp most bs) := by
  have hc : (scan bs 0 0).1 = 0 → (scan bs 0 0).2.2 ≤ bs.length := fun h => by have := (scan_cnt bs 0 0 h).2; omega
  have hv := scan_code bs 0 0
  unfold upS takeUp numS
  rw [if_pos rfl]
  by_cases h : (scan bs 0 0).1 = 0
  · rw [if_pos h]
    by_cases hm : most < ((scan bs 0 0).2.1 : Int)
    · rw [if_pos hm, if_pos ⟨h, hm⟩]
      exact ⟨rfl, rfl, fun e => by simp at e, fun _ => rfl, Nat.zero_le _⟩
    · rw [if_neg hm, if_neg (fun e => hm e.2)]
      exact ⟨rfl, h, fun _ => by unfold Go.Proofs.Ytdgcafohfedbhaa.rest; rw [if_pos h], fun e => by simp at e, hc h⟩
  · rw [if_neg h, if_neg (fun e => h e.1)]
    exact ⟨hv.resolve_left h, rfl, fun e => absurd e h, fun _ => rfl, Nat.zero_le _⟩
theorem int_same (bs : List Nat) : Same bs (intS bs 0) (takeInt bs) := by
  have h := up_same 9223372036854775807 bs
  have hlt := numS_lt bs 0
  have e : upS 9223372036854775807 bs 0 = numS bs 0 := by
    unfold upS
    rw [if_neg (by omega)]
  rw [e] at h
  exact ⟨congrArg intV h.val, h.code, h.rest, h.bad, h.le⟩
theorem text_same (most : Int) (bs : List Nat) : Same bs (textS most bs 0) (takeText most bs) := by
  have h := up_same most bs
  unfold textS takeText
  generalize upS most bs 0 = q at *
  generalize takeUp most bs = d at *
  obtain ⟨v, b', f⟩ := q
  obtain ⟨v2, k, e⟩ := d
  obtain ⟨h1, h2, h3, h4, h5⟩ := h
  simp only at h1 h2 h3 h4 h5 ⊢
  subst h1 h2
  unfold bytesS
  by_cases hc : f = 0
  · obtain rfl := h3 hc
    subst hc
    rw [if_pos rfl, if_neg (show ¬ ((0 : Int) ≠ 0) by simp), List.length_drop]
    by_cases hn : bs.length < k + v
    · rw [if_pos hn, if_neg (by omega)]
      exact ⟨rfl, rfl, fun e => by simp at e, fun _ => rfl, Nat.zero_le _⟩
    · rw [if_neg hn, if_pos (by omega)]
      exact ⟨rfl, rfl, fun _ => by simp [List.drop_drop], fun e => by simp at e, by simp; omega⟩
  · rw [if_neg hc, if_pos hc]
    exact ⟨rfl, rfl, fun e => absurd e hc, fun _ => rfl, Nat.zero_le _⟩
theorem mark_same (bs : List Nat) : Same bs (markS bs 0) (takeMark bs) := by
  unfold markS takeMark
  rw [if_pos rfl]
  rcases bs with _ | ⟨b, l⟩
  · exact ⟨rfl, rfl, fun e => by simp at e, fun _ => rfl, Nat.zero_le _⟩
  · simp only
    by_cases hb : 1 < b
    · rw [if_pos hb, if_pos hb]
      exact ⟨rfl, rfl, fun e => by simp at e, fun _ => rfl, Nat.zero_le _⟩
    · rw [if_neg hb, if_neg hb]
      exact ⟨rfl, rfl, fun _ => rfl, fun e => by simp at e, by simp⟩
theorem upS_lost {most : Int} {bs : List Nat} {f : Int} (hf : f ≠ 0) : (upS most bs f).1 = 0 ∧ (upS most bs f).2.2 = f := by
  unfold upS numS
  rw [if_neg hf, if_neg (fun h => hf h.1)]
  exact ⟨rfl, rfl⟩
theorem intS_lost {bs : List Nat} {f : Int} (hf : f ≠ 0) : (intS bs f).1 = 0 ∧ (intS bs f).2.2 = f := by
  unfold intS numS
  rw [if_neg hf]
  exact ⟨by simp [intV], rfl⟩
theorem textS_lost {most : Int} {bs : List Nat} {f : Int} (hf : f ≠ 0) : (textS most bs f).1 = [] ∧ (textS most bs f).2.2 = f := by
  have h := upS_lost (most := most) (bs := bs) hf
  unfold textS bytesS
  rw [h.2, if_neg hf]
  exact ⟨rfl, rfl⟩
theorem markS_lost {bs : List Nat} {f : Int} (hf : f ≠ 0) : (markS bs f).1 = false ∧ (markS bs f).2.2 = f := by
  unfold markS
  rw [if_neg hf]
  exact ⟨rfl, rfl⟩
theorem intS_len (bs : List Nat) (f : Int) : (intS bs f).2.1.length ≤ bs.length := numS_len bs f
theorem intS_oct {bs : List Nat} {f : Int} (h : Oct bs) : Oct (intS bs f).2.1 := numS_oct h

/-- what stands between two asks: the document's text cs and failure fl, the reel's bytes -/
structure TS (W wr : World) (r : Nat) (cs bs : List Nat) (fl : Int) : Prop where
  bel : Below W.heap.size W wr
  wle : W.heap.size ≤ r
  reel : ReelAt wr r r bs fl
  lt : r < wr.heap.size
  ocs : Oct cs
  obs : Oct bs
  lcs : cs.length ≤ 300
  lbs : bs.length ≤ 300
  eq : fl = 0 → bs = cs
theorem TS.touch {W w w' : World} {r : Nat} {cs bs bs' cs' : List Nat} {fl fl' : Int} (h : TS W w r cs bs fl) (hr : ReelAt w' r r bs' fl') (ht : Touch r w w') (h1 : Oct cs') (h2 : Oct bs') (h3 : cs'.length ≤ 300) (h4 : bs'.length ≤ 300) (h5 : fl' = 0 → bs' = cs') : TS W w' r cs' bs' fl' :=
  ⟨h.bel.trans ((ht.below (Nat.le_refl r) (Nat.le_of_lt h.lt)).mono h.wle), h.wle, hr, Nat.lt_of_lt_of_le h.lt ht.size, h1, h2, h3, h4, h5⟩
/-- one ask that is taken as the document says -/
theorem TS.ask {α : Type} {W w w' : World} {r : Nat} {cs bs : List Nat} {q : α × List Nat × Int} {d : α × Nat × Int} (h : TS W w r cs bs 0) (hs : Same cs q d) (ho : Oct q.2.1) (hl : q.2.1.length ≤ bs.length) (hr : ReelAt w' r r q.2.1 q.2.2) (ht : Touch r w w') : TS W w' r (cs.drop d.2.1) q.2.1 d.2.2 := by
  refine h.touch (by rw [← hs.code]; exact hr) ht (h.ocs.drop _) ho ?_ (Nat.le_trans hl h.lbs) hs.rest
  have := h.lcs
  rw [List.length_drop]
  omega
theorem TS.lost {α : Type} {W w w' : World} {r : Nat} {cs bs : List Nat} {fl : Int} {q : α × List Nat × Int} (h : TS W w r cs bs fl) (hf : fl ≠ 0) (hq : q.2.2 = fl) (ho : Oct q.2.1) (hl : q.2.1.length ≤ bs.length) (hr : ReelAt w' r r q.2.1 q.2.2) (ht : Touch r w w') : TS W w' r cs q.2.1 fl :=
  h.touch (by rw [hq] at hr; exact hr) ht h.ocs ho h.lcs (Nat.le_trans hl h.lbs) (fun e => absurd e hf)
/-- a string, from a place on -/
theorem extract_rest (cs : List Nat) (ho : Oct cs) (k : Nat) (hk : k ≤ cs.length) : (strOf cs).extract k (strOf cs).size = strOf (cs.drop k) := by
  have h := extract_strOf (strOf cs) k (cs.length - k) (by rw [strOf_size]; omega)
  rw [show k + (cs.length - k) = (strOf cs).size by rw [strOf_size]; omega, bsOf_strOf ho] at h
  rw [h, List.take_of_length_le (by rw [List.length_drop]; omega)]
end Go.Proofs.Ytdgcafohfedbhaa
