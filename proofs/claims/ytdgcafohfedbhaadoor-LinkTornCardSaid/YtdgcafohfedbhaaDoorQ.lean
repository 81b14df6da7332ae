import Derived.Test.YtdgcafohfedbhaaDoorO
namespace Go.Proofs.YtdgcafohfedbhaaDoor.T
open Go.RowKit Go.Joins
open Go.Proofs.YtdgcafohfedbhaaDoor.K
attribute [local go_sem] Oper.semAt_some
set_option linter.unusedVariables false
set_option linter.unusedSimpArgs false

/-- what lies still while the frames of bent bytes are gone through -/
structure BS (w : World) (bbit bb y bl g bit N cap nl capl : Nat) (al : Option Addr) (L : List (List Nat)) (BB : List Nat) : Prop where
  lt1 : bbit < y
  lt2 : bb < y
  lt3 : bl < y
  lt4 : g < y
  hbit : w.heap[bbit]? = some (.cells #[.int .i64 (bit : Int)] 3 (0, 0))
  hbb : w.heap[bb]? = some (.cells #[.slice (some ⟨g, 0, none⟩) N cap] 22 (0, 0))
  hbl : w.heap[bl]? = some (.cells #[.slice al nl capl] 32 (0, 0))
  box : w.heap[y + 3]? = some (.cells #[.slice (some ⟨g, 0, none⟩) N cap] 22 (0, 0))
  shows_ : Shows w (some ⟨g, 0, none⟩) BB
  len : BB.length = N
  oct : Oct BB
  items : ∀ (i : Nat) (x : List Nat), L[i]? = some x → ∃ gg oo vi B, al = some ⟨gg, oo, none⟩ ∧ gg < y ∧ w.cell? ⟨gg, oo + i, none⟩ = some vi ∧ Cut w B vi x ∧ (∀ (a : Option Addr) (n c j u g o : Nat), vi = .slice a n c → x[j]? = some u → a = some ⟨g, o, none⟩ → g < y)
  nl_ : L.length = nl
  nib : NibAt w
/-- i frames were gone through -/
structure BJ (w : World) (y : Nat) (L : List (List Nat)) (i : Nat) (W : World) : Prop where
  bel : Below y w W
  box : W.heap[y + 3]? = w.heap[y + 3]?
  at_ : W.heap[y]? = some (.cells #[.int .i64 (off L i : Int)] 3 (0, 0))
  cnt : W.heap[y + 1]? = some (.cells #[.int .i64 (i : Int)] 3 (0, 0))
  ok : W.heap[y + 2]? = some (.cells #[.bool true] 4 (0, 0))
theorem BJ.below {w W W' : World} {y i : Nat} {L : List (List Nat)} (h : BJ w y L i W) (hy : y + 3 < W.heap.size) (hb : Below W.heap.size W W') : BJ w y L i W' :=
  ⟨h.bel.trans (hb.mono (by omega)), (hb.block _ hy).trans h.box, below_blk hb h.at_, below_blk hb h.cnt, below_blk hb h.ok⟩

set_option maxRecDepth 100000 in
set_option maxHeartbeats 16000000 in
theorem frames_bent (bbit bb y bl g bit T N cap nl capl : Nat) (al : Option Addr) (L : List (List Nat)) (BB : List Nat) (w : World) (hS : BS w bbit bb y bl g bit N cap nl capl al L BB) (h0 : BJ w y L 0 w)
    (hT : T = bit / 8 % N) (hN : (chain L).length = N) (hTN : T < N) (hNl : N ≤ 100000) (hNc : N ≤ cap) (hcm : cap ≤ maxLen) (hbit : bit < 65536) (hLo : ∀ x ∈ L, Oct x ∧ x.length ≤ 200000) (hnl : nl ≤ 1000) (heq : BB.take T = (chain L).take T) :
    Calls Tryd.prog 22 #[.func (Fn.func 20) #[] (caps bbit bb y bl), .pointer (some ⟨y + 3, 0, none⟩)] w fun e w' => e = .returned (.tuple #[]) ∧ w'.heap[y + 2]? = some (.cells #[.bool true] 4 (0, 0)) ∧ Below y w w' := by
  have HS := Lib.hid hS
  have HQ := Lib.hid (⟨hT, hN, hLo, heq, hcm⟩ : _ ∧ _ ∧ _ ∧ _ ∧ _)
  have H0 := Lib.hid h0
  have hcm2 := hcm
  unfold maxLen at hcm2
  clear hS hT hN hLo heq hcm h0
  have hN0 : 0 < N := by omega
  have c0 : w.cell? ⟨y + 3, 0, none⟩ = some (.slice (some ⟨g, 0, none⟩) N cap) := by have := HS.out.box; simp [World.cell?, this]
  have hys : y + 3 < w.heap.size := (Array.getElem?_eq_some_iff.1 HS.out.box).1
  generalize hcp : caps bbit bb y bl = cp at *
  have HCP := Lib.hid hcp
  clear hcp
  go_enter Tryd.func22, Tryd.ntmps22
  go_wp2_with fail
  go_loopw [3] (fun atv wr => ∃ i : Nat, i ≤ L.length ∧ atv = .int .i64 (off L i : Int) ∧ off L i ≤ T ∧ BJ w y L i wr ∧ y + 3 < wr.heap.size) (fun atv _ => N - (intOf atv).toNat)
  case atStart => exact ⟨0, by omega, rfl, by simp [off, chain], H0.out, hys⟩
  case round =>
    obtain ⟨i, hi, rfl, hoT, hJ, hyr⟩ := hrel
    have H := Lib.hid hJ
    clear H0 hJ c0
    have hbx := H.out.box.trans HS.out.box
    have c0 : wr.cell? ⟨y + 3, 0, none⟩ = some (.slice (some ⟨g, 0, none⟩) N cap) := by simp [World.cell?, hbx]
    have hshw : Shows wr (some ⟨g, 0, none⟩) BB := fun j x hx => by
      obtain ⟨g', o', e, hc⟩ := HS.out.shows_ j x hx
      cases e
      exact ⟨_, _, rfl, (World.cell?_of_block (H.out.bel.block _ HS.out.lt4)).trans hc⟩
    have hgl : g < wr.heap.size := by have := HS.out.lt4; omega
    have hNW : NibAt wr := HS.out.nib.below H.out.bel (by have := HS.out.lt4; omega)
    have hdl : (BB.drop (off L i)).length = N - off L i := by rw [List.length_drop, HS.out.len]
    have hshd := hshw.drop (off L i)
    rw [Nat.zero_add] at hshd
    have HONE := Lib.hid (one_any (some ⟨g, off L i, none⟩) (cap - off L i) (BB.drop (off L i)) wr ⟨_, _, rfl, hshd, fun ad e => by cases e; exact hgl⟩ (HS.out.oct.drop _) (by omega) (by omega) (by unfold maxLen; omega) hNW)
    rw [hdl] at HONE
    have HDO := Lib.hid (HS.out.oct.drop (off L i))
    have hlt1 : (off L i : Int) < (N : Int) := by omega
    have hlt0 : (0 : Int) ≤ (off L i : Int) := by omega
    have hlc : (off L i : Int) ≤ (cap : Int) := by omega
    have hne : ¬ cap = off L i := by omega
    clear hbx hshw hshd hNW hdl hgl
    -- the frame that stands there
    obtain ⟨q, hq⟩ : ∃ q, oneP (BB.drop (off L i)) = q := ⟨_, rfl⟩
    have HP := Lib.hid hq
    rw [hq] at HONE
    clear hq
    obtain ⟨p, n, f⟩ := q
    simp only at HONE
    by_cases hf : f = 0
    · subst hf
      -- its size
      have hinv := oneP_inv _ HDO.out (by rw [HP.out])
      rw [HP.out] at hinv
      obtain ⟨rs, hx1, hx2, hx3, _, hx5⟩ := hinv
      simp only at hx1 hx2 hx3
      rw [List.length_drop, HS.out.len] at hx5
      have hn4 : 4 ≤ n ∧ off L i + n ≤ N := by
        have h1 := congrArg List.length hx1
        rw [List.length_append, List.length_append, List.length_take, List.length_drop, HS.out.len] at h1
        omega
      have hpo : Oct p := by
        intro j x hx
        have h1 := HDO.out
        rw [hx1] at h1
        have : (BB.drop (off L i)) = (BB.drop (off L i)).take 4 ++ (up p.length ++ p) ++ rs := hx1
        refine h1 (((BB.drop (off L i)).take 4).length + ((up p.length).length + j)) x ?_
        rw [List.append_assoc, List.getElem?_append_right (by omega), Nat.add_sub_cancel_left, List.append_assoc, List.getElem?_append_right (by omega), Nat.add_sub_cancel_left]
        rw [List.getElem?_append_left (List.getElem?_eq_some_iff.1 hx).1]
        exact hx
      have HPO := Lib.hid hpo
      clear hx1 hx2 hx3 hx5 hpo
      by_cases hin : T < off L i + n
      · have e0 : (off L i : Int) + (n : Int) = ((off L i + n : Nat) : Int) := by omega
        have HE0 := Lib.hid e0
        have ew : IntKind.i64.wrap ((off L i : Int) + (n : Int)) = (off L i : Int) + (n : Int) := by rw [IntKind.wrap_i64]; omega
        clear e0
        go_wp2_with fail
        refine HONE.out.mono ?_
        rintro e w1 ⟨v, rfl, hcu, hb1⟩
        have H1 := Lib.hid (H.out.below hyr hb1)
        have hy1 : y + 3 < w1.heap.size := Nat.lt_of_lt_of_le hyr hb1.size
        obtain ⟨ac, cc, rfl, _, _⟩ := hcu
        clear hb1 c0 HONE
        have d1 : w1.cell? ⟨bbit, 0, none⟩ = some (.int .i64 (bit : Int)) := by have := (H1.out.bel.block bbit HS.out.lt1).trans HS.out.hbit; simp [World.cell?, this]
        have d2 : w1.cell? ⟨bb, 0, none⟩ = some (.slice (some ⟨g, 0, none⟩) N cap) := by have := (H1.out.bel.block bb HS.out.lt2).trans HS.out.hbb; simp [World.cell?, this]
        have d3 : w1.cell? ⟨y, 0, none⟩ = some (.int .i64 (off L i : Int)) := by have := H1.out.at_; simp [World.cell?, this]
        have HBI := Lib.hid (bent_in bbit bb y bl bit T N (off L i + n) (off L i) _ cap (.slice ac p.length cc) w1 d1 d2 d3 HQ.out.1 hN0 (by omega) hbit hoT hin (by omega))
        rw [← HE0.out, HCP.out] at HBI
        clear d1 d2 d3
        go_wp2_with fail
        refine HBI.out.mono ?_
        rintro e w2 ⟨rfl, rfl⟩
        go_wp2
        exact bodyPost_ret (results_none rfl _ _ _) rfl ⟨rfl, H1.out.ok, H1.out.bel⟩
      · -- it stands ahead of the turned bit: it is the i-th one
        have hiL : i < L.length := by
          rcases Nat.lt_or_ge i L.length with h | h
          · exact h
          · have h1 : i = L.length := by omega
            have h2 := off_all L
            rw [← h1, HQ.out.2.1] at h2
            omega
        obtain ⟨x, hx⟩ : ∃ x, L[i]? = some x := ⟨_, List.getElem?_eq_getElem hiL⟩
        have hxp : p = x ∧ n = (frm x).length := by
          have e1 : (BB.drop (off L i)).take (T - off L i) = ((chain L).drop (off L i)).take (T - off L i) := by
            have h1 := congrArg (List.drop (off L i)) HQ.out.2.2.2.1
            rw [List.drop_take, List.drop_take] at h1
            exact h1
          have h2 := oneP_same _ _ HDO.out (by rw [HP.out]) (T - off L i) (by rw [HP.out]; simp only; omega) e1
          have h3 := drop_off_cons hx []
          rw [List.append_nil, List.append_nil] at h3
          rw [h3, oneP_frame x _ (HQ.out.2.2.1 x (List.mem_of_getElem? hx)).2, HP.out] at h2
          simp only [Prod.mk.injEq, and_true] at h2
          exact ⟨h2.1.symm, h2.2.symm⟩
        obtain ⟨rfl, hnx⟩ := hxp
        have hsum := off_succ hx
        rw [← hnx] at hsum
        have HX := Lib.hid hx
        have hoff1 : off L (i + 1) ≤ T := by omega
        have HSU := Lib.hid hsum
        obtain ⟨gg, oo, vi, Bi, rfl, hgg, hci, hcui, hBi⟩ := HS.out.items i p hx
        have HCI := Lib.hid (⟨hci, hcui⟩ : _ ∧ _)
        have e0 : ((off L (i + 1) : Nat) : Int) = (off L i : Int) + (n : Int) := by omega
        have HE0 := Lib.hid e0
        have ew : IntKind.i64.wrap ((off L i : Int) + (n : Int)) = (off L i : Int) + (n : Int) := by rw [IntKind.wrap_i64]; omega
        clear e0 hsum hx hnx hci hcui
        go_wp2_with fail
        refine HONE.out.mono ?_
        rintro e w1 ⟨v, rfl, hcu, hb1⟩
        have H1 := Lib.hid (H.out.below hyr hb1)
        have hy1 : y + 3 < w1.heap.size := Nat.lt_of_lt_of_le hyr hb1.size
        have HCU := Lib.hid hcu
        obtain ⟨ac, cc, rfl, _, _⟩ := hcu
        clear hb1 c0 HONE
        have d1 : w1.cell? ⟨bbit, 0, none⟩ = some (.int .i64 (bit : Int)) := by have := (H1.out.bel.block bbit HS.out.lt1).trans HS.out.hbit; simp [World.cell?, this]
        have d2 : w1.cell? ⟨bb, 0, none⟩ = some (.slice (some ⟨g, 0, none⟩) N cap) := by have := (H1.out.bel.block bb HS.out.lt2).trans HS.out.hbb; simp [World.cell?, this]
        have d6 : w1.cell? ⟨bl, 0, none⟩ = some (.slice (some ⟨gg, oo, none⟩) nl capl) := by have := (H1.out.bel.block bl HS.out.lt3).trans HS.out.hbl; simp [World.cell?, this]
        have d7 : w1.cell? ⟨gg, oo + i, none⟩ = some vi := (World.cell?_of_block (H1.out.bel.block gg hgg)).trans HCI.out.1
        have d8 : Cut w1 Bi vi p := by
          obtain ⟨a', c', e, h1, h2⟩ := HCI.out.2
          refine ⟨a', c', e, fun j u hu => ?_, h2⟩
          obtain ⟨g', o', e2, hc2⟩ := h1 j u hu
          have hlt := hBi a' p.length c' j u g' o' e hu e2
          exact ⟨g', o', e2, (World.cell?_of_block (H1.out.bel.block g' hlt)).trans hc2⟩
        have HBO := Lib.hid (bent_out bbit bb y bl bit T N (off L (i + 1)) (off L i) i nl _ _ cap capl (.slice ac p.length cc) vi p _ Bi w1 d1 d2 H1.out.at_ H1.out.cnt H1.out.ok d6 (by rw [← HS.out.nl_]; exact hiL) hnl ⟨gg, oo, rfl, d7, by omega⟩ HCU.out d8 HPO.out (by have := HS.out.lt3; omega) HQ.out.1 hN0 (by omega) hbit hoT hoff1 (by omega))
        rw [HE0.out, HCP.out] at HBO
        clear d1 d2 d6 d7 d8
        go_wp2_with fail
        refine HBO.out.mono ?_
        rintro e w2 ⟨rfl, o1, o2, o3, o4, o5, o6, o7, o8⟩
        have H2 : Hid (BJ w y L (i + 1) w2) := ⟨⟨o1.trans H1.out.bel.os, o2.trans H1.out.bel.tape, o3.trans H1.out.bel.output, by rw [o4]; exact H1.out.bel.size, fun k hk => (o5 k (by omega) (by omega) (by omega)).trans (H1.out.bel.block k hk)⟩, (o5 _ (by omega) (by omega) (by omega)).trans H1.out.box, by rw [o6, HE0.out], by rw [o7]; simp, o8⟩
        have hy2 : y + 3 < w2.heap.size := by rw [o4]; exact hy1
        clear o1 o2 o3 o4 o5 o6 o7 o8 HBO
        go_wp2
        exact ⟨⟨i + 1, by omega, by rw [HE0.out], hoff1, H2.out, hy2⟩, by simp [intOf]; omega⟩
    · have hf2 : (f != 0) = true := by simpa using hf
      go_wp2_with fail
      refine HONE.out.mono ?_
      rintro e w1 ⟨v, rfl, ⟨ac, cc, rfl, _, _⟩, hb1⟩
      have H1 := Lib.hid (H.out.below hyr hb1)
      clear hb1 c0 HONE
      go_wp2
      exact bodyPost_ret (results_none rfl _ _ _) rfl ⟨rfl, H1.out.ok, H1.out.bel⟩
end Go.Proofs.YtdgcafohfedbhaaDoor.T
