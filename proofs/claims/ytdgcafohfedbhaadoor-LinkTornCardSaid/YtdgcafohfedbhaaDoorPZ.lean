import Derived.Test.YtdgcafohfedbhaaDoorPS
import Derived.Deep.RegionWith
import Derived.Lib.ConvBytes
import Derived.Maps.AppendAt
import Derived.Lib.SlFresh
import Derived.Deep.Upon
namespace Go.Proofs.YtdgcafohfedbhaaDoor.K
open Go.RowKit Go.Joins
attribute [local go_sem] Oper.semAt_some
set_option linter.unusedVariables false
set_option linter.unusedSimpArgs false

theorem coil_other {w w' : World} {B c d : Nat} {bs : List Nat} (h : CoilAt w B c bs) (ht : TouchB d w.heap.size w w') (hdc : d ≠ c) (hdB : d < B) : CoilAt w' B c bs := by
  obtain ⟨v, h1, h2⟩ := h
  refine ⟨v, (ht.block c (Array.getElem?_eq_some_iff.1 h1).1 (Ne.symm hdc)).trans h1, own_same h2 fun k hk => ht.block k (h2.lt k hk).2 (fun e => by have := (h2.lt k hk).1; omega)⟩
theorem coil_below {w w' : World} {B c : Nat} {bs : List Nat} (h : CoilAt w B c bs) (hb : Below w.heap.size w w') : CoilAt w' B c bs := by
  obtain ⟨v, h1, h2⟩ := h
  exact ⟨v, below_blk hb h1, own_below h2 hb⟩
theorem coil_nil_base {w : World} {B B' c : Nat} (h : w.heap[c]? = some (.cells #[.slice none 0 0] 45 (0, 0))) : CoilAt w B' c [] := ⟨_, h, World.ownsRow_nil _ _ _ _⟩
theorem up_len9 (n : Nat) (hn : n < 9223372036854775808) : (up n).length ≤ 9 := by rw [up_len]; exact len_le 8 n (by simp; omega)
theorem cut_below {w w' : World} {B : Nat} {v : Value} {bs : List Nat} (h : Cut w B v bs) (hB : B ≤ w.heap.size) (hb : Below w.heap.size w w') : Cut w' B v bs := by
  obtain ⟨a, cap, rfl, h1, h2⟩ := h
  refine ⟨a, cap, rfl, fun i x hx => ?_, h2⟩
  obtain ⟨g, o, e, hc⟩ := h1 i x hx
  exact ⟨g, o, e, by rw [hb.cell (p := ⟨g, o + i, none⟩) (by have := h2 _ e; simp at this ⊢; omega)]; exact hc⟩
/-- a slice of one's own that a reel can be opened upon -/
theorem cut_cap {w : World} {B n : Nat} {v : Value} {xs : List Value} (h : w.ownsRow B 5 1 v n xs) : ∃ a cap, v = .slice a n cap ∧ n ≤ cap ∧ cap ≤ maxLen := by
  rcases h.2 with ⟨rfl, rfl⟩ | ⟨g, cap, cur, rfl, hg, hh, h1, h2, _⟩
  · exact ⟨none, 0, rfl, Nat.le_refl _, Nat.zero_le _⟩
  · exact ⟨_, cap, rfl, h1, h2⟩
/-- a reel upon a slice of one's own -/
theorem open_own (v : Value) (B : Nat) (bs : List Nat) (w : World) (h : w.ownsRow B 5 1 v bs.length (byts bs)) (hB : B ≤ w.heap.size) :
    Calls Tryd.prog 23 #[v] w fun e w' => e = .returned (.pointer (some ⟨w.heap.size, 0, none⟩)) ∧ ReelAt w' w.heap.size w.heap.size bs 0 ∧ Below w.heap.size w w' := by
  obtain ⟨a, cap, rfl, h1, h2⟩ := cut_cap h
  obtain ⟨a', cap', e, h3, h4⟩ := cut_own h hB
  cases e
  exact open_any a cap bs w h1 h2 h3 h4
theorem reel_below {w w' : World} {B r : Nat} {bs : List Nat} {f : Int} (h : ReelAt w B r bs f) (hB : B ≤ w.heap.size) (hb : Below w.heap.size w w') : ReelAt w' B r bs f := by
  obtain ⟨a, cap, h1, h2, h3, h4, h5⟩ := h.ex
  refine ⟨a, cap, below_blk hb h1, h2, h3, fun i x hx => ?_, h5⟩
  obtain ⟨g, o, e, hc⟩ := h4 i x hx
  exact ⟨g, o, e, by rw [hb.cell (p := ⟨g, o + i, none⟩) (by have := h5 _ e; simp at this ⊢; omega)]; exact hc⟩
theorem scan_cnt (l : List Nat) (i acc : Nat) (h : (scan l i acc).1 = 0) : i < (scan l i acc).2.2 ∧ (scan l i acc).2.2 ≤ i + l.length := by
  induction l generalizing i acc with
  | nil => simp [scan] at h
  | cons b r ih =>
    rw [scan] at h ⊢
    split at h
    · simp at h
    · rename_i hn
      rw [if_neg hn]
      split at h
      · rename_i hb
        rw [if_pos hb]
        simp
      · rename_i hb
        rw [if_neg hb]
        have := ih (i + 1) _ h
        simp only [List.length_cons]
        omega
theorem extract_strOf (s : ByteArray) (a n : Nat) (h : a + n ≤ s.size) : s.extract a (a + n) = strOf (((bsOf s).drop a).take n) := by
  have e : bsOf (s.extract a (a + n)) = ((bsOf s).drop a).take n := by
    simp only [bsOf, ByteArray.data_extract, Array.toList_extract, List.extract_eq_take_drop]
    rw [List.map_take, List.map_drop]
    congr 1
    omega
  rw [← e, strOf_bsOf]

/-- a string, from a place on -/
theorem extract_rest (cs : List Nat) (ho : Oct cs) (k : Nat) (hk : k ≤ cs.length) : (strOf cs).extract k (strOf cs).size = strOf (cs.drop k) := by
  have h := extract_strOf (strOf cs) k (cs.length - k) (by rw [strOf_size]; omega)
  rw [show k + (cs.length - k) = (strOf cs).size by rw [strOf_size]; omega, bsOf_strOf ho] at h
  rw [h, List.take_of_length_le (by rw [List.length_drop]; omega)]
/-- the values that a slice shows, one cell each -/
def ShowsV (w : World) (a : Option Addr) (vs : List Value) : Prop := ∀ (i : Nat) (v : Value), vs[i]? = some v → ∃ g o, a = some ⟨g, o, none⟩ ∧ w.cell? ⟨g, o + i, none⟩ = some v
theorem ShowsV.below {w w' : World} {a : Option Addr} {vs : List Value} (h : ShowsV w a vs) (hb : Below w.heap.size w w') : ShowsV w' a vs := fun i v hv => by
  obtain ⟨g, o, e, hc⟩ := h i v hv
  exact ⟨g, o, e, by rw [hb.cell (cell_block hc)]; exact hc⟩

/-- a string as bytes, in a new row -/
theorem conv_str (s : ByteArray) (w : World) (hs : s.size ≤ maxLen) : ∃ cap w', (convert 9 22 (.string s)).run Tryd.prog w = .ok (.slice (some ⟨w.heap.size, 0, none⟩) s.size cap) w' ∧ s.size ≤ cap ∧ cap ≤ maxLen ∧ Below w.heap.size w w' ∧ Shows w' (some ⟨w.heap.size, 0, none⟩) (bsOf s) ∧ w'.heap.size = w.heap.size + 1 := by
  have h := Lib.run_convert_string_bytes (P := Tryd.prog) w 9 22 5 s Tryd.underlying9 Tryd.underlying22 Tryd.underlying5
  refine ⟨_, _, h, grownCap_ge _ _ _ _, grownCap_le_maxLen _ _ _ _ hs, ⟨rfl, rfl, rfl, by rw [Lib.bytesWorld_size]; omega, fun k hk => Lib.bytesWorld_at_old w 5 s k hk⟩, fun i x hx => ⟨_, _, rfl, ?_⟩, Lib.bytesWorld_size w 5 s⟩
  have hi : i < s.size := by have := (List.getElem?_eq_some_iff.1 hx).1; rw [bsOf_length] at this; exact this
  rw [Nat.zero_add, Lib.bytesWorld_cell w 5 s i hi]
  simp only [bsOf, List.getElem?_map, Option.map_eq_some_iff] at hx
  obtain ⟨u, hu, rfl⟩ := hx
  simp [List.getD, hu]

/-! ### texts and marks, one behind the other -/
def enc (s : ByteArray) : List Nat := up s.size ++ bsOf s
theorem enc_oct (s : ByteArray) : Oct (enc s) := (up_oct _).append (bsOf_oct s)
theorem take_snoc {α : Type} {l : List α} {i : Nat} {x : α} (h : l[i]? = some x) : l.take (i + 1) = l.take i ++ [x] := by
  obtain ⟨hi, rfl⟩ := List.getElem?_eq_some_iff.1 h
  rw [List.take_succ_eq_append_getElem hi]
theorem drop_cons {α : Type} {l : List α} {i : Nat} {x : α} (h : l[i]? = some x) : l.drop i = x :: l.drop (i + 1) := by
  obtain ⟨hi, rfl⟩ := List.getElem?_eq_some_iff.1 h
  exact List.drop_eq_getElem_cons hi
theorem reftext_enc (s : ByteArray) (w : World) (hs : s.size ≤ 1000000) :
    Calls Tryd.prog 19 #[.string s] w fun e w' => e = .returned (.string (strOf (enc s))) ∧ Below w.heap.size w w' := by
  have := reftext_any s w hs
  rw [show strOf (up s.size) ++ s = strOf (enc s) by unfold enc; rw [strOf_append, strOf_bsOf]] at this
  exact this

theorem own_base {w : World} {B B' e s n : Nat} {v : Value} {xs : List Value} (h : w.ownsRow B e s v n xs) (hB : B' ≤ B) : w.ownsRow B' e s v n xs := by
  refine ⟨h.1, h.2.imp_right ?_⟩
  rintro ⟨g, cap, cur, hv, hg, r⟩
  exact ⟨g, cap, cur, hv, Nat.le_trans hB hg, r⟩

/-! ### plain: what is taken whole has just those bytes -/
/-- a number's digits, all marked -/
def mk (m : Nat) : List Nat := if m < 128 then [m + 128] else mk (m / 128) ++ [m % 128 + 128]
def dgM (m : Nat) : Nat → List Nat
  | 0 => []
  | k + 1 => dgM m k ++ [nn m k % 128 + 128]
theorem dgM_cons (m k : Nat) : dgM m (k + 1) = (m % 128 + 128) :: dgM (m / 128) k := by
  induction k with
  | zero => rfl
  | succ k ih => rw [dgM, ih, dgM, nn_succ]; rfl
theorem dg_cons (n k : Nat) : dg n (k + 1) = (n % 128) :: dgM (n / 128) k := by
  induction k with
  | zero => rfl
  | succ k ih => rw [dg, ih, dgM, nn_succ, if_pos (by omega)]; rfl
theorem mk_dgM (m : Nat) : mk m = (dgM m (len m)).reverse := by
  induction m using Nat.strongRecOn with
  | ind m ih =>
    rw [mk, len]
    split
    · rename_i h
      rw [dgM_cons]; simp [dgM]; omega
    · rename_i h
      rw [dgM_cons, List.reverse_cons, ih (m / 128) (by omega)]
theorem up_rec (n : Nat) : up n = if n < 128 then [n] else mk (n / 128) ++ [n % 128] := by
  unfold up
  rw [len]
  split
  · rename_i h
    rw [dg_cons]; simp [dgM]; omega
  · rename_i h
    rw [dg_cons, List.reverse_cons, mk_dgM]
theorem scan_inv_aux (l : List Nat) (i acc : Nat) (ho : Oct l) (hi : 0 < i) (ha : 0 < acc) (h : (scan l i acc).1 = 0) :
    mk acc ++ l = up (scan l i acc).2.1 ++ l.drop ((scan l i acc).2.2 - i) := by
  induction l generalizing i acc with
  | nil => simp [scan] at h
  | cons b r ih =>
    have hb := ho 0 b rfl
    rw [scan] at h ⊢
    split at h
    · simp at h
    · rename_i hn
      rw [if_neg hn]
      split at h
      · rename_i hb2
        rw [if_pos hb2]
        simp only
        rw [up_rec, if_neg (by omega), show (acc * 128 + b % 128) / 128 = acc by omega, show (acc * 128 + b % 128) % 128 = b by omega, show i + 1 - i = 1 by omega]
        simp
      · rename_i hb2
        rw [if_neg hb2]
        have h1 := ih (i + 1) (acc * 128 + b % 128) (ho.drop 1) (by omega) (by omega) h
        have hc := (scan_cnt r (i + 1) (acc * 128 + b % 128) h).1
        have e : mk (acc * 128 + b % 128) = mk acc ++ [b] := by
          rw [mk, if_neg (by omega), show (acc * 128 + b % 128) / 128 = acc by omega, show (acc * 128 + b % 128) % 128 + 128 = b by omega]
        rw [e] at h1
        rw [show (scan r (i + 1) (acc * 128 + b % 128)).2.2 - i = ((scan r (i + 1) (acc * 128 + b % 128)).2.2 - (i + 1)) + 1 by omega, List.drop_succ_cons]
        rw [← h1]
        simp
theorem scan_inv (l : List Nat) (ho : Oct l) (h : (scan l 0 0).1 = 0) : l = up (scan l 0 0).2.1 ++ rest l := by
  unfold rest
  rw [if_pos h]
  rcases l with _ | ⟨b, r⟩
  · simp [scan] at h
  · have hb := ho 0 b rfl
    rw [scan] at h ⊢
    split at h
    · simp at h
    · rename_i hn
      rw [if_neg hn]
      split at h
      · rename_i hb2
        rw [if_pos hb2]
        simp only
        rw [up_rec, if_pos (by omega), show 0 * 128 + b % 128 = b by omega]
        simp
      · rename_i hb2
        rw [if_neg hb2]
        have h1 := scan_inv_aux r 1 (0 * 128 + b % 128) (ho.drop 1) (by omega) (by omega) h
        have hc := (scan_cnt r 1 (0 * 128 + b % 128) h).1
        have e : mk (0 * 128 + b % 128) = [b] := by
          rw [mk, if_pos (by omega)]; congr 1; omega
        rw [e] at h1
        obtain ⟨c, hcc⟩ : ∃ c, (scan r 1 (0 * 128 + b % 128)).2.2 = c + 1 := ⟨(scan r 1 (0 * 128 + b % 128)).2.2 - 1, by omega⟩
        rw [Nat.zero_add, hcc, List.drop_succ_cons]
        rw [hcc, Nat.add_sub_cancel] at h1
        rw [← h1]
        simp
theorem upS_inv (most : Int) (bs : List Nat) (ho : Oct bs) (h : (upS most bs 0).2.2 = 0) : bs = up (upS most bs 0).1 ++ (upS most bs 0).2.1 ∧ ((upS most bs 0).1 : Int) ≤ most := by
  unfold upS at h ⊢
  split at h
  · simp at h
  · rename_i hn
    rw [if_neg hn]
    refine ⟨?_, by have := hn; omega⟩
    unfold numS at h ⊢
    rw [if_pos rfl] at h ⊢
    exact scan_inv bs ho h
theorem textS_inv (most : Int) (bs : List Nat) (ho : Oct bs) (h : (textS most bs 0).2.2 = 0) : bs = up (textS most bs 0).1.length ++ (textS most bs 0).1 ++ (textS most bs 0).2.1 := by
  unfold textS bytesS at h ⊢
  by_cases hc : (upS most bs 0).2.2 = 0
  · have hi := (upS_inv most bs ho hc).1
    rw [if_pos hc] at h ⊢
    split at h
    · rename_i hn
      rw [if_pos hn]
      simp only
      rw [List.length_take, Nat.min_eq_left hn, List.append_assoc, List.take_append_drop]
      exact hi
    · simp at h
  · rw [if_neg hc] at h
    exact absurd h hc
theorem upS_code (most : Int) (bs : List Nat) (f : Int) : (upS most bs f).2.2 = 0 ∨ (upS most bs f).1 = 0 := by
  unfold upS
  split
  · exact .inr rfl
  · exact numS_code bs f
/-- an append of what a slice shows onto an own empty slice -/
theorem run_append_cut (W : World) (B g0 : Nat) (a : Option Addr) (cap : Nat) (bs : List Nat) (h0 : W.ownsRow B 5 1 (.slice (some ⟨g0, 0, none⟩) 0 0) 0 []) (hs : Shows W a bs) (hl : bs.length ≤ 1000000) (hB : B ≤ W.heap.size) :
    ∃ v' w', (Builtin.append_ #[22, 22] 22 #[.slice (some ⟨g0, 0, none⟩) 0 0, .slice a bs.length cap]).run Tryd.prog W = .ok v' w' ∧ w'.ownsRow B 5 1 v' bs.length (byts bs) ∧ W.grownBy w' (some g0) := by
  obtain ⟨i5, hi5, hz5⟩ := Option.map_eq_some_iff.1 info5
  simp only [Prod.mk.injEq] at hz5
  rcases bs with _ | ⟨x, l⟩
  · refine ⟨_, W, run_append_nothing (P := Tryd.prog) W 22 22 22 5 i5 Tryd.underlying22 hi5 (some ⟨g0, 0, none⟩) 0 0 (Nat.le_refl _) (.slice a 0 cap) ?_, h0, World.grownBy.refl _ _⟩
    cases a with
    | none => exact Src.ofNil (P := Tryd.prog) W Tryd.underlying22 cap
    | some ad => exact Src.ofSlice (P := Tryd.prog) W Tryd.underlying22 ad 0 cap [] (by simp) (by simp) (by simp)
  · obtain ⟨g, o, rfl, _⟩ := hs 0 x rfl
    obtain ⟨v', w', hr, h2, h3, _⟩ := run_append_own_at (P := Tryd.prog) W B 22 22 5 i5 _ 1 1 Tryd.underlying22 hi5 hz5.1 hz5.2.1 hz5.2.2 rfl (by omega) _ 0 [] h0 ⟨g, o, none⟩ (x :: l).length cap (byts (x :: l)) (by rw [byts_length, Nat.mul_one]) (fun j u hu => by
      simp only [byts, List.getElem?_map, Option.map_eq_some_iff] at hu
      obtain ⟨y, hy, rfl⟩ := hu
      obtain ⟨g', o', e, hc⟩ := hs j y hy
      cases e
      rw [Addr.add_lit]
      exact hc) (byts_one _) (by unfold maxLen; omega) (by omega) hB
    refine ⟨v', w', hr, ?_, h3⟩
    simpa using h2

end Go.Proofs.YtdgcafohfedbhaaDoor.K
