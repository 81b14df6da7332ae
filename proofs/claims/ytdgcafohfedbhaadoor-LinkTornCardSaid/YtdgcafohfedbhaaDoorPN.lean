import Derived.Test.YtdgcafohfedbhaaDoorPL
import Derived.Lib.BufferRead
import Derived.Lib.AppendStr
namespace Go.Proofs.YtdgcafohfedbhaaDoor.K
open Go.RowKit Go.Joins
set_option linter.unusedVariables false

/-! ### strings as lists of bytes -/
def strOf (l : List Nat) : ByteArray := ⟨(l.map UInt8.ofNat).toArray⟩
def bsOf (s : ByteArray) : List Nat := s.data.toList.map UInt8.toNat
theorem strOf_bsOf (s : ByteArray) : strOf (bsOf s) = s := by
  apply ByteArray.ext
  apply Array.toList_inj.1
  simp only [strOf, bsOf, List.map_map]
  have : (UInt8.ofNat ∘ UInt8.toNat) = id := by funext x; simp
  rw [this]; simp
theorem bsOf_strOf {l : List Nat} (h : Oct l) : bsOf (strOf l) = l := by
  simp only [strOf, bsOf, List.map_map]
  apply List.ext_getElem?
  intro i
  rw [List.getElem?_map]
  cases hx : l[i]? with
  | none => rfl
  | some x =>
    have := h i x hx
    simp only [Option.map_some, Function.comp_apply, Option.some.injEq]
    rw [UInt8.toNat_ofNat']
    omega
theorem bsOf_oct (s : ByteArray) : Oct (bsOf s) := fun i x hx => by
  simp only [bsOf, List.getElem?_map, Option.map_eq_some_iff] at hx
  obtain ⟨u, _, rfl⟩ := hx
  exact u.toNat_lt
theorem bsOf_length (s : ByteArray) : (bsOf s).length = s.size := by simp [bsOf]
theorem strOf_size (l : List Nat) : (strOf l).size = l.length := by simp [strOf, ByteArray.size]
theorem strOf_append (a b : List Nat) : strOf (a ++ b) = strOf a ++ strOf b := by
  apply ByteArray.ext
  simp [strOf]
theorem strOf_inj {a b : List Nat} (ha : Oct a) (hb : Oct b) (h : strOf a = strOf b) : a = b := by
  rw [← bsOf_strOf ha, ← bsOf_strOf hb, h]
theorem bsOf_append (a b : ByteArray) : bsOf (a ++ b) = bsOf a ++ bsOf b := by
  simp [bsOf]
theorem bsOf_get {s : ByteArray} {i : Nat} (h : i < s.size) : (bsOf s)[i]? = some (s[i].toNat) := by
  simp only [bsOf, List.getElem?_map]
  rw [List.getElem?_eq_getElem (by simpa using h)]
  rfl
theorem Oct.append {a b : List Nat} (ha : Oct a) (hb : Oct b) : Oct (a ++ b) := fun i x hx => by
  rw [List.getElem?_append] at hx
  split at hx
  · exact ha _ _ hx
  · exact hb _ _ hx
theorem Oct.take {bs : List Nat} (h : Oct bs) (n : Nat) : Oct (bs.take n) := fun i x hx => by
  rw [List.getElem?_take] at hx
  split at hx
  · exact h _ _ hx
  · cases hx
theorem Oct.nil : Oct [] := fun i x hx => by simp at hx
theorem strCells_byts (s : ByteArray) : Lib.strCells s = byts (bsOf s) := by
  simp [Lib.strCells, byts, bsOf]

theorem Cut.string {w : World} {B : Nat} {v : Value} {bs : List Nat} (h : Cut w B v bs) (ho : Oct bs) : (convert 22 9 v).run Tryd.prog w = .ok (.string (strOf bs)) w := by
  obtain ⟨a, cap, rfl, hs, _⟩ := h
  rcases bs with _ | ⟨x, l⟩
  · cases a with
    | none => exact Lib.run_convert_nil_bytes w 22 9 5 cap Tryd.underlying22 Tryd.underlying5 Tryd.underlying9
    | some ad => exact run_convert_bytes_back w 22 9 5 ad cap [] Tryd.underlying22 Tryd.underlying5 Tryd.underlying9 (fun j hj => by simp at hj)
  · obtain ⟨g, o, rfl, _⟩ := hs 0 x rfl
    have := run_convert_bytes_back (P := Tryd.prog) w 22 9 5 ⟨g, o, none⟩ cap ((x :: l).map UInt8.ofNat) Tryd.underlying22 Tryd.underlying5 Tryd.underlying9 (fun j hj => by
      have hj' : j < (x :: l).length := by simpa using hj
      obtain ⟨g', o', e, hc⟩ := hs j _ (List.getElem?_eq_getElem hj')
      cases e
      rw [Addr.add_lit, hc]
      have hb := ho j _ (List.getElem?_eq_getElem hj')
      rw [List.getElem_map, UInt8.toNat_ofNat', Nat.mod_eq_of_lt hb])
    simpa [strOf] using this
theorem cut_own {w : World} {B : Nat} {v : Value} {bs : List Nat} (h : w.ownsRow B 5 1 v bs.length (byts bs)) (hB : B ≤ w.heap.size) : Cut w w.heap.size v bs := by
  rcases h.2 with ⟨rfl, h0⟩ | ⟨g, cap, cur, rfl, hg, hh, _⟩
  · have : bs = [] := List.eq_nil_of_length_eq_zero h0
    subst this
    exact cut_none _ _
  · refine ⟨some ⟨g, 0, none⟩, cap, rfl, fun i x hx => ⟨g, 0, rfl, ?_⟩, fun ad e => by cases e; exact (Array.getElem?_eq_some_iff.1 hh).1⟩
    have hl := (List.getElem?_eq_some_iff.1 hx).1
    rw [Nat.zero_add, h.cellAt i (by omega)]
    exact byts_get hx

def textS (most : Int) (bs : List Nat) (f : Int) : List Nat × List Nat × Int := bytesS (upS most bs f).1 (upS most bs f).2.1 (upS most bs f).2.2
theorem bytesS_oct {n : Nat} {bs : List Nat} {f : Int} (h : Oct bs) : Oct (bytesS n bs f).1 ∧ Oct (bytesS n bs f).2.1 := by
  unfold bytesS
  split
  · split
    · exact ⟨h.take _, h.drop _⟩
    · exact ⟨Oct.nil, h⟩
  · exact ⟨Oct.nil, h⟩
theorem bytesS_len (n : Nat) (bs : List Nat) (f : Int) : (bytesS n bs f).2.1.length ≤ bs.length := by
  unfold bytesS
  split
  · split <;> simp
  · exact Nat.le_refl _
theorem textS_oct {most : Int} {bs : List Nat} {f : Int} (h : Oct bs) : Oct (textS most bs f).1 ∧ Oct (textS most bs f).2.1 := bytesS_oct (upS_oct h)
theorem textS_len (most : Int) (bs : List Nat) (f : Int) : (textS most bs f).2.1.length ≤ bs.length := Nat.le_trans (bytesS_len _ _ _) (upS_len most bs f)

theorem text_take (B r : Nat) (bs : List Nat) (f most : Int) (w : World) (hb8 : Oct bs) (hlen : bs.length ≤ 1000000) (h : ReelAt w B r bs f) (hr : B ≤ r) :
    Calls Tryd.prog 24 #[.pointer (some ⟨r, 0, none⟩), .int .i64 most] w fun e w' => e = .returned (.string (strOf (textS most bs f).1)) ∧ ReelAt w' B r (textS most bs f).2.1 (textS most bs f).2.2 ∧ Touch r w w' := by
  have HU := Lib.hid (up_take B r bs f most w hb8 hlen h hr)
  have HO : Hid (Oct (textS most bs f).1) := (textS_oct hb8).1
  clear h hb8
  unfold textS at *
  generalize upS most bs f = q at *
  obtain ⟨v, bs', f'⟩ := q
  simp only at HU HO ⊢
  generalize hy : bytesS v bs' f' = y at *
  have HY := Lib.hid hy
  clear hy
  go_enter Tryd.func24, Tryd.ntmps24
  go_wp2_with fail
  refine HU.out.mono ?_
  rintro e w1 ⟨rfl, hr1, ht1⟩
  have H1 := Lib.hid (⟨hr1, ht1⟩ : _ ∧ _)
  clear hr1 ht1
  go_wp2_with fail
  refine (bytes_take B r v bs' f' w1 H1.out.1 hr).mono ?_
  rintro e w2 ⟨u, rfl, hc2, hr2, ht2⟩
  rw [HY.out] at hc2 hr2
  have k := hc2.string HO.out
  have H2 := Lib.hid (⟨hr2, H1.out.2.trans ht2⟩ : _ ∧ _)
  clear hc2 hr2 ht2
  go_wp2
  go_ret
  exact ⟨rfl, H2.out.1, H2.out.2⟩

def markS (bs : List Nat) (f : Int) : Bool × List Nat × Int :=
  if f = 0 then (match bs with | [] => (false, [], 17) | b :: r => if 1 < b then (false, r, 2) else (b == 1, r, 0)) else (false, bs, f)
theorem markS_oct {bs : List Nat} {f : Int} (h : Oct bs) : Oct (markS bs f).2.1 := by
  unfold markS
  split
  · rcases bs with _ | ⟨b, l⟩
    · exact Oct.nil
    · simp only
      split <;> exact h.drop 1
  · exact h
theorem markS_len (bs : List Nat) (f : Int) : (markS bs f).2.1.length ≤ bs.length := by
  unfold markS
  split
  · rcases bs with _ | ⟨b, l⟩
    · simp
    · simp only
      split <;> simp
  · exact Nat.le_refl _

end Go.Proofs.YtdgcafohfedbhaaDoor.K
