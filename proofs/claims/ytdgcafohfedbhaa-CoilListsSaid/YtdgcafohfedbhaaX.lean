import Derived.Test.YtdgcafohfedbhaaU
import Derived.Lib.ConvBytes
namespace Go.Proofs.Ytdgcafohfedbhaa
open Go.RowKit Go.Joins
set_option linter.unusedVariables false
set_option linter.unusedSimpArgs false

/-- the values that a slice shows, one cell each -/
def ShowsV (w : World) (a : Option Addr) (vs : List Value) : Prop := ∀ (i : Nat) (v : Value), vs[i]? = some v → ∃ g o, a = some ⟨g, o, none⟩ ∧ w.cell? ⟨g, o + i, none⟩ = some v
theorem ShowsV.below {w w' : World} {a : Option Addr} {vs : List Value} (h : ShowsV w a vs) (hb : Below w.heap.size w w') : ShowsV w' a vs := fun i v hv => by
  obtain ⟨g, o, e, hc⟩ := h i v hv
  exact ⟨g, o, e, by rw [hb.cell (cell_block hc)]; exact hc⟩

/-- a string as bytes, in a new row -/
theorem conv_str (s : ByteArray) (w : World) (hs : s.size ≤ maxLen) : ∃ cap w', (convert 9 23 (.string s)).run Try.prog w = .ok (.slice (some ⟨w.heap.size, 0, none⟩) s.size cap) w' ∧ s.size ≤ cap ∧ cap ≤ maxLen ∧ Below w.heap.size w w' ∧ Shows w' (some ⟨w.heap.size, 0, none⟩) (bsOf s) ∧ w'.heap.size = w.heap.size + 1 := by
  have h := Lib.run_convert_string_bytes (P := Try.prog) w 9 23 5 s Try.underlying9 Try.underlying23 Try.underlying5
  refine ⟨_, _, h, grownCap_ge _ _ _ _, grownCap_le_maxLen _ _ _ _ hs, ⟨rfl, rfl, rfl, by rw [Lib.bytesWorld_size]; omega, fun k hk => Lib.bytesWorld_at_old w 5 s k hk⟩, fun i x hx => ⟨_, _, rfl, ?_⟩, Lib.bytesWorld_size w 5 s⟩
  have hi : i < s.size := by have := (List.getElem?_eq_some_iff.1 hx).1; rw [bsOf_length] at this; exact this
  rw [Nat.zero_add, Lib.bytesWorld_cell w 5 s i hi]
  simp only [bsOf, List.getElem?_map, Option.map_eq_some_iff] at hx
  obtain ⟨u, hu, rfl⟩ := hx
  simp [List.getD, hu]

/-! ### texts and marks, one behind the other -/
def enc (s : ByteArray) : List Nat := up s.size ++ bsOf s
def encs (l : List ByteArray) : List Nat := l.flatMap enc
def marks (l : List Bool) : List Nat := l.flatMap markB
theorem enc_oct (s : ByteArray) : Oct (enc s) := (up_oct _).append (bsOf_oct s)
theorem encs_oct (l : List ByteArray) : Oct (encs l) := by
  induction l with
  | nil => exact Oct.nil
  | cons s l ih => exact (enc_oct s).append ih
theorem marks_oct (l : List Bool) : Oct (marks l) := by
  induction l with
  | nil => exact Oct.nil
  | cons s l ih => exact (markB_oct s).append ih
theorem take_snoc {α : Type} {l : List α} {i : Nat} {x : α} (h : l[i]? = some x) : l.take (i + 1) = l.take i ++ [x] := by
  obtain ⟨hi, rfl⟩ := List.getElem?_eq_some_iff.1 h
  rw [List.take_succ_eq_append_getElem hi]
theorem drop_cons {α : Type} {l : List α} {i : Nat} {x : α} (h : l[i]? = some x) : l.drop i = x :: l.drop (i + 1) := by
  obtain ⟨hi, rfl⟩ := List.getElem?_eq_some_iff.1 h
  exact List.drop_eq_getElem_cons hi
theorem encs_snoc {l : List ByteArray} {i : Nat} {s : ByteArray} (h : l[i]? = some s) : encs (l.take (i + 1)) = encs (l.take i) ++ enc s := by
  rw [take_snoc h]; simp [encs]
theorem marks_snoc {l : List Bool} {i : Nat} {y : Bool} (h : l[i]? = some y) : marks (l.take (i + 1)) = marks (l.take i) ++ markB y := by
  rw [take_snoc h]; simp [marks]
theorem encs_drop {l : List ByteArray} {i : Nat} {s : ByteArray} (h : l[i]? = some s) : encs (l.drop i) = up s.size ++ bsOf s ++ encs (l.drop (i + 1)) := by
  rw [drop_cons h]; rfl
theorem marks_drop {l : List Bool} {i : Nat} {y : Bool} (h : l[i]? = some y) : marks (l.drop i) = markB y ++ marks (l.drop (i + 1)) := by
  rw [drop_cons h]; rfl
theorem enc_len (s : ByteArray) (h : s.size ≤ 500) : (enc s).length ≤ 509 := by
  unfold enc
  have := up_len9 s.size (by omega)
  rw [List.length_append, bsOf_length]; omega
theorem encs_len (l : List ByteArray) (h : ∀ s ∈ l, s.size ≤ 500) : (encs l).length ≤ 509 * l.length := by
  induction l with
  | nil => simp [encs]
  | cons s l ih =>
    have h1 := enc_len s (h s (by simp))
    have h2 := ih (fun x hx => h x (by simp [hx]))
    have : (encs (s :: l)).length = (enc s).length + (encs l).length := by simp [encs]
    rw [this, List.length_cons]
    omega
theorem marks_len (l : List Bool) : (marks l).length = l.length := by
  induction l with
  | nil => rfl
  | cons y l ih =>
    have : (marks (y :: l)).length = (markB y).length + (marks l).length := by simp [marks]
    rw [this, ih]
    cases y <;> simp [markB] <;> omega
theorem reftext_enc (s : ByteArray) (w : World) (hs : s.size ≤ 1000000) :
    Calls Try.prog 27 #[.string s] w fun e w' => e = .returned (.string (strOf (enc s))) ∧ Below w.heap.size w w' := by
  have := reftext_any s w hs
  rw [show strOf (up s.size) ++ s = strOf (enc s) by unfold enc; rw [strOf_append, strOf_bsOf]] at this
  exact this

def XR1 (w : World) (c : Nat) (l : List ByteArray) (s iv : Value) (wr : World) : Prop :=
  ∃ i : Nat, i ≤ l.length ∧ iv = .int .i64 i ∧ s = .string (strOf (encs (l.take i))) ∧ CoilAt wr (c + 1) c (encs (l.take i)) ∧ Below w.heap.size w wr ∧ c < wr.heap.size ∧ (∀ x ∈ l.take i, x.size ≤ 500)
def XR2 (w : World) (c : Nat) (l : List ByteArray) (ys : List Bool) (s iv : Value) (wr : World) : Prop :=
  ∃ i : Nat, i ≤ ys.length ∧ iv = .int .i64 i ∧ s = .string (strOf (encs l ++ marks (ys.take i))) ∧ CoilAt wr (c + 1) c (encs l ++ marks (ys.take i)) ∧ Below w.heap.size w wr ∧ c < wr.heap.size
/-- the reel's part: what is left -/
def XR3 (w : World) (r : Nat) (bs : Nat → List Nat) (n : Nat) (iv : Value) (wr : World) : Prop :=
  ∃ i : Nat, i ≤ n ∧ iv = .int .i64 i ∧ ReelAt wr r r (bs i) 0 ∧ Below w.heap.size w wr ∧ w.heap.size ≤ r ∧ r < wr.heap.size

set_option maxRecDepth 100000 in
set_option maxHeartbeats 16000000 in
theorem texts_any (a1 a2 : Option Addr) (c1 c2 : Nat) (l : List ByteArray) (ys : List Bool) (w : World) (h1 : ShowsV w a1 (l.map Value.string)) (h2 : ShowsV w a2 (ys.map Value.bool)) (hl1 : l.length ≤ maxLen) (hl2 : ys.length ≤ maxLen) :
    Calls Try.prog 5 #[.slice a1 l.length c1, .slice a2 ys.length c2] w fun e w' => e = .returned (.bool true) ∧ Below w.heap.size w w' := by
  have HA := Lib.hid (⟨h1, h2⟩ : _ ∧ _)
  unfold maxLen at hl1 hl2
  clear h1 h2
  go_enter Try.func5, Try.ntmps5
  go_wp2_with fail
  refine (awake_any w).mono ?_
  rintro e w1 ⟨rfl, hb1⟩
  have HB1 := Lib.hid hb1
  clear hb1
  by_cases hbig : l.length ≤ 20 ∧ ys.length ≤ 20
  · obtain ⟨hn1, hn2⟩ := hbig
    have HC := Lib.hid (coil_new w1)
    have HBC : Hid (Below w.heap.size w (w1.alloc (.cells #[.slice none 0 0] 25)) ∧ w.heap.size ≤ w1.heap.size ∧ w1.heap.size < (w1.alloc (.cells #[.slice none 0 0] 25)).heap.size) := ⟨HB1.out.trans (((Below.refl _ w1).alloc (Nat.le_refl _) _).mono HB1.out.size), HB1.out.size, by simp⟩
    go_wp2_with fail
    generalize w1.alloc (.cells #[.slice none 0 0] 25) = w2 at *
    generalize w1.heap.size = c at *
    have HCW := Lib.hid HBC.out.2.1
    clear HB1
    go_loopw [6, 31] (XR1 w c l) (fun _ iv _ => l.length - (intOf iv).toNat)
    case atStart => exact ⟨0, by omega, rfl, rfl, HC.out, HBC.out.1, HBC.out.2.2, by simp⟩
    case round =>
      obtain ⟨i, hi, rfl, rfl, hco, hbe, hlt, hsm⟩ := hrel
      have HR := Lib.hid (⟨hco, hbe, hlt, hsm⟩ : _ ∧ _ ∧ _ ∧ _)
      clear hco hbe hlt hsm
      by_cases hin : i < l.length
      · obtain ⟨s, hs⟩ : ∃ s, l[i]? = some s := ⟨_, List.getElem?_eq_getElem hin⟩
        obtain ⟨g, o, rfl, hc⟩ := HA.out.1 i (.string s) (by rw [List.getElem?_map, hs]; rfl)
        have hc := (HR.out.2.1.cell (cell_block hc)).trans hc
        have HS := Lib.hid hs
        have i1 : (0 : Int) ≤ (i : Int) := by omega
        have i2 : (i : Int) < (l.length : Int) := by omega
        clear hs
        by_cases hbig : s.size ≤ 500
        · have hle := encs_len _ HR.out.2.2.2
          have hle2 : (l.take i).length ≤ i := by rw [List.length_take]; omega
          have hle3 : (encs (l.take i)).length ≤ 10180 := by omega
          have hen := enc_len s hbig
          clear hle hle2
          go_wp2_with fail
          refine (text_any c (c + 1) (encs (l.take i)) s wr HR.out.1 (by omega) HR.out.2.2.1 (by omega) (by omega)).mono ?_
          rintro e w3 ⟨rfl, hc3, ht3⟩
          have HC3 : Hid (CoilAt w3 (c + 1) c (encs (l.take (i + 1))) ∧ Below w.heap.size w w3 ∧ c < w3.heap.size) := ⟨by rw [encs_snoc HS.out, enc, ← List.append_assoc]; exact hc3, HR.out.2.1.trans (ht3.below (by have := HBC.out.2.1; omega) HBC.out.2.1), Nat.lt_of_lt_of_le HR.out.2.2.1 ht3.size⟩
          have HSM : Hid (∀ x ∈ l.take (i + 1), x.size ≤ 500) := fun x hx => by
            rw [take_snoc HS.out, List.mem_append] at hx
            rcases hx with hx | hx
            · exact HR.out.2.2.2 x hx
            · simp at hx; subst hx; exact hbig
          have HE : Hid (strOf (encs (l.take (i + 1))) = strOf (encs (l.take i)) ++ strOf (enc s)) := (by rw [encs_snoc HS.out, strOf_append] : strOf (encs (l.take (i + 1))) = strOf (encs (l.take i)) ++ strOf (enc s))
          have hz1 : (strOf (encs (l.take i))).size = (encs (l.take i)).length := strOf_size _
          have hz2 : (strOf (enc s)).size = (enc s).length := strOf_size _
          have HD := Lib.hid (reftext_enc s w3 (by omega))
          generalize strOf (encs (l.take i)) = S at *
          generalize strOf (enc s) = T at *
          have hnb : ¬ 9223372036854775807 < S.size + T.size := by omega
          clear hc3 ht3 hz1 hz2 hc
          go_wp2_with fail
          refine HD.out.mono ?_
          rintro e w4 ⟨rfl, hb4⟩
          have HC4 : Hid (CoilAt w4 (c + 1) c (encs (l.take (i + 1))) ∧ Below w.heap.size w w4 ∧ c < w4.heap.size) := ⟨coil_below HC3.out.1 hb4, HC3.out.2.1.trans (hb4.mono HC3.out.2.1.size), Nat.lt_of_lt_of_le HC3.out.2.2 hb4.size⟩
          clear hb4 HD HC3
          go_wp2
          exact ⟨⟨i + 1, by omega, by go_num, by rw [HE.out], HC4.out.1, HC4.out.2.1, HC4.out.2.2, HSM.out⟩, by simp [intOf]; omega⟩
        · go_wp2
          go_ret
          exact ⟨rfl, HR.out.2.1⟩
      · have hil : i = l.length := by omega
        subst hil
        rw [List.take_length] at HR ⊢
        clear HC HBC
        go_wp2_with fail
        go_loopw [6, 47] (XR2 w c l ys) (fun _ iv _ => ys.length - (intOf iv).toNat)
        case atStart => exact ⟨0, by omega, rfl, by simp [marks], by simpa [marks] using HR.out.1, HR.out.2.1, HR.out.2.2.1⟩
        case round =>
          obtain ⟨wo, rfl⟩ : ∃ wo : World, wo = wr := ⟨_, rfl⟩
          have HLE := Lib.hid (encs_len l HR.out.2.2.2)
          have HSZ := Lib.hid HR.out.2.2.2
          have hcw : w.heap.size ≤ c := HCW.out
          clear HR
          obtain ⟨i, hi, rfl, rfl, hco, hbe, hlt⟩ := hrel
          have HR := Lib.hid (⟨hco, hbe, hlt⟩ : _ ∧ _ ∧ _)
          clear hco hbe hlt
          by_cases hin : i < ys.length
          · obtain ⟨y, hs⟩ : ∃ y, ys[i]? = some y := ⟨_, List.getElem?_eq_getElem hin⟩
            obtain ⟨g, o, rfl, hc⟩ := HA.out.2 i (.bool y) (by rw [List.getElem?_map, hs]; rfl)
            have hc := (HR.out.2.1.cell (cell_block hc)).trans hc
            have i1 : (0 : Int) ≤ (i : Int) := by omega
            have i2 : (i : Int) < (ys.length : Int) := by omega
            have hml := marks_len (ys.take i)
            have hml2 : (ys.take i).length ≤ i := by rw [List.length_take]; omega
            have hle3 : (encs l ++ marks (ys.take i)).length ≤ 10200 := by rw [List.length_append]; have := HLE.out; omega
            have HEQ : Hid (encs l ++ marks (ys.take (i + 1)) = (encs l ++ marks (ys.take i)) ++ markB y) := (by rw [marks_snoc hs, List.append_assoc] : encs l ++ marks (ys.take (i + 1)) = (encs l ++ marks (ys.take i)) ++ markB y)
            clear hs hml hml2
            generalize encs l ++ marks (ys.take i) = bs at *
            go_wp2_with fail
            refine (coilmark_any c (c + 1) bs y wo HR.out.1 (by omega) HR.out.2.2 (by omega)).mono ?_
            rintro e w3 ⟨rfl, hc3, ht3⟩
            have HC3 : Hid (CoilAt w3 (c + 1) c (bs ++ markB y) ∧ Below w.heap.size w w3 ∧ c < w3.heap.size) := ⟨hc3, HR.out.2.1.trans (ht3.below (by omega) hcw), Nat.lt_of_lt_of_le HR.out.2.2 ht3.size⟩
            have HE : Hid (strOf (bs ++ markB y) = strOf bs ++ strOf (markB y)) := strOf_append _ _
            have hz1 : (strOf bs).size = bs.length := strOf_size _
            have hz2 : (strOf (markB y)).size = 1 := by rw [strOf_size]; cases y <;> rfl
            have HD := Lib.hid (refmark_any y w3)
            generalize strOf bs = S at *
            generalize strOf (markB y) = T at *
            have hnb : ¬ 9223372036854775807 < S.size + T.size := by omega
            clear hc3 ht3 hz1 hz2 hc
            go_wp2_with fail
            refine HD.out.mono ?_
            rintro e w4 ⟨rfl, rfl⟩
            go_wp2
            exact ⟨⟨i + 1, by omega, by go_num, by rw [HEQ.out, HE.out], by rw [HEQ.out]; exact HC3.out.1, HC3.out.2.1, HC3.out.2.2⟩, by simp [intOf]; omega⟩
          · have hil : i = ys.length := by omega
            subst hil
            rw [List.take_length] at HR ⊢
            have HLEN : Hid ((encs l ++ marks ys).length ≤ 10200) := (by rw [List.length_append, marks_len]; have := HLE.out; omega : (encs l ++ marks ys).length ≤ 10200)
            have HOCT : Hid (Oct (encs l ++ marks ys)) := (encs_oct l).append (marks_oct ys)
            have kz : (strOf (encs l ++ marks ys)).size = (encs l ++ marks ys).length := strOf_size _
            have HKZ := Lib.hid kz
            go_wp2_with fail
            refine (bytes_any c (c + 1) (encs l ++ marks ys) wo HR.out.1 (by have := HLEN.out; omega)).mono ?_
            rintro e w3 ⟨v3, rfl, ho3, hb3⟩
            have k3 := (cut_own ho3 hb3.size).string HOCT.out
            have HB3 := Lib.hid (HR.out.2.1.trans (hb3.mono HR.out.2.1.size))
            obtain ⟨cap4, w4, k4, q1, q2, q3, q4, q5⟩ := conv_str (strOf (encs l ++ marks ys)) w3 (by rw [strOf_size]; have := HLEN.out; unfold maxLen; omega)
            have HQ := Lib.hid (⟨q1, q2, q3, q4, q5⟩ : _ ∧ _ ∧ _ ∧ _ ∧ _)
            clear ho3 hb3 q1 q2 q3 q4 q5 kz
            go_wp2_with fail
            rw [HKZ.out]
            refine (open_any _ cap4 (encs l ++ marks ys) w4 (by rw [← HKZ.out]; exact HQ.out.1) HQ.out.2.1 (by have := HQ.out.2.2.2.1; rw [bsOf_strOf HOCT.out] at this; exact this) (fun ad e => by cases e; rw [HQ.out.2.2.2.2]; exact Nat.lt_succ_self _)).mono ?_
            rintro e w5 ⟨rfl, hr5, hb5⟩
            have HB4 := Lib.hid (HB3.out.trans (HQ.out.2.2.1.mono HB3.out.size))
            have hlt5 : w4.heap.size < w5.heap.size := by obtain ⟨_, _, h, _⟩ := hr5.ex; exact (Array.getElem?_eq_some_iff.1 h).1
            have HR5 := Lib.hid (⟨hr5, HB4.out.trans (hb5.mono HB4.out.size), HB4.out.size, hlt5⟩ : _ ∧ _ ∧ _ ∧ _)
            generalize w4.heap.size = r at *
            clear hr5 hb5 HB4 hlt5 HB3 HQ k3 k4 HR HLE
            go_wp2_with fail
            go_loopw [69] (XR3 w r (fun i => encs (l.drop i) ++ marks ys) l.length) (fun iv _ => l.length - (intOf iv).toNat)
            case atStart => exact ⟨0, by omega, rfl, HR5.out.1, HR5.out.2.1, HR5.out.2.2.1, HR5.out.2.2.2⟩
            case round =>
              obtain ⟨wp, rfl⟩ : ∃ wp : World, wp = wr := ⟨_, rfl⟩
              clear HR5
              obtain ⟨i, hi, rfl, hre, hbe, hle, hlt⟩ := hrel
              simp only at hre
              have HR := Lib.hid (⟨hre, hbe, hle, hlt⟩ : _ ∧ _ ∧ _ ∧ _)
              clear hre hbe hle hlt
              by_cases hin : i < l.length
              · obtain ⟨s, hs⟩ : ∃ s, l[i]? = some s := ⟨_, List.getElem?_eq_getElem hin⟩
                obtain ⟨g, o, rfl, hc⟩ := HA.out.1 i (.string s) (by rw [List.getElem?_map, hs]; rfl)
                have hc := (HR.out.2.1.cell (cell_block hc)).trans hc
                have i1 : (0 : Int) ≤ (i : Int) := by omega
                have i2 : (i : Int) < (l.length : Int) := by omega
                have hsz : s.size ≤ 500 := HSZ.out s (List.mem_of_getElem? hs)
                have HT : Hid (∀ t, textS 500 (encs (l.drop i) ++ t) 0 = (bsOf s, encs (l.drop (i + 1)) ++ t, 0)) := fun t => by
                  have := textS_up 500 (bsOf s) (encs (l.drop (i + 1)) ++ t) (by rw [bsOf_length]; omega) (by rw [bsOf_length]; omega)
                  rw [bsOf_length] at this
                  rw [encs_drop hs, List.append_assoc]
                  exact this
                have hli : (encs (l.drop i) ++ marks ys).length ≤ 1000000 := (by
                  have h1 := encs_len (l.drop i) (fun x hx => HSZ.out x (List.mem_of_mem_drop hx))
                  have h2 : (l.drop i).length ≤ l.length := by rw [List.length_drop]; omega
                  rw [List.length_append, marks_len]; omega)
                have HLI := Lib.hid hli
                clear hli
                have HG := Lib.hid (text_take r r (encs (l.drop i) ++ marks ys) 0 500 wp ((encs_oct _).append (marks_oct ys)) HLI.out HR.out.1 (Nat.le_refl r))
                rw [HT.out] at HG
                simp only [strOf_bsOf] at HG
                clear hs
                go_wp2_with fail
                refine HG.out.mono ?_
                rintro e w6 ⟨rfl, hr6, ht6⟩
                have HR6 := Lib.hid (⟨hr6, HR.out.2.1.trans ((ht6.below (Nat.le_refl r) (Nat.le_of_lt HR.out.2.2.2)).mono HR.out.2.2.1), HR.out.2.2.1, Nat.lt_of_lt_of_le HR.out.2.2.2 ht6.size⟩ : _ ∧ _ ∧ _ ∧ _)
                clear hr6 ht6 HG HT hc HR
                go_wp2
                exact ⟨⟨i + 1, by omega, by go_num, HR6.out.1, HR6.out.2.1, HR6.out.2.2.1, HR6.out.2.2.2⟩, by simp [intOf]; omega⟩
              · have hil : i = l.length := by omega
                subst hil
                rw [List.drop_length] at HR
                go_wp2_with fail
                go_loopw [80] (XR3 w r (fun i => marks (ys.drop i)) ys.length) (fun iv _ => ys.length - (intOf iv).toNat)
                case atStart => exact ⟨0, by omega, rfl, HR.out.1, HR.out.2.1, HR.out.2.2.1, HR.out.2.2.2⟩
                case round =>
                  obtain ⟨wq, rfl⟩ : ∃ wq : World, wq = wr := ⟨_, rfl⟩
                  clear HR
                  obtain ⟨i, hi, rfl, hre, hbe, hle, hlt⟩ := hrel
                  simp only at hre
                  have HR := Lib.hid (⟨hre, hbe, hle, hlt⟩ : _ ∧ _ ∧ _ ∧ _)
                  clear hre hbe hle hlt
                  by_cases hin : i < ys.length
                  · obtain ⟨y, hs⟩ : ∃ y, ys[i]? = some y := ⟨_, List.getElem?_eq_getElem hin⟩
                    obtain ⟨g, o, rfl, hc⟩ := HA.out.2 i (.bool y) (by rw [List.getElem?_map, hs]; rfl)
                    have hc := (HR.out.2.1.cell (cell_block hc)).trans hc
                    have i1 : (0 : Int) ≤ (i : Int) := by omega
                    have i2 : (i : Int) < (ys.length : Int) := by omega
                    have HG := Lib.hid (mark_take r r (marks (ys.drop i)) 0 wq HR.out.1 (Nat.le_refl r))
                    rw [marks_drop hs, markS_markB] at HG
                    clear hs
                    go_wp2_with fail
                    refine HG.out.mono ?_
                    rintro e w6 ⟨rfl, hr6, ht6⟩
                    have HR6 := Lib.hid (⟨hr6, HR.out.2.1.trans ((ht6.below (Nat.le_refl r) (Nat.le_of_lt HR.out.2.2.2)).mono HR.out.2.2.1), HR.out.2.2.1, Nat.lt_of_lt_of_le HR.out.2.2.2 ht6.size⟩ : _ ∧ _ ∧ _ ∧ _)
                    clear hr6 ht6 HG hc HR
                    cases y
                    all_goals
                      go_wp2
                      exact ⟨⟨i + 1, by omega, by go_num, HR6.out.1, HR6.out.2.1, HR6.out.2.2.1, HR6.out.2.2.2⟩, by simp [intOf]; omega⟩
                  · have hil : i = ys.length := by omega
                    subst hil
                    rw [List.drop_length] at HR
                    go_wp2_with fail
                    refine (end_back r r wq HR.out.1).mono ?_
                    rintro e w6 ⟨rfl, rfl⟩
                    go_wp2_with fail
                    refine (left_any r r [] 0 w6 HR.out.1).mono ?_
                    rintro e w7 ⟨rfl, rfl⟩
                    simp only [List.length_nil]
                    go_wp2
                    go_ret
                    exact ⟨rfl, HR.out.2.1⟩
  · have hd : ¬ l.length ≤ 20 ∨ (l.length ≤ 20 ∧ ¬ ys.length ≤ 20) := by omega
    rcases hd with h1 | ⟨h1, h2⟩
    all_goals
      go_wp2_with fail
      refine (awake_any w1).mono ?_
      rintro e w2 ⟨rfl, hb2⟩
      have HB2 := Lib.hid (HB1.out.trans (hb2.mono HB1.out.size))
      clear hb2
      go_wp2
      go_ret
      exact ⟨rfl, HB2.out⟩
end Go.Proofs.Ytdgcafohfedbhaa
