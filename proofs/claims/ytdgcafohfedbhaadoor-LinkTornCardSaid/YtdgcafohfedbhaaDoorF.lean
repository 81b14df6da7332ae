import Derived.Test.YtdgcafohfedbhaaDoorE
namespace Go.Proofs.YtdgcafohfedbhaaDoor.T
open Go.RowKit Go.Joins
open Go.Proofs.YtdgcafohfedbhaaDoor.K
attribute [local go_sem] Oper.semAt_some
set_option linter.unusedVariables false
set_option linter.unusedSimpArgs false

theorem coil_new (w : World) : CoilAt (w.alloc (.cells #[.slice none 0 0] 45)) (w.heap.size + 1) w.heap.size [] :=
  ⟨_, heap_alloc_new w _, World.ownsRow_nil _ _ _ _⟩
theorem touchB_below {c B : Nat} {w w' : World} (h : TouchB c B w w') {n : Nat} (hn : n ≤ B) (hc : n ≤ c) : Below n w w' :=
  ⟨h.os, h.tape, h.output, h.size, fun k hk => h.block k (by omega) (by omega)⟩

theorem cut_keep {w w' : World} {B : Nat} {v : Value} {bs : List Nat} (h : Cut w B v bs) (hb : Below w.heap.size w w') : Cut w' B v bs := by
  obtain ⟨a, cap, rfl, h1, h2⟩ := h
  refine ⟨a, cap, rfl, fun i x hx => ?_, h2⟩
  obtain ⟨g, o, e, hc⟩ := h1 i x hx
  exact ⟨g, o, e, by rw [hb.cell (cell_block hc)]; exact hc⟩
set_option maxHeartbeats 8000000 in
theorem frame_any (a : Option Addr) (c : Nat) (bs : List Nat) (w : World) {Bc : Nat} (h : Cut w Bc (.slice a bs.length c) bs) (ho : Oct bs) (hl : bs.length ≤ 200000) (hN : NibAt w) :
    Calls Tryd.prog 9 #[.slice a bs.length c] w fun e w' => ∃ v, e = .returned (.tuple #[v, .int .i64 0]) ∧ w'.ownsRow w.heap.size 5 1 v (frm bs).length (byts (frm bs)) ∧ Below w.heap.size w w' := by
  have HC := Lib.hid (coil_new w)
  have HB := Lib.hid ((Below.refl w.heap.size w).alloc (Nat.le_refl _) (.cells #[.slice none 0 0] 45))
  have HCU := Lib.hid (cut_keep h HB.out)
  have HN := Lib.hid hN
  have HO := Lib.hid ho
  have HS : Hid ((w.alloc (.cells #[.slice none 0 0] 45)).heap.size = w.heap.size + 1) := (by simp : (w.alloc (.cells #[.slice none 0 0] 45)).heap.size = w.heap.size + 1)
  clear h hN ho
  have k1 := HCU.out.string HO.out
  go_enter Tryd.func9, Tryd.ntmps9
  go_wp2_with fail
  generalize w.alloc (.cells #[.slice none 0 0] 45) = w1 at *
  clear k1
  have hsz : (strOf bs).size = bs.length := strOf_size bs
  have HT := Lib.hid (text_any w.heap.size (w.heap.size + 1) [] (strOf bs) w1 HC.out (by omega) (Nat.le_of_eq HS.out.symm) (by simp) (by omega))
  rw [hsz, bsOf_strOf HO.out, List.nil_append] at HT
  clear hsz
  refine HT.out.mono ?_
  rintro e w2 ⟨rfl, hc2, ht2⟩
  have H2 : Hid (CoilAt w2 (w.heap.size + 1) w.heap.size (encN bs) ∧ Below w.heap.size w w2) := ⟨hc2, HB.out.trans (touchB_below ht2 (by omega) (Nat.le_refl _))⟩
  clear hc2 ht2 HT
  have hel : (encN bs).length ≤ 200009 := by unfold encN; rw [List.length_append]; have := up_len9 bs.length (by omega); omega
  have hep : 0 < (encN bs).length := by unfold encN; rw [List.length_append, up_len]; have := len_pos bs.length; omega
  have HEO := Lib.hid (encN_oct HO.out)
  have HFR : Hid (frm bs = hd4 (csN (encN bs)) ++ encN bs) := (rfl : frm bs = hd4 (csN (encN bs)) ++ encN bs)
  have hcs := csN_lt (encN bs)
  generalize encN bs = e at *
  go_wp2_with fail
  refine (bytes_any w.heap.size (w.heap.size + 1) e w2 H2.out.1 (by omega)).mono ?_
  rintro _ w3 ⟨v3, rfl, ho3, hb3⟩
  have hs2 : w.heap.size ≤ w2.heap.size := H2.out.2.size
  obtain ⟨g, cap, rfl, hg1, hg2⟩ := ho3.form hep
  have H3 : Hid (w3.ownsRow w2.heap.size 5 1 (.slice (some ⟨g, 0, none⟩) e.length cap) e.length (byts e) ∧ Below w.heap.size w w3 ∧ NibAt w3) := ⟨ho3, H2.out.2.trans (hb3.mono hs2), HN.out.below (H2.out.2.trans (hb3.mono hs2)) HN.out.pos⟩
  have HCU3 := Lib.hid (cut_own ho3 hb3.size)
  clear ho3 hb3
  go_wp2_with fail
  refine (sum_shows (some ⟨g, 0, none⟩) cap e w3 ?_ HEO.out (by unfold maxLen; omega) H3.out.2.2).mono ?_
  · obtain ⟨_, _, e1, hsh, _⟩ := HCU3.out
    cases e1
    exact hsh
  rintro _ w4 ⟨rfl, rfl⟩
  generalize csN e = n at *
  obtain ⟨i5, hi5, hz5⟩ := Option.map_eq_some_iff.1 K.info5
  simp only [Prod.mk.injEq] at hz5
  have hb4 : Below w4.heap.size w4 (w4.alloc (.cells #[.int .u8 ((n : Int) / 16777216), .int .u8 ((n : Int) / 65536 % 256), .int .u8 ((n : Int) / 256 % 256), .int .u8 ((n : Int) % 256)] 5)) := (Below.refl _ w4).alloc (Nat.le_refl _) _
  have HB4 := Lib.hid hb4
  have HR4 : Hid ((w4.alloc (.cells #[.int .u8 ((n : Int) / 16777216), .int .u8 ((n : Int) / 65536 % 256), .int .u8 ((n : Int) / 256 % 256), .int .u8 ((n : Int) % 256)] 5)).ownsRow w4.heap.size 5 1 (.slice (some ⟨w4.heap.size, 0, none⟩) 4 4) 4 [.int .u8 ((n : Int) / 16777216), .int .u8 ((n : Int) / 65536 % 256), .int .u8 ((n : Int) / 256 % 256), .int .u8 ((n : Int) % 256)]) :=
    ⟨rfl, .inr ⟨w4.heap.size, 4, _, rfl, Nat.le_refl _, heap_alloc_new w4 _, Nat.le_refl _, by decide, rfl, rfl⟩⟩
  have HN4 : Hid (∀ j u, (byts e)[j]? = some u → (w4.alloc (.cells #[.int .u8 ((n : Int) / 16777216), .int .u8 ((n : Int) / 65536 % 256), .int .u8 ((n : Int) / 256 % 256), .int .u8 ((n : Int) % 256)] 5)).cell? ((⟨g, 0, none⟩ : Addr).add j) = some u) := fun j u hu => by
    have hj := (List.getElem?_eq_some_iff.1 hu).1
    rw [byts_length] at hj
    rw [Addr.add_lit, Nat.zero_add, (own_below H3.out.1 HB4.out).cellAt j (by omega)]
    exact hu
  clear hb4
  go_wp2_with (first
    | (at_builtin
       refine wpList_append_own _ rfl _ _ 22 rfl w4.heap.size 5 i5 _ 1 1 Tryd.underlying22 hi5 hz5.1 hz5.2.1 hz5.2.2 rfl (by omega) _ 4 _ rfl HR4.out ⟨g, 0, none⟩ e.length cap (byts e) rfl (by rw [byts_length, Nat.mul_one]) HN4.out (byts_one _) (by unfold maxLen; omega) (by omega) (by simp) ?_)
    | fail)
  intro v5 w5 hown5 hg5 _
  have HF : Hid (w5.ownsRow w.heap.size 5 1 v5 (frm bs).length (byts (frm bs)) ∧ Below w.heap.size w w5) := by
    have hs4 : w.heap.size ≤ w4.heap.size := H3.out.2.1.size
    refine ⟨?_, H3.out.2.1.trans ((HB4.out.grown hg5 (by simp) (fun k hk => Nat.le_of_eq (Option.some.inj hk))).mono hs4)⟩
    have h1 : (frm bs).length = 4 + e.length := by rw [HFR.out]; simp [hd4]; omega
    have h2 : byts (frm bs) = [.int .u8 ((n : Int) / 16777216), .int .u8 ((n : Int) / 65536 % 256), .int .u8 ((n : Int) / 256 % 256), .int .u8 ((n : Int) % 256)] ++ byts e := by
      rw [HFR.out, byts_append]
      simp [byts, hd4]
    rw [h1, h2]
    exact own_base hown5 hs4
  obtain ⟨ao5, cap5, rfl⟩ := own_form hown5
  clear hown5 hg5
  go_wp2
  go_ret2
  exact ⟨_, rfl, HF.out.1, HF.out.2⟩
theorem frame_full (a : Option Addr) (n c : Nat) (w : World) (hl : 200000 < n) (hm : n ≤ 9223372036854775807) :
    Calls Tryd.prog 9 #[.slice a n c] w fun e w' => e = .returned (.tuple #[.slice none 0 0, .int .i64 3]) ∧ w' = w := by
  have h : (200000 : Int) < (n : Int) := by omega
  go_enter Tryd.func9, Tryd.ntmps9
  go_wp2
  go_ret2
  exact ⟨rfl, rfl⟩

theorem refframe_any (bs : List Nat) (w : World) (ho : Oct bs) (hl : bs.length ≤ 900000) :
    Calls Tryd.prog 11 #[.string (strOf bs)] w fun e w' => e = .returned (.string (strOf (frm bs))) ∧ Below w.heap.size w w' := by
  have hsz := strOf_size bs
  have HT := Lib.hid (reftext_enc (strOf bs) w (by omega))
  rw [show enc (strOf bs) = encN bs by unfold enc encN; rw [hsz, bsOf_strOf ho]] at HT
  have hel : (encN bs).length ≤ 900009 := by unfold encN; rw [List.length_append]; have := up_len9 bs.length (by omega); omega
  have HFR : Hid (frm bs = hd4 (csN (encN bs)) ++ encN bs) := (rfl : frm bs = hd4 (csN (encN bs)) ++ encN bs)
  have hcs := csN_lt (encN bs)
  have HS := Lib.hid (fun w' : World => refsum (encN bs) w' (by unfold maxLen; omega))
  have hz : (strOf (encN bs)).size ≤ 900009 := by rw [strOf_size]; exact hel
  clear hsz
  generalize encN bs = e at *
  go_enter Tryd.func11, Tryd.ntmps11
  go_wp2_with fail
  refine HT.out.mono ?_
  rintro _ w2 ⟨rfl, hb2⟩
  have HB2 := Lib.hid hb2
  clear hb2
  go_wp2_with fail
  refine (HS.out w2).mono ?_
  rintro _ w3 ⟨rfl, rfl⟩
  generalize csN e = n at *
  have k4 : (convert 22 9 (.slice (some ⟨w3.heap.size, 0, none⟩) 4 4)).run Tryd.prog (w3.alloc (.cells #[.int .u8 ((n : Int) / 16777216), .int .u8 ((n : Int) / 65536 % 256), .int .u8 ((n : Int) / 256 % 256), .int .u8 ((n : Int) % 256)] 5)) = .ok (.string (strOf (hd4 n))) (w3.alloc (.cells #[.int .u8 ((n : Int) / 16777216), .int .u8 ((n : Int) / 65536 % 256), .int .u8 ((n : Int) / 256 % 256), .int .u8 ((n : Int) % 256)] 5)) := by
    have hown : (w3.alloc (.cells #[.int .u8 ((n : Int) / 16777216), .int .u8 ((n : Int) / 65536 % 256), .int .u8 ((n : Int) / 256 % 256), .int .u8 ((n : Int) % 256)] 5)).ownsRow w3.heap.size 5 1 (.slice (some ⟨w3.heap.size, 0, none⟩) 4 4) (hd4 n).length (byts (hd4 n)) :=
      ⟨rfl, .inr ⟨w3.heap.size, 4, _, rfl, Nat.le_refl _, heap_alloc_new w3 _, Nat.le_refl _, by decide, rfl, by simp [byts, hd4]⟩⟩
    exact (cut_own hown (by simp)).string (hd4_oct n hcs)
  have hnb : ¬ 9223372036854775807 < (strOf (hd4 n)).size + (strOf e).size := by rw [strOf_size]; simp only [hd4, List.length_cons, List.length_nil]; omega
  have HE : Hid (strOf (hd4 n) ++ strOf e = strOf (frm bs)) := (by rw [HFR.out, strOf_append] : strOf (hd4 n) ++ strOf e = strOf (frm bs))
  have HBE := Lib.hid (HB2.out.alloc HB2.out.size (.cells #[.int .u8 ((n : Int) / 16777216), .int .u8 ((n : Int) / 65536 % 256), .int .u8 ((n : Int) / 256 % 256), .int .u8 ((n : Int) % 256)] 5))
  go_wp2
  go_ret
  refine ⟨by rw [← HE.out]; rfl, HBE.out⟩
end Go.Proofs.YtdgcafohfedbhaaDoor.T
