import Derived.Test.YtdgcafohfedbhaaDoorB
import Derived.Lib.SlFresh
import Derived.Lib.BufferRead
import Derived.Deep.Upon
import Derived.Lib.SmallJoins
import Derived.Deep.QuietTactic
import Derived.BigQuiet
import Derived.Below
namespace Go.Proofs.YtdgcafohfedbhaaDoor
open Go.RowKit

def z9 (k : Nat) : Nat := if k < 9 then 49 + k else 0
theorem z9_sum : ((4294967295 - sumTo z9 9 : Nat) : Int) = 3421780262 := by kernel_rfl
theorem NibAt.pos {w : World} (h : NibAt w) : 0 < w.heap.size := by
  have := h 0 (by omega)
  rcases Nat.lt_or_ge 0 w.heap.size with h' | h'
  · exact h'
  · simp [World.cell?, Array.getElem?_eq_none h'] at this
theorem NibAt.below {B : Nat} {w w' : World} (h : NibAt w) (hb : Below B w w') (hB : 0 < B) : NibAt w' := fun i hi => by
  rw [hb.cell (p := ⟨0, i, none⟩) hB]; exact h i hi

set_option maxHeartbeats 4000000 in
theorem awake_any (w : World) (hN : NibAt w) :
    Calls Tryd.prog 6 #[] w fun e w' => e = .returned (.bool true) ∧ Below w.heap.size w w' := by
  have HN := Lib.hid hN
  clear hN
  have kc := fun (w : World) (C : Array Value) (n c : Nat) => Lib.run_convert_bytes_const (P := Tryd.prog) w 22 5 C n c Tryd.underlying22 Tryd.underlying5
  go_enter Tryd.func6, Tryd.ntmps6
  go_wp2_with fail
  refine (sum_any _ 9 9 z9 _ ?_ (fun k => by unfold z9; split <;> omega) (by unfold maxLen; omega) ?_).mono ?_
  · intro i hi
    refine ⟨by unfold z9; split <;> omega, _, rfl, ?_⟩
    rw [Addr.add_lit, Nat.zero_add, World.cell?_alloc_mark]
    have h : i = 0 ∨ i = 1 ∨ i = 2 ∨ i = 3 ∨ i = 4 ∨ i = 5 ∨ i = 6 ∨ i = 7 ∨ i = 8 := by omega
    rcases h with rfl | rfl | rfl | rfl | rfl | rfl | rfl | rfl | rfl <;> rfl
  · refine HN.out.below (B := w.heap.size) ?_ HN.out.pos
    exact (Below.refl _ w).alloc (Nat.le_refl _) _
  · rintro e w' ⟨rfl, rfl⟩
    rw [z9_sum]
    go_wp2
    go_ret
    exact ⟨rfl, (Below.refl _ w).alloc (Nat.le_refl _) _⟩

/-- the document's sum of s -/
def cs (s : ByteArray) : Int := ((4294967295 - sumR (zS s) s.size : Nat) : Int)
theorem cs_ref (s : ByteArray) (w : World) (hn : s.size ≤ maxLen) :
    Calls Tryd.prog 8 #[.string s] w fun e w' => e = .returned (.int .u32 (cs s)) ∧ w' = w := (sumR_any s w hn).mono fun _ _ ⟨he, hw⟩ => ⟨he, hw.symm⟩
theorem bytesAt (w : World) (b o : Nat) (s : ByteArray) (h : Lib.Bytes w b o s) : BytesAt w (some ⟨b, o, none⟩) s.size (zS s) := fun i hi =>
  ⟨zS_lt s i, _, rfl, by rw [Addr.add_lit, h i hi]; unfold zS; rw [dif_pos hi]⟩
theorem cs_own (b o c : Nat) (s : ByteArray) (w : World) (h : Lib.Bytes w b o s) (hn : s.size ≤ maxLen) (hN : NibAt w) :
    Calls Tryd.prog 7 #[.slice (some ⟨b, o, none⟩) s.size c] w fun e w' => e = .returned (.int .u32 (cs s)) ∧ w' = w := by
  refine (sum_any _ _ c (zS s) w (bytesAt w b o s h) (zS_lt s) hn hN).mono fun e w' ⟨he, hw⟩ => ⟨?_, hw.symm⟩
  rw [he, sums_one _ (zS_lt s)]; rfl

/-- what came in: no bytes, or bytes in a block -/
def InB (w : World) (v : Value) (s : ByteArray) : Prop :=
  (v = .slice none 0 0 ∧ s = ⟨#[]⟩) ∨ (∃ a c, v = .slice (some a) 0 c ∧ s = ⟨#[]⟩) ∨ ∃ b o c, v = .slice (some ⟨b, o, none⟩) s.size c ∧ Lib.Bytes w b o s
theorem InB.string {w : World} {v : Value} {s : ByteArray} (h : InB w v s) : (convert 22 9 v).run Tryd.prog w = .ok (.string s) w := by
  rcases h with ⟨rfl, rfl⟩ | ⟨a, c, rfl, rfl⟩ | ⟨b, o, c, rfl, h⟩
  · exact Lib.run_convert_nil_bytes w 22 9 5 0 Tryd.underlying22 Tryd.underlying5 Tryd.underlying9
  · exact run_convert_bytes_back w 22 9 5 a c [] Tryd.underlying22 Tryd.underlying5 Tryd.underlying9 (fun j hj => by simp at hj)
  · exact Lib.run_convert_whole w 22 5 9 Tryd.underlying22 Tryd.underlying5 Tryd.underlying9 b o s h c
theorem InB.form {w : World} {v : Value} {s : ByteArray} (h : InB w v s) : ∃ ao c, v = .slice ao s.size c := by
  rcases h with ⟨rfl, rfl⟩ | ⟨a, c, rfl, rfl⟩ | ⟨b, o, c, rfl, h⟩
  · exact ⟨none, 0, rfl⟩
  · exact ⟨some a, c, rfl⟩
  · exact ⟨_, c, rfl⟩
theorem bytes_below {w w' : World} {b o : Nat} {s : ByteArray} (h : Lib.Bytes w b o s) (hb : ∀ k, k < w.heap.size → w'.heap[k]? = w.heap[k]?) : Lib.Bytes w' b o s := fun i hi => by
  have h0 := h i hi
  have hlt : b < w.heap.size := by
    rcases Nat.lt_or_ge b w.heap.size with h' | h'
    · exact h'
    · simp [World.cell?, Array.getElem?_eq_none h'] at h0
  rw [← h0]
  exact World.cell?_of_block (w := w) (hb b hlt)
theorem InB.below {w w' : World} {v : Value} {s : ByteArray} (h : InB w v s) (hb : ∀ k, k < w.heap.size → w'.heap[k]? = w.heap[k]?) : InB w' v s := by
  rcases h with h | h | ⟨b, o, c, hv, h⟩
  · exact .inl h
  · exact .inr (.inl h)
  · exact .inr (.inr ⟨b, o, c, hv, bytes_below h hb⟩)
theorem info5 : (Tryd.prog.info? 5).map (fun i => (i.zero, i.size, i.bytes)) = some (some (Value.int IntKind.u8 0), 1, 1) := by kernel_rfl

theorem append_copy (W : World) (v : Value) (s : ByteArray) (h : InB W v s) (hs : s.size ≤ 1000) (b0 : Nat) :
    ∃ g c w', (Builtin.append_ #[22, 22] 22 #[.slice (some ⟨b0, 0, none⟩) 0 0, v]).run Tryd.prog W = .ok (.slice (some ⟨g, 0, none⟩) s.size c) w' ∧ Lib.Bytes w' g 0 s ∧ W.grownBy w' none := by
  obtain ⟨i, hi, hzz⟩ := Option.map_eq_some_iff.1 info5
  by_cases h0 : 0 < s.size
  · rcases h with ⟨_, rfl⟩ | ⟨_, _, _, rfl⟩ | ⟨b, o, c, rfl, h⟩
    · exact absurd h0 (by decide)
    · exact absurd h0 (by decide)
    · obtain ⟨v', w', hr, hf, hg⟩ := Lib.run_append_onto_empty (P := Tryd.prog) W 22 22 5 info5 Tryd.underlying22 ⟨b0, 0, none⟩ b o c s h h0 (by omega)
      obtain ⟨g, cap, zs, rfl, _, hl, _, hz, hrg, hbo, hc, _⟩ := hf
      have hsz : s.data.toList.length = s.size := by simp
      rw [hsz] at hr hl
      refine ⟨g, cap, w', hr, ?_, hg⟩
      have hb := Lib.bytes_of_nums (w := w') (b := g) (o := 0) (n := s.size) (xs := zs.take s.size) (by rw [List.length_take]; omega) (fun x hx => hrg x (List.mem_of_mem_take hx)) (fun i hi => by
        rw [Nat.zero_add, hc i (by omega)]
        simp [List.getD, List.getElem?_take_of_lt hi])
      have e : strOfNums (zs.take s.size) = s := by
        apply ByteArray.ext
        apply Array.toList_inj.1
        rw [strOfNums_data]
        rw [hsz] at hbo
        exact hbo
      rw [e] at hb
      exact hb
  · have hs0 : s.size = 0 := by omega
    have hr := run_append_nothing (P := Tryd.prog) W 22 22 22 5 i Tryd.underlying22 hi (some ⟨b0, 0, none⟩) 0 0 (Nat.le_refl _) v ?_
    · refine ⟨b0, 0, W, by rw [hr, hs0], fun i hi => by omega, ?_⟩
      exact World.grownBy.refl _ _
    · rcases h with ⟨rfl, rfl⟩ | ⟨a, c, rfl, rfl⟩ | ⟨b, o, c, rfl, h⟩
      · exact Src.ofNil (P := Tryd.prog) W Tryd.underlying22 0
      · exact Src.ofSlice (P := Tryd.prog) W Tryd.underlying22 a 0 c [] (by simp) (by simp) (by simp)
      · rw [hs0]
        exact Src.ofSlice (P := Tryd.prog) W Tryd.underlying22 ⟨b, o, none⟩ 0 c [] (by simp) (by simp) (by simp)

set_option maxHeartbeats 4000000 in
theorem sums_law (v : Value) (s : ByteArray) (w : World) (hv : InB w v s) (hm : s.size ≤ maxLen) (hN : NibAt w) :
    Calls Tryd.prog 3 #[v] w fun e w' => e = .returned (.bool true) ∧ Below w.heap.size w w' := by
  have HV := Lib.hid hv
  have HN := Lib.hid hN
  obtain ⟨ao, c, rfl⟩ := hv.form
  clear hv hN
  unfold maxLen at hm
  go_enter Tryd.func3, Tryd.ntmps3
  go_wp2_with fail
  refine (awake_any w HN.out).mono ?_
  rintro e w1 ⟨rfl, hb1⟩
  have H1 := Lib.hid hb1
  clear hb1
  by_cases hbig : s.size > 1000
  · go_wp2_with fail
    refine (awake_any w1 ?_).mono ?_
    · exact HN.out.below H1.out HN.out.pos
    rintro e w2 ⟨rfl, hb2⟩
    have H2 := Lib.hid (H1.out.trans (hb2.mono H1.out.size))
    clear hb2
    go_wp2
    go_ret
    exact ⟨rfl, H2.out⟩
  · have hlt : w.heap.size ≤ w1.heap.size := H1.out.size
    have hv1 : InB w1 (.slice ao s.size c) s := HV.out.below fun k hk => H1.out.block k hk
    obtain ⟨g, c', w2, hr, hB, hg⟩ := append_copy (w1.alloc (.cells #[] 5)) _ s (hv1.below fun k hk => Below.heap_alloc w1 _ k hk) (by omega) w1.heap.size
    have HR := Lib.hid hr
    have HB := Lib.hid hB
    have HG := Lib.hid hg
    have HV1 := Lib.hid hv1
    clear hr hB hg hv1
    go_wp2_with (first | (at_builtin; refine Lib.wpList_append_run_sl _ rfl _ _ 22 rfl _ _ rfl rfl HR.out ?_) | fail)
    have HV2 : Hid (InB w2 (.slice ao s.size c) s) := HV1.out.below fun k hk => by
      rw [HG.out.block k (by simp; omega) (by simp), Below.heap_alloc w1 _ k hk]
    have H2 : Hid (Below w.heap.size w w2) := by
      refine H1.out.trans ?_
      exact ((Below.refl w1.heap.size w1).alloc (Nat.le_refl _) (.cells #[] 5)).grown HG.out (by simp) (by simp) |>.mono hlt
    have HN2 : Hid (NibAt w2) := HN.out.below H2.out HN.out.pos
    have k1 : ∀ n, (convert 22 9 (.slice (some ⟨g, 0, none⟩) s.size c')).run Tryd.prog (w2.drewN n) = .ok (.string s) (w2.drewN n) := fun n =>
      Lib.run_convert_whole _ 22 5 9 Tryd.underlying22 Tryd.underlying5 Tryd.underlying9 g 0 s (HB.out.drewN n) c'
    have k2 : ∀ n, (convert 22 9 (.slice ao s.size c)).run Tryd.prog (w2.drewN n) = .ok (.string s) (w2.drewN n) := fun n =>
      (InB.below HV2.out (w' := w2.drewN n) fun k _ => rfl).string
    go_quiet (first | (go_at_call 7; exact Calls.quiet_of_same (cs_own g 0 c' s _ (HB.out.drewN _) (by unfold maxLen; omega) (fun i hi => HN2.out i hi)))
                    | (go_at_call 8; exact Calls.quiet_of_same (cs_ref s _ (by unfold maxLen; omega))))
    go_wp2
    go_ret
    exact ⟨rfl, H2.out.trans ⟨rfl, rfl, rfl, Nat.le_refl _, fun _ _ => rfl⟩⟩
end Go.Proofs.YtdgcafohfedbhaaDoor
