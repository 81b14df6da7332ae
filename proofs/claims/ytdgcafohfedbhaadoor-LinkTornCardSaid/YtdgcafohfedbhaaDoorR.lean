import Derived.Test.YtdgcafohfedbhaaDoorQ
import Derived.BigRegion
namespace Go.Proofs.YtdgcafohfedbhaaDoor.T
open Go.RowKit Go.Joins
open Go.Proofs.YtdgcafohfedbhaaDoor.K
attribute [local go_sem] Oper.semAt_some
set_option linter.unusedVariables false
set_option linter.unusedSimpArgs false

theorem xor_u8 (a b : Int) : ∃ nb : Nat, nb < 256 ∧ bits BinOp.xor IntKind.u8 a b = (nb : Int) := by
  have h : ∃ z : Int, bits BinOp.xor IntKind.u8 a b = IntKind.u8.wrap z := ⟨_, rfl⟩
  obtain ⟨z, hz⟩ := h
  rw [IntKind.wrap_u8] at hz
  refine ⟨(z % 256).toNat, by omega, by rw [hz]; omega⟩
/-- the payloads that came in -/
def Items (w : World) (al : Option Addr) (L : List (List Nat)) : Prop := ∀ (i : Nat) (x : List Nat), L[i]? = some x → ∃ gg oo vi, al = some ⟨gg, oo, none⟩ ∧ w.cell? ⟨gg, oo + i, none⟩ = some vi ∧ ∃ B, Cut w B vi x

set_option maxRecDepth 100000 in
set_option maxHeartbeats 32000000 in
theorem bent_any (ac al : Option Addr) (cc nl capl bit N : Nat) (L : List (List Nat)) (w : World) (hch : Cut w w.heap.size (.slice ac N cc) (chain L)) (hN : (chain L).length = N) (hI : Items w al L) (hnl : L.length = nl) (hnl2 : nl ≤ 1000) (hbit : bit < 65536) (hNl : N ≤ 100000) (hLo : ∀ x ∈ L, Oct x ∧ x.length ≤ 200000) (hNi : NibAt w) :
    Calls Tryd.prog 13 #[.slice ac N cc, .slice al nl capl, .int .i64 (bit : Int)] w fun e w' => e = .returned (.bool true) ∧ Below w.heap.size w w' := by
  by_cases h0 : N = 0
  · subst h0
    clear hch hI
    go_enter Tryd.func13, Tryd.ntmps13
    go_wp2
    go_ret
    exact ⟨rfl, ((Below.refl _ w).alloc (Nat.le_refl _) _).alloc (by simp) _⟩
  · have HQ := Lib.hid (⟨hch, hN, hI, hnl, hLo, hNi⟩ : _ ∧ _ ∧ _ ∧ _ ∧ _ ∧ _)
    have hz : ((N : Int) == 0) = false := by simp; omega
    have hmf : ∀ (fn : Fn) (first cap : Array Value) (w : World), (Instr.makeFunc fn first cap).run Tryd.prog w = .ok (.func fn first cap) w := fun _ _ _ _ => rfl
    obtain ⟨x0, hx0⟩ : ∃ x0, w.heap.size = x0 := ⟨_, rfl⟩
    -- the boxes, the copy
    obtain ⟨w3, hw3⟩ : ∃ w3, ((w.alloc (.cells #[.slice al nl capl] 32)).alloc (.cells #[.int .i64 (bit : Int)] 3)).alloc (.cells #[] 5) = w3 := ⟨_, rfl⟩
    have hb3 : Below x0 w w3 := by subst hw3 hx0; exact (((Below.refl _ w).alloc (Nat.le_refl _) _).alloc (by simp) _).alloc (by simp; omega) _
    have hs3 : w3.heap.size = x0 + 3 := by subst hw3 hx0; simp
    have g0 : w3.heap[x0]? = some (.cells #[.slice al nl capl] 32 (0, 0)) := by
      subst hw3 hx0
      exact (Below.heap_alloc _ _ _ (by simp; omega)).trans ((Below.heap_alloc _ _ _ (by simp)).trans (heap_alloc_new w _))
    have g1 : w3.heap[x0 + 1]? = some (.cells #[.int .i64 (bit : Int)] 3 (0, 0)) := by
      subst hw3 hx0
      have := heap_alloc_new (w.alloc (.cells #[.slice al nl capl] 32)) (.cells #[.int .i64 (bit : Int)] 3)
      rw [show (w.alloc (.cells #[.slice al nl capl] 32)).heap.size = w.heap.size + 1 by simp] at this
      exact (Below.heap_alloc _ _ _ (by simp)).trans this
    have g2 : w3.heap[x0 + 2]? = some (.cells #[] 5 (0, 0)) := by
      subst hw3 hx0
      have := heap_alloc_new ((w.alloc (.cells #[.slice al nl capl] 32)).alloc (.cells #[.int .i64 (bit : Int)] 3)) (.cells #[] 5)
      rw [show ((w.alloc (.cells #[.slice al nl capl] 32)).alloc (.cells #[.int .i64 (bit : Int)] 3)).heap.size = w.heap.size + 2 by simp] at this
      exact this
    have hcu3 := cut_below HQ.out.1 (Nat.le_refl _) (by rw [hx0]; exact hb3)
    obtain ⟨v5, w5, hr, ho5, hg5⟩ := run_append_cut w3 (x0 + 2) (x0 + 2) ac cc (chain L) ⟨rfl, .inr ⟨x0 + 2, 0, #[], rfl, Nat.le_refl _, g2, Nat.le_refl _, by decide, rfl, rfl⟩⟩ (by
      obtain ⟨a', c', e, h1, h2⟩ := hcu3
      cases e
      exact h1) (by omega) (by omega)
    rw [HQ.out.2.1] at hr ho5
    have HR : Hid ((Builtin.append_ #[22, 22] 22 #[.slice (some ⟨w.heap.size + 1 + 1, 0, none⟩) 0 0, .slice ac N cc]).run Tryd.prog (((w.alloc (.cells #[.slice al nl capl] 32)).alloc (.cells #[.int .i64 (bit : Int)] 3)).alloc (.cells #[] 5)) = .ok v5 w5) := (by rw [hw3, hx0]; exact hr : _ = _)
    obtain ⟨g, cap5, rfl, hgl, hgh⟩ := ho5.form (by omega)
    have hs5 : x0 + 3 ≤ w5.heap.size := by have := hg5.size; omega
    have k5 : ∀ k, k < x0 + 2 → w5.heap[k]? = w3.heap[k]? := fun k hk => hg5.block k (by omega) (fun e => by simp at e; omega)
    have hb5 : Below x0 w w5 := ⟨hg5.os.trans hb3.os, hg5.tape.trans hb3.tape, hg5.output.trans hb3.output, by have := hb3.size; omega, fun k hk => (k5 k (by omega)).trans (hb3.block k hk)⟩
    have H5 := Lib.hid (⟨ho5, hb5, (k5 x0 (by omega)).trans g0, (k5 (x0 + 1) (by omega)).trans g1⟩ : _ ∧ _ ∧ _ ∧ _)
    have HX0 := Lib.hid hx0
    have HW3 := Lib.hid hw3
    clear hch hN hI hnl hLo hNi hr ho5 hg5 k5 hb5 hb3 g0 g1 g2 hcu3 hx0 hw3
    go_enter Tryd.func13, Tryd.ntmps13
    go_wp2_with (first | (at_builtin; refine Lib.wpList_append_run_sl _ rfl _ _ 22 rfl _ _ rfl rfl HR.out ?_) | fail)
    rw [HX0.out]
    obtain ⟨bb, hbb⟩ : ∃ bb, w5.heap.size = bb := ⟨_, rfl⟩
    have hb6 : Below bb w5 (w5.alloc (.cells #[.slice (some ⟨g, 0, none⟩) N cap5] 22)) := by rw [← hbb]; exact (Below.refl _ w5).alloc (Nat.le_refl _) _
    have hn6 : (w5.alloc (.cells #[.slice (some ⟨g, 0, none⟩) N cap5] 22)).heap[bb]? = some (.cells #[.slice (some ⟨g, 0, none⟩) N cap5] 22 (0, 0)) := by rw [← hbb]; exact heap_alloc_new w5 _
    have hz6 : (w5.alloc (.cells #[.slice (some ⟨g, 0, none⟩) N cap5] 22)).heap.size = bb + 1 := by rw [← hbb]; simp
    rw [hbb]
    generalize w5.alloc (.cells #[.slice (some ⟨g, 0, none⟩) N cap5] 22) = w6 at *
    have hb6' : Below w5.heap.size w5 w6 := by rw [hbb]; exact hb6
    have ho6 := own_below H5.out.1 hb6'
    have p0 := below_blk hb6' H5.out.2.2.1
    have p1 := below_blk hb6' H5.out.2.2.2
    have hbel6 : Below x0 w w6 := H5.out.2.1.trans (hb6.mono (by omega))
    obtain ⟨T, hT⟩ : ∃ T, bit / 8 % N = T := ⟨_, rfl⟩
    have hTN : T < N := by rw [← hT]; exact Nat.mod_lt _ (by omega)
    obtain ⟨b0, hb0⟩ : ∃ b0, (chain L)[T]? = some b0 := ⟨_, List.getElem?_eq_getElem (by rw [HQ.out.2.1]; exact hTN)⟩
    have hchO := chain_oct L (fun x hx => (HQ.out.2.2.2.2.1 x hx).1)
    have hb08 := hchO T b0 hb0
    have q0 : w6.cell? ⟨bb, 0, none⟩ = some (.slice (some ⟨g, 0, none⟩) N cap5) := by simp [World.cell?, hn6]
    have q1 : w6.cell? ⟨x0 + 1, 0, none⟩ = some (.int .i64 (bit : Int)) := by simp [World.cell?, p1]
    have q2 : w6.cell? ⟨g, T, none⟩ = some (.int .u8 (b0 : Int)) := (ho6.cellAt T (by omega)).trans (byts_get hb0)
    have q3 : w6.frozen? ⟨g, T, none⟩ = false := own_free ho6 T
    have e1 : (bit : Int) / 8 % (N : Int) = (T : Int) := by rw [← hT]; simp
    have i0 : (0 : Int) ≤ (T : Int) := by omega
    have i1 : (T : Int) < (N : Int) := by omega
    have i2 : (0 : Int) ≤ (bit : Int) / 8 := by omega
    have i3 : (0 : Int) < (N : Int) := by omega
    have H6 := Lib.hid (⟨ho6, p0, p1, hn6, hbel6, hz6, hT, hb0, hchO⟩ : _ ∧ _ ∧ _ ∧ _ ∧ _ ∧ _ ∧ _ ∧ _ ∧ _)
    have hgl6 : g < bb := by rw [← hbb]; exact hgh
    have hx0b : x0 + 3 ≤ bb := by rw [← hbb]; exact hs5
    clear ho6 p0 p1 hn6 hbel6 hz6 hT hb0 hchO hb6 hb6' hbb hgh HR HW3
    go_region
    obtain ⟨nb, hnb8, hnb⟩ : ∃ nb : Nat, nb < 256 ∧ bits BinOp.xor IntKind.u8 (b0 : Int) (2 ^ (bit % 8) % 256) = (nb : Int) := xor_u8 _ _
    rw [hnb]
    clear hnb q0 q1 q2 q3 e1 i0 i1 i2 i3
    have ho7 := own_set H6.out.1 T (.int .u8 (nb : Int))
    rw [← byts_set] at ho7
    have hgx : x0 + 2 ≤ g := hgl
    have k7 : ∀ k, k ≠ g → ((w6.setCell ⟨g, T, none⟩ (.int .u8 (nb : Int))).drew).heap[k]? = w6.heap[k]? := fun k hk => Below.heap_setCell _ _ _ _ hk
    have hz7 : ((w6.setCell ⟨g, T, none⟩ (.int .u8 (nb : Int))).drew).heap.size = bb + 1 := by have := H6.out.2.2.2.2.2.1; simp [World.setCell] at this ⊢; exact this
    have ho7' : ((w6.setCell ⟨g, T, none⟩ (.int .u8 (nb : Int))).drew).ownsRow (x0 + 2) 5 1 (.slice (some ⟨g, 0, none⟩) N cap5) N (byts ((chain L).set T nb)) := ho7
    have hbel7 : Below x0 w ((w6.setCell ⟨g, T, none⟩ (.int .u8 (nb : Int))).drew) := ⟨H6.out.2.2.2.2.1.os, H6.out.2.2.2.2.1.tape, H6.out.2.2.2.2.1.output, by rw [hz7]; have := H6.out.2.2.2.2.1.size; rw [H6.out.2.2.2.2.2.1] at this; exact this, fun k hk => (k7 k (by omega)).trans (H6.out.2.2.2.2.1.block k hk)⟩
    generalize (w6.setCell ⟨g, T, none⟩ (.int .u8 (nb : Int))).drew = w7 at *
    have H7 : Hid (w7.ownsRow (x0 + 2) 5 1 (.slice (some ⟨g, 0, none⟩) N cap5) N (byts ((chain L).set T nb)) ∧ w7.heap[x0]? = some (.cells #[.slice al nl capl] 32 (0, 0)) ∧ w7.heap[x0 + 1]? = some (.cells #[.int .i64 (bit : Int)] 3 (0, 0)) ∧ w7.heap[bb]? = some (.cells #[.slice (some ⟨g, 0, none⟩) N cap5] 22 (0, 0)) ∧ Below x0 w w7 ∧ w7.heap.size = bb + 1) :=
      ⟨ho7', (k7 x0 (by omega)).trans H6.out.2.1, (k7 (x0 + 1) (by omega)).trans H6.out.2.2.1, (k7 bb (by omega)).trans H6.out.2.2.2.1, hbel7, hz7⟩
    clear ho7 ho7' k7 hz7 hbel7
    obtain ⟨y, hy⟩ : ∃ y, bb + 1 = y := ⟨_, rfl⟩
    obtain ⟨w8, hw8⟩ : ∃ w8, ((w7.alloc (.cells #[.int .i64 0] 3)).alloc (.cells #[.int .i64 0] 3)).alloc (.cells #[.bool true] 4) = w8 := ⟨_, rfl⟩
    have hy7 : w7.heap.size = y := by rw [← hy]; exact H7.out.2.2.2.2.2
    have hb8 : Below y w7 w8 := by subst hw8; rw [← hy7]; exact (((Below.refl _ w7).alloc (Nat.le_refl _) _).alloc (by simp) _).alloc (by simp; omega) _
    have hs8 : w8.heap.size = y + 3 := by subst hw8; simp [hy7]
    have a0 : w8.heap[y]? = some (.cells #[.int .i64 0] 3 (0, 0)) := by
      subst hw8
      rw [← hy7]
      exact (Below.heap_alloc _ _ _ (by simp; omega)).trans ((Below.heap_alloc _ _ _ (by simp)).trans (heap_alloc_new w7 _))
    have a1 : w8.heap[y + 1]? = some (.cells #[.int .i64 0] 3 (0, 0)) := by
      subst hw8
      have := heap_alloc_new (w7.alloc (.cells #[.int .i64 0] 3)) (.cells #[.int .i64 0] 3)
      rw [show (w7.alloc (.cells #[.int .i64 0] 3)).heap.size = y + 1 by simp [hy7]] at this
      exact (Below.heap_alloc _ _ _ (by simp [hy7])).trans this
    have a2 : w8.heap[y + 2]? = some (.cells #[.bool true] 4 (0, 0)) := by
      subst hw8
      have := heap_alloc_new ((w7.alloc (.cells #[.int .i64 0] 3)).alloc (.cells #[.int .i64 0] 3)) (.cells #[.bool true] 4)
      rw [show ((w7.alloc (.cells #[.int .i64 0] 3)).alloc (.cells #[.int .i64 0] 3)).heap.size = y + 2 by simp [hy7]] at this
      exact this
    have b8 := (hb8.block bb (by omega)).trans H7.out.2.2.2.1
    have r8 : (((w7.alloc (.cells #[.int .i64 0] 3)).alloc (.cells #[.int .i64 0] 3)).alloc (.cells #[.bool true] 4)).cell? ⟨bb, 0, none⟩ = some (.slice (some ⟨g, 0, none⟩) N cap5) := by rw [hw8]; simp [World.cell?, b8]
    have H8 : Hid (Shows w8 (some ⟨g, 0, none⟩) ((chain L).set T nb) ∧ w8.heap[x0]? = some (.cells #[.slice al nl capl] 32 (0, 0)) ∧ w8.heap[x0 + 1]? = some (.cells #[.int .i64 (bit : Int)] 3 (0, 0)) ∧ w8.heap[bb]? = some (.cells #[.slice (some ⟨g, 0, none⟩) N cap5] 22 (0, 0)) ∧ Below x0 w w8 ∧ w8.heap.size = y + 3 ∧ w8.heap[y]? = some (.cells #[.int .i64 0] 3 (0, 0)) ∧ w8.heap[y + 1]? = some (.cells #[.int .i64 0] 3 (0, 0)) ∧ w8.heap[y + 2]? = some (.cells #[.bool true] 4 (0, 0)) ∧ N ≤ cap5 ∧ cap5 ≤ maxLen) := by
      have hset : ((chain L).set T nb).length = N := by rw [List.length_set, HQ.out.2.1]
      have ho8 := own_below H7.out.1 (by rw [hy7]; exact hb8)
      have hcu8 := cut_own (bs := (chain L).set T nb) (by rw [hset]; exact ho8) (by omega)
      obtain ⟨a', c', e, h1, _⟩ := hcu8
      cases e
      obtain ⟨a2', c2', e2, hc1, hc2⟩ := cut_cap ho8
      cases e2
      exact ⟨h1, (hb8.block x0 (by omega)).trans H7.out.2.1, (hb8.block (x0 + 1) (by omega)).trans H7.out.2.2.1, b8, H7.out.2.2.2.2.1.trans (hb8.mono (by omega)), hs8, a0, a1, a2, hc1, hc2⟩
    have HY := Lib.hid (⟨hw8, hy7, hy⟩ : _ ∧ _ ∧ _)
    clear hw8 hy7 hb8 hs8 a0 a1 a2 b8
    go_wp2_with fail
    rw [HY.out.1, HY.out.2.1]
    refine (frames_mk _ w8 ⟨_, _, _, rfl⟩).mono ?_
    rintro e w9 ⟨rfl, gb9, hB9⟩
    have hsh9 := shows_below H8.out.1 hB9
    rw [H8.out.2.2.2.2.2.1] at gb9 hB9 ⊢
    have hx0y : x0 + 4 ≤ y ∧ bb < y ∧ g < y := by have := HY.out.2.2; omega
    have hbel9 : Below x0 w w9 := H8.out.2.2.2.2.1.trans (hB9.mono (by omega))
    have hbelw : Below w.heap.size w w9 := by rw [HX0.out]; exact hbel9
    have hS9 : BS w9 (x0 + 1) bb y x0 g bit N cap5 nl capl al L ((chain L).set T nb) := by
      refine ⟨by omega, by omega, by omega, by omega, (hB9.block _ (by omega)).trans H8.out.2.2.1, (hB9.block _ (by omega)).trans H8.out.2.2.2.1, (hB9.block _ (by omega)).trans H8.out.2.1, gb9, hsh9, by rw [List.length_set, HQ.out.2.1], fun j u hu => ?_, fun j x hx => ?_, HQ.out.2.2.2.1, HQ.out.2.2.2.2.2.below hbelw HQ.out.2.2.2.2.2.pos⟩
      · rw [List.getElem?_set] at hu
        split at hu
        · split at hu
          · cases hu; exact hnb8
          · cases hu
        · exact H6.out.2.2.2.2.2.2.2.2 j u hu
      · obtain ⟨gg, oo, vi, e, hc, Bv, hcv⟩ := HQ.out.2.2.1 j x hx
        have hgg : gg < x0 := by rw [← HX0.out]; exact cell_block hc
        have h2 := cut_keep hcv hbelw
        refine ⟨gg, oo, vi, Bv, e, by omega, (World.cell?_of_block (hbel9.block gg hgg)).trans hc, h2, fun a' n' c' j' u g' o' e1 hu e2 => ?_⟩
        obtain ⟨a3, c3, e3, h3, _⟩ := hcv
        rw [e3] at e1
        cases e1
        obtain ⟨g4, o4, e4, hc4⟩ := h3 j' u hu
        rw [e2] at e4
        cases e4
        have := cell_block hc4
        simp only at this
        rw [HX0.out] at this
        omega
    have hJ9 : BJ w9 y L 0 w9 := ⟨Below.refl _ _, rfl, by rw [hB9.block _ (by omega), H8.out.2.2.2.2.2.2.1]; simp [off, chain], by rw [hB9.block _ (by omega), H8.out.2.2.2.2.2.2.2.1]; rfl, by rw [hB9.block _ (by omega)]; exact H8.out.2.2.2.2.2.2.2.2.1⟩
    have HFB := Lib.hid (frames_bent (x0 + 1) bb y x0 g bit T N cap5 nl capl al L ((chain L).set T nb) w9 hS9 hJ9 H6.out.2.2.2.2.2.2.1.symm HQ.out.2.1 hTN hNl H8.out.2.2.2.2.2.2.2.2.2.1 H8.out.2.2.2.2.2.2.2.2.2.2 hbit HQ.out.2.2.2.2.1 hnl2 (by rw [List.take_set_of_le (Nat.le_refl T)]))
    unfold caps at HFB
    have HB9 := Lib.hid hbel9
    clear r8 hS9 hJ9 hsh9 gb9 hB9 hbel9 hbelw
    go_wp2_with fail
    refine HFB.out.mono ?_
    rintro e w10 ⟨rfl, hok, hb10⟩
    have d0 : w10.cell? ⟨y + 1 + 1, 0, none⟩ = some (.bool true) := by simp [World.cell?, hok]
    have HF := Lib.hid (HB9.out.trans (hb10.mono (by omega)))
    clear hok hb10 HFB
    go_wp2
    go_ret
    rw [HX0.out]
    exact ⟨rfl, HF.out⟩
end Go.Proofs.YtdgcafohfedbhaaDoor.T
