import Derived.Test.YtdgcafohfedbhaaDoorL
namespace Go.Proofs.YtdgcafohfedbhaaDoor.T
open Go.RowKit Go.Joins
open Go.Proofs.YtdgcafohfedbhaaDoor.K
attribute [local go_sem] Oper.semAt_some
set_option linter.unusedVariables false
set_option linter.unusedSimpArgs false

/-- the closure's captured variables: the bit, the bytes, the place, the answer, the count, the payloads -/
def caps (bbit bb y bl : Nat) : Array Value := #[.pointer (some ⟨bbit, 0, none⟩), .pointer (some ⟨bb, 0, none⟩), .pointer (some ⟨y, 0, none⟩), .pointer (some ⟨y + 2, 0, none⟩), .pointer (some ⟨y + 1, 0, none⟩), .pointer (some ⟨bl, 0, none⟩)]

set_option maxHeartbeats 8000000 in
/-- the frame in which the turned bit is -/
theorem bent_in (bbit bb y bl bit T N en atn : Nat) (aB : Option Addr) (capB : Nat) (vp : Value) (w : World) (c1 : w.cell? ⟨bbit, 0, none⟩ = some (.int .i64 (bit : Int))) (c2 : w.cell? ⟨bb, 0, none⟩ = some (.slice aB N capB)) (c3 : w.cell? ⟨y, 0, none⟩ = some (.int .i64 (atn : Int)))
    (hT : T = bit / 8 % N) (hN : 0 < N) (hNl : N ≤ 1000000) (hbit : bit < 65536) (h1 : atn ≤ T) (h2 : T < en) (hen : en ≤ 1000000) :
    Calls Tryd.prog 20 (#[.int .i64 (en : Int), vp] ++ caps bbit bb y bl) w fun e w' => e = .returned (.bool false) ∧ w' = w := by
  have e1 : (bit : Int) / 8 % (N : Int) = (T : Int) := by rw [hT]; simp
  have h1i : (atn : Int) ≤ (T : Int) := by omega
  have h2i : (T : Int) < (en : Int) := by omega
  have hNi : (0 : Int) < (N : Int) := by omega
  have hb0 : (0 : Int) ≤ (bit : Int) / 8 := by omega
  have hNz : ((N : Int) == 0) = false := by simp; omega
  clear hT
  unfold caps
  go_enter Tryd.func20, Tryd.ntmps20
  go_wp2
  go_ret
  exact ⟨rfl, rfl⟩

theorem bool_cell {w : World} {p t k : Nat} {b : Bool} {kd : IntKind} {x : Int} (h : w.heap[p]? = some (.cells #[.bool b] t (0, 0))) (hc : w.cell? ⟨p, k, none⟩ = some (.int kd x)) : False := by
  simp only [World.cell?] at hc
  rw [h] at hc
  rcases k with _ | k
  · cases hc
  · simp at hc
theorem set_cell {w : World} {p tp : Nat} {x0 : Value} (x : Value) (hp : w.heap[p]? = some (.cells #[x0] tp (0, 0))) : ((w.setCell ⟨p, 0, none⟩ x).drew).cell? ⟨p, 0, none⟩ = some x := by
  have h5 : (w.setCell ⟨p, 0, none⟩ x).heap[p]? = some (.cells #[x] tp (0, 0)) := by simpa using block_setCell (i := 0) hp x
  show (w.setCell ⟨p, 0, none⟩ x).cell? ⟨p, 0, none⟩ = some x
  simp only [World.cell?]
  rw [h5]
  rfl
/-- three cells are stored -/
theorem three_set {w : World} {y : Nat} {x0 y0 z0 x z : Value} (ty tz : TypeId) (v : Value) (h0 : w.heap[y]? = some (.cells #[x0] 3 (0, 0))) (h1 : w.heap[y + 1]? = some (.cells #[y0] 3 (0, 0))) (h2 : w.heap[y + 2]? = some (.cells #[z0] 4 (0, 0))) :
    (∀ k, k ≠ y → k ≠ y + 1 → k ≠ y + 2 → (((w.setCell ⟨y + 2, 0, none⟩ z).setCell ⟨y, 0, none⟩ x).setCell ⟨y + 1, 0, none⟩ v).heap[k]? = w.heap[k]?) ∧ (((w.setCell ⟨y + 2, 0, none⟩ z).setCell ⟨y, 0, none⟩ x).setCell ⟨y + 1, 0, none⟩ v).heap[y]? = some (.cells #[x] 3 (0, 0)) ∧
    (((w.setCell ⟨y + 2, 0, none⟩ z).setCell ⟨y, 0, none⟩ x).setCell ⟨y + 1, 0, none⟩ v).heap[y + 1]? = some (.cells #[v] 3 (0, 0)) ∧ (((w.setCell ⟨y + 2, 0, none⟩ z).setCell ⟨y, 0, none⟩ x).setCell ⟨y + 1, 0, none⟩ v).heap[y + 2]? = some (.cells #[z] 4 (0, 0)) ∧
    (((w.setCell ⟨y + 2, 0, none⟩ z).setCell ⟨y, 0, none⟩ x).setCell ⟨y + 1, 0, none⟩ v).heap.size = w.heap.size := by
  have a1 : (w.setCell ⟨y + 2, 0, none⟩ z).heap[y + 2]? = some (.cells #[z] 4 (0, 0)) := by simpa using block_setCell (i := 0) h2 z
  have a2 : (w.setCell ⟨y + 2, 0, none⟩ z).heap[y]? = some (.cells #[x0] 3 (0, 0)) := (Below.heap_setCell _ _ _ _ (show y ≠ y + 2 by omega)).trans h0
  have a3 : (w.setCell ⟨y + 2, 0, none⟩ z).heap[y + 1]? = some (.cells #[y0] 3 (0, 0)) := (Below.heap_setCell _ _ _ _ (show y + 1 ≠ y + 2 by omega)).trans h1
  have b1 : ((w.setCell ⟨y + 2, 0, none⟩ z).setCell ⟨y, 0, none⟩ x).heap[y]? = some (.cells #[x] 3 (0, 0)) := by simpa using block_setCell (i := 0) a2 x
  have b2 : ((w.setCell ⟨y + 2, 0, none⟩ z).setCell ⟨y, 0, none⟩ x).heap[y + 1]? = some (.cells #[y0] 3 (0, 0)) := (Below.heap_setCell _ _ _ _ (show y + 1 ≠ y by omega)).trans a3
  have b3 : ((w.setCell ⟨y + 2, 0, none⟩ z).setCell ⟨y, 0, none⟩ x).heap[y + 2]? = some (.cells #[z] 4 (0, 0)) := (Below.heap_setCell _ _ _ _ (show y + 2 ≠ y by omega)).trans a1
  refine ⟨fun k k0 k1 k2 => (Below.heap_setCell _ _ _ _ k1).trans ((Below.heap_setCell _ _ _ _ k0).trans (Below.heap_setCell _ _ _ _ k2)), (Below.heap_setCell _ _ _ _ (show y ≠ y + 1 by omega)).trans b1, by simpa using block_setCell (i := 0) b2 v, (Below.heap_setCell _ _ _ _ (show y + 2 ≠ y + 1 by omega)).trans b3, by simp [World.setCell]⟩

set_option maxRecDepth 100000 in
set_option maxHeartbeats 16000000 in
/-- a frame ahead of it -/
theorem bent_out (bbit bb y bl bit T N en atn i nl : Nat) (aB al : Option Addr) (capB capl : Nat) (vp vi : Value) (p : List Nat) (Bp Bi : Nat) (w : World) (c1 : w.cell? ⟨bbit, 0, none⟩ = some (.int .i64 (bit : Int))) (c2 : w.cell? ⟨bb, 0, none⟩ = some (.slice aB N capB)) (h0 : w.heap[y]? = some (.cells #[.int .i64 (atn : Int)] 3 (0, 0)))
    (g1 : w.heap[y + 1]? = some (.cells #[.int .i64 (i : Int)] 3 (0, 0))) (g2 : w.heap[y + 2]? = some (.cells #[.bool true] 4 (0, 0))) (c6 : w.cell? ⟨bl, 0, none⟩ = some (.slice al nl capl)) (hi : i < nl) (hnl : nl ≤ 1000) (ge : ∃ gg oo, al = some ⟨gg, oo, none⟩ ∧ w.cell? ⟨gg, oo + i, none⟩ = some vi ∧ gg ≠ y + 2)
    (hp : Cut w Bp vp p) (hpi : Cut w Bi vi p) (hpo : Oct p) (hbl : bl ≠ y + 2)
    (hT : T = bit / 8 % N) (hN : 0 < N) (hNl : N ≤ 1000000) (hbit : bit < 65536) (h1 : atn ≤ T) (h2 : en ≤ T) (hen : en ≤ 1000000) :
    Calls Tryd.prog 20 (#[.int .i64 (en : Int), vp] ++ caps bbit bb y bl) w fun e w' => e = .returned (.bool true) ∧ w'.os = w.os ∧ w'.tape = w.tape ∧ w'.output = w.output ∧ w'.heap.size = w.heap.size ∧ (∀ k, k ≠ y → k ≠ y + 1 → k ≠ y + 2 → w'.heap[k]? = w.heap[k]?) ∧
      w'.heap[y]? = some (.cells #[.int .i64 (en : Int)] 3 (0, 0)) ∧ w'.heap[y + 1]? = some (.cells #[.int .i64 ((i : Int) + 1)] 3 (0, 0)) ∧ w'.heap[y + 2]? = some (.cells #[.bool true] 4 (0, 0)) := by
  have e1 : (bit : Int) / 8 % (N : Int) = (T : Int) := by rw [hT]; simp
  have h1i : (atn : Int) ≤ (T : Int) := by omega
  have h2i : ¬ (T : Int) < (en : Int) := by omega
  have h3i : (en : Int) ≤ (T : Int) := by omega
  have hNi : (0 : Int) < (N : Int) := by omega
  have hb0 : (0 : Int) ≤ (bit : Int) / 8 := by omega
  have hNz : ((N : Int) == 0) = false := by simp; omega
  have i0 : (0 : Int) ≤ (i : Int) := by omega
  have i1 : (i : Int) < (nl : Int) := by omega
  have hmx : Tryd.prog.follows .mixedOrders = true := by kernel_rfl
  obtain ⟨gg, oo, rfl, c7, hgg⟩ := ge
  obtain ⟨avp, cvp, rfl, hp1, hp2⟩ := hp
  obtain ⟨avi, cvi, rfl, hi1, hi2⟩ := hpi
  have HP : Hid (∀ wz : World, (∀ k, k ≠ y + 2 → wz.heap[k]? = w.heap[k]?) → (convert 22 9 (.slice avp p.length cvp)).run Tryd.prog wz = .ok (.string (strOf p)) wz ∧ (convert 22 9 (.slice avi p.length cvi)).run Tryd.prog wz = .ok (.string (strOf p)) wz) := fun wz hk => by
    refine ⟨Cut.string (B := Bp) ⟨avp, cvp, rfl, fun j x hx => ?_, hp2⟩ hpo, Cut.string (B := Bi) ⟨avi, cvi, rfl, fun j x hx => ?_, hi2⟩ hpo⟩
    · obtain ⟨g, o, e, hc⟩ := hp1 j x hx
      exact ⟨g, o, e, (World.cell?_of_block (hk g (fun e2 => bool_cell g2 (by rw [← e2]; exact hc)))).trans hc⟩
    · obtain ⟨g, o, e, hc⟩ := hi1 j x hx
      exact ⟨g, o, e, (World.cell?_of_block (hk g (fun e2 => bool_cell g2 (by rw [← e2]; exact hc)))).trans hc⟩
  have c3 : w.cell? ⟨y, 0, none⟩ = some (.int .i64 (atn : Int)) := by simp [World.cell?, h0]
  have c4 : w.cell? ⟨y + 1, 0, none⟩ = some (.int .i64 (i : Int)) := by simp [World.cell?, g1]
  have c5 : w.cell? ⟨y + 2, 0, none⟩ = some (.bool true) := by simp [World.cell?, g2]
  have f3 : w.frozen? ⟨y, 0, none⟩ = false := by simp [World.frozen?, h0]
  have f4 : w.frozen? ⟨y + 1, 0, none⟩ = false := by simp [World.frozen?, g1]
  have f5 : w.frozen? ⟨y + 2, 0, none⟩ = false := by simp [World.frozen?, g2]
  have HH := Lib.hid (⟨h0, g1, g2⟩ : _ ∧ _ ∧ _)
  have HS : Hid (∀ wz : World, (∀ k, k ≠ y + 2 → wz.heap[k]? = w.heap[k]?) → wz.cell? ⟨y + 2, 0, none⟩ = some (.bool true) → (wz.cell? ⟨y + 2, 0, none⟩ = some (.bool true) ∧ wz.cell? ⟨y + 1, 0, none⟩ = some (.int .i64 (i : Int)) ∧ wz.cell? ⟨bl, 0, none⟩ = some (.slice (some ⟨gg, oo, none⟩) nl capl) ∧ wz.cell? ⟨gg, oo + i, none⟩ = some (.slice avi p.length cvi) ∧
      (convert 22 9 (.slice avp p.length cvp)).run Tryd.prog wz = .ok (.string (strOf p)) wz ∧ (convert 22 9 (.slice avi p.length cvi)).run Tryd.prog wz = .ok (.string (strOf p)) wz)) := fun wz hk hok =>
    ⟨hok, (World.cell?_of_block (hk (y + 1) (by omega))).trans c4, (World.cell?_of_block (hk bl hbl)).trans c6, (World.cell?_of_block (hk gg hgg)).trans c7, (HP.out wz hk).1, (HP.out wz hk).2⟩
  clear hT h0 g1 g2 hp1 hp2 hi1 hi2 hpo HP
  unfold caps
  go_enter Tryd.func20, Tryd.ntmps20
  go_wp2_with fail
  refine region_plain hmx ?_
  have hHeld := HS.out w.drew (fun k hk => rfl) c5
  refine wpAny_of_held (S := fun wz : World => wz.cell? ⟨y + 2, 0, none⟩ = some (.bool true) ∧ wz.cell? ⟨y + 1, 0, none⟩ = some (.int .i64 (i : Int)) ∧ wz.cell? ⟨bl, 0, none⟩ = some (.slice (some ⟨gg, oo, none⟩) nl capl) ∧ wz.cell? ⟨gg, oo + i, none⟩ = some (.slice avi p.length cvi) ∧ (convert 22 9 (.slice avp p.length cvp)).run Tryd.prog wz = .ok (.string (strOf p)) wz ∧ (convert 22 9 (.slice avi p.length cvi)).run Tryd.prog wz = .ok (.string (strOf p)) wz) _ _ _ _ ?_
  refine wpAnyH_take (i := 0) (v := ?_) rfl (by kernel_rfl) (by kernel_rfl) (by kernel_rfl) (fun _ _ _ h => h) (Or.inl ⟨by rfl, ?_⟩) hHeld ?_
  rotate_left
  · intro w hSw; (try dsimp only at hSw); go_simp; with_reducible rfl
  try simp only [Act.put, List.getElem_toArray, List.getElem_cons_succ, List.getElem_cons_zero, List.setIfInBounds_toArray, List.set_cons_zero, List.set_cons_succ]
  refine wpAnyH_take (i := 1) (v := ?_) rfl (by kernel_rfl) (by kernel_rfl) (by kernel_rfl) (fun _ _ _ h => h) (Or.inl ⟨by rfl, ?_⟩) hHeld ?_
  rotate_left
  · intro w hSw; (try dsimp only at hSw); go_simp; with_reducible rfl
  try simp only [Act.put, List.getElem_toArray, List.getElem_cons_succ, List.getElem_cons_zero, List.setIfInBounds_toArray, List.set_cons_zero, List.set_cons_succ]
  refine wpAnyH_take (i := 2) (v := ?_) rfl (by kernel_rfl) (by kernel_rfl) (by kernel_rfl) (fun _ _ _ h => h) (Or.inl ⟨by rfl, ?_⟩) hHeld ?_
  rotate_left
  · intro w hSw; (try dsimp only at hSw); go_simp; with_reducible rfl
  try simp only [Act.put, List.getElem_toArray, List.getElem_cons_succ, List.getElem_cons_zero, List.setIfInBounds_toArray, List.set_cons_zero, List.set_cons_succ]
  refine wpAnyH_take (i := 3) (v := ?_) rfl (by kernel_rfl) (by kernel_rfl) (by kernel_rfl) (fun _ _ _ h => h) (Or.inl ⟨by rfl, ?_⟩) hHeld ?_
  rotate_left
  · intro w hSw; (try dsimp only at hSw); go_simp; with_reducible rfl
  try simp only [Act.put, List.getElem_toArray, List.getElem_cons_succ, List.getElem_cons_zero, List.setIfInBounds_toArray, List.set_cons_zero, List.set_cons_succ]
  refine wpAnyH_take (i := 4) (v := ?_) rfl (by kernel_rfl) (by kernel_rfl) (by kernel_rfl) (fun _ _ _ h => h) (Or.inl ⟨by rfl, ?_⟩) hHeld ?_
  rotate_left
  · intro w hSw; (try dsimp only at hSw); go_simp; with_reducible rfl
  try simp only [Act.put, List.getElem_toArray, List.getElem_cons_succ, List.getElem_cons_zero, List.setIfInBounds_toArray, List.set_cons_zero, List.set_cons_succ]
  refine wpAnyH_take (i := 5) (v := ?_) rfl (by kernel_rfl) (by kernel_rfl) (by kernel_rfl) (fun _ _ _ h => h) (Or.inl ⟨by rfl, ?_⟩) hHeld ?_
  rotate_left
  · intro w hSw; (try dsimp only at hSw); go_simp; with_reducible rfl
  try simp only [Act.put, List.getElem_toArray, List.getElem_cons_succ, List.getElem_cons_zero, List.setIfInBounds_toArray, List.set_cons_zero, List.set_cons_succ]
  refine wpAnyH_take (i := 6) (v := ?_) rfl (by kernel_rfl) (by kernel_rfl) (by kernel_rfl) (fun _ _ _ h => h) (Or.inl ⟨by rfl, ?_⟩) hHeld ?_
  rotate_left
  · intro w hSw; (try dsimp only at hSw); go_simp; with_reducible rfl
  try simp only [Act.put, List.getElem_toArray, List.getElem_cons_succ, List.getElem_cons_zero, List.setIfInBounds_toArray, List.set_cons_zero, List.set_cons_succ]
  refine wpAnyH_take (i := 7) (v := ?_) rfl (by kernel_rfl) (by kernel_rfl) (by kernel_rfl) (fun _ _ _ h => h) (Or.inl ⟨by rfl, ?_⟩) hHeld ?_
  rotate_left
  · intro w hSw; (try dsimp only at hSw); go_simp; with_reducible rfl
  try simp only [Act.put, List.getElem_toArray, List.getElem_cons_succ, List.getElem_cons_zero, List.setIfInBounds_toArray, List.set_cons_zero, List.set_cons_succ]
  refine wpAnyH_take (i := 8) (v := ?_) rfl (by kernel_rfl) (by kernel_rfl) (by kernel_rfl) (fun _ _ _ h => h) (Or.inl ⟨by rfl, ?_⟩) hHeld ?_
  rotate_left
  · intro w hSw; (try dsimp only at hSw); go_simp; with_reducible rfl
  try simp only [Act.put, List.getElem_toArray, List.getElem_cons_succ, List.getElem_cons_zero, List.setIfInBounds_toArray, List.set_cons_zero, List.set_cons_succ]
  refine wpAnyH_take (i := 9) (v := ?_) rfl (by kernel_rfl) (by kernel_rfl) (by kernel_rfl) (fun _ _ _ h => h) (Or.inl ⟨by rfl, ?_⟩) hHeld ?_
  rotate_left
  · intro w hSw; (try dsimp only at hSw); go_simp; with_reducible rfl
  try simp only [Act.put, List.getElem_toArray, List.getElem_cons_succ, List.getElem_cons_zero, List.setIfInBounds_toArray, List.set_cons_zero, List.set_cons_succ]
  refine wpAnyH_take (i := 10) (v := ?_) rfl (by kernel_rfl) (by kernel_rfl) (by kernel_rfl) (fun _ _ _ h => h) (Or.inl ⟨by rfl, ?_⟩) hHeld ?_
  rotate_left
  · intro w hSw; (try dsimp only at hSw); go_simp; with_reducible rfl
  try simp only [Act.put, List.getElem_toArray, List.getElem_cons_succ, List.getElem_cons_zero, List.setIfInBounds_toArray, List.set_cons_zero, List.set_cons_succ]
  refine wpAnyH_take (i := 11) (v := ?_) rfl (by kernel_rfl) (by kernel_rfl) (by kernel_rfl) (fun _ _ _ h => h) (Or.inl ⟨by rfl, ?_⟩) hHeld ?_
  rotate_left
  · intro w hSw; (try dsimp only at hSw); go_simp; with_reducible rfl
  try simp only [Act.put, List.getElem_toArray, List.getElem_cons_succ, List.getElem_cons_zero, List.setIfInBounds_toArray, List.set_cons_zero, List.set_cons_succ]
  refine wpAnyH_take (i := 12) (v := ?_) rfl (by kernel_rfl) (by kernel_rfl) (by kernel_rfl) (fun _ _ _ h => h) (Or.inl ⟨by rfl, ?_⟩) hHeld ?_
  rotate_left
  · intro w hSw; (try dsimp only at hSw); go_simp; with_reducible rfl
  try simp only [Act.put, List.getElem_toArray, List.getElem_cons_succ, List.getElem_cons_zero, List.setIfInBounds_toArray, List.set_cons_zero, List.set_cons_succ]
  refine wpAnyH_take (i := 13) (v := ?_) rfl (by kernel_rfl) (by kernel_rfl) (by kernel_rfl) (fun _ _ _ h => h) (Or.inl ⟨by rfl, ?_⟩) hHeld ?_
  rotate_left
  · intro w hSw; (try dsimp only at hSw); go_simp; with_reducible rfl
  try simp only [Act.put, List.getElem_toArray, List.getElem_cons_succ, List.getElem_cons_zero, List.setIfInBounds_toArray, List.set_cons_zero, List.set_cons_succ]
  refine wpAnyH_take (i := 14) (v := ?_) rfl (by kernel_rfl) (by kernel_rfl) (by kernel_rfl) (fun _ _ _ h => h) (Or.inl ⟨by rfl, ?_⟩) hHeld ?_
  rotate_left
  · intro w hSw; (try dsimp only at hSw); go_simp; with_reducible rfl
  try simp only [Act.put, List.getElem_toArray, List.getElem_cons_succ, List.getElem_cons_zero, List.setIfInBounds_toArray, List.set_cons_zero, List.set_cons_succ]
  refine wpAnyH_take (i := 15) (v := ?_) rfl (by kernel_rfl) (by kernel_rfl) (by kernel_rfl) (fun _ _ _ h => h) (Or.inl ⟨by rfl, ?_⟩) hHeld ?_
  rotate_left
  · intro w hSw; (try dsimp only at hSw); go_simp; with_reducible rfl
  try simp only [Act.put, List.getElem_toArray, List.getElem_cons_succ, List.getElem_cons_zero, List.setIfInBounds_toArray, List.set_cons_zero, List.set_cons_succ]
  refine wpAnyH_take (i := 16) (v := ?_) rfl (by kernel_rfl) (by kernel_rfl) (by kernel_rfl) (fun _ _ _ h => h) (Or.inl ⟨by rfl, ?_⟩) hHeld ?_
  rotate_left
  · intro w hSw; (try dsimp only at hSw); go_simp; with_reducible rfl
  try simp only [Act.put, List.getElem_toArray, List.getElem_cons_succ, List.getElem_cons_zero, List.setIfInBounds_toArray, List.set_cons_zero, List.set_cons_succ]
  refine wpAnyH_ready (rs := [17]) (by kernel_rfl) (by simp) (AllReadyH.cons rfl (fun K hK => ?_) AllReadyH.nil)
  go_simp
  refine hK.out _ _ (HS.out _ (fun k hk => Below.heap_setCell _ _ _ _ hk) (set_cell _ HH.out.2.2)) (fun hHeld => ?_)
  clear hK K hHeld
  try simp only [Act.put, List.getElem_toArray, List.getElem_cons_succ, List.getElem_cons_zero, List.setIfInBounds_toArray, List.set_cons_zero, List.set_cons_succ]
  refine wpAnyH_done (by kernel_rfl) ?_ _
  go_wp2
  go_ret
  obtain ⟨t1, t2, t3, t4, t5⟩ := three_set (x := .int .i64 (en : Int)) (z := .bool true) 3 4 (.int .i64 ((i : Int) + 1)) HH.out.1 HH.out.2.1 HH.out.2.2
  exact ⟨rfl, rfl, rfl, rfl, t5, t1, t2, t3, t4⟩
end Go.Proofs.YtdgcafohfedbhaaDoor.T
