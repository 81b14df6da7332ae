import Derived.Test.YtdgcafohfedbhaaDoorPM
import Derived.Deep.RegionHeld
import Derived.RangeFuncSeq
import Derived.RangeFuncNested
import Derived.RangeFuncBound
import Derived.Shelf.Abstract
import Derived.Shelf.RegionOpen
import Derived.OwnWalkIn
import Derived.TacticsInMore
import Derived.LoopNIn
import Derived.LoopIn
import Derived.StillTailTactics
import Derived.Deep.RegionLaw
import Derived.Lib.SmallJoins
namespace Go.Proofs.YtdgcafohfedbhaaDoor.K
open Go.RowKit Go.Joins
variable {P : Program}

/-! ### a region that draws its order, within a round: by the plain walk's words -/
def Oper.plainOp (o : Oper) : Bool := match o.op with | .defer _ => false | _ => true
theorem Oper.plainOp_ne {o : Oper} (h : Oper.plainOp o = true) : ∀ c, o.op ≠ .defer c := fun c e => by simp [Oper.plainOp, e] at h

theorem opIn_of_op {l n : Nat} {ops : Array Oper} {Q : Exit → Act → World → Prop} {i : Nat} {K : Act → World → Prop} {a : Act} {w : World} (hd : ∀ o ∈ ops, Oper.plainOp o = true) (hlo : ¬ LetsOut Q)
    (h : wpOp P ops Q i K a w) : wpOpIn (Fence.wide.inRound l) n P ops Q i K a w := by
  unfold wpOp at h
  unfold wpOpIn
  cases ho : ops[i]? with
  | none => simpa [ho] using h
  | some o =>
    simp only [ho] at h ⊢
    have hm : o ∈ ops := Array.mem_of_getElem? ho
    have hs := Oper.semAt_some l a.eval o (Oper.plainOp_ne (hd o hm))
    by_cases hw : Region.wanted o (yielded ops a.tmps) = true
    · simp only [hw, if_true] at h ⊢
      rcases h with h | ⟨_, hl⟩
      · refine ⟨fun _ _ => trivial, ?_⟩
        show Oper.uponIn _ _ _ _ _ _ _ ((o.semAt (some l) a.eval).run P w)
        rw [hs]
        unfold Oper.wp at h
        generalize (execOp a.eval o).run P w = r at h
        cases r with
        | ok x w' =>
          cases x with
          | value v => exact h
          | skip => exact h
          | defer d => exact h
          | enter f args =>
            refine ⟨fun hd => by simp [Fence.wide, Fence.inRound] at hd, ?_⟩
            exact callsIn_wide.2 h
          | row row args =>
            refine ⟨fun hd => by simp [Fence.wide, Fence.inRound] at hd, ?_⟩
            exact fun c cs _ => let ⟨v, w', r, s⟩ := h c cs; ⟨v, w', r, stepsIn_wide.2 s⟩
          | _ => exact h.elim
        | halt x w' => cases x <;> exact h
      · exact absurd hl hlo
    · simp only [hw] at h ⊢
      exact ⟨fun _ _ => trivial, h⟩
theorem anyIn_of_any {l n : Nat} {ops : Array Oper} {Q : Exit → Act → World → Prop} {md : Region.Mode} (hd : ∀ o ∈ ops, Oper.plainOp o = true) (hlo : ¬ LetsOut Q) : ∀ (fuel : Nat) (listed : Array Bool) (a : Act) (w : World),
    wpAny P md ops Q fuel listed a w → wpAnyIn (Fence.wide.inRound l) n P md ops Q fuel listed a w
  | 0, _, _, _, h => h
  | fuel + 1, _, _, _, h => ⟨h.1, fun i hi => wpOpIn_mono (fun a' w' h' => anyIn_of_any hd hlo fuel _ a' w' h') (opIn_of_op hd hlo (h.2 i hi))⟩

theorem region_round {l n id : Nat} {ops : Array Oper} {Q : Exit → Act → World → Prop} {a : Act} {w : World} (hm : P.follows .mixedOrders = true) (hd : ops.all Oper.plainOp = true) (hlo : ¬ LetsOut Q)
    (h : wpAny P .any ops Q ops.size (Array.replicate ops.size false) a w.drew) : (Code.region id ops true).wpIn (Fence.wide.inRound l) n P Q a w :=
  wpIn_region_any hm (anyIn_of_any (fun o ho => (Array.all_eq_true_iff_forall_mem.1 hd) o ho) hlo _ _ _ _ h)
end Go.Proofs.YtdgcafohfedbhaaDoor.K
