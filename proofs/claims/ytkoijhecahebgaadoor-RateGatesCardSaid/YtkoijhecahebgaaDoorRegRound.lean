/- A region that draws its order, in a round of a loop over an iterator: by the laws of the plain walk. No program. -/
import Derived.RangeFuncNested
import Derived.RangeFuncCalls
import Derived.OrdersIn
import Derived.Test.YtkoijhecahebgaaDoorRegChain
namespace Go.Proofs.YtkoijhecahebgaaDoor
def notDefer (o : Oper) : Bool := match o.op with | .defer _ => false | _ => true
theorem notDefer_spec {o : Oper} (h : notDefer o = true) : ∀ c, o.op ≠ .defer c := fun c e => by
  unfold notDefer at h
  rw [e] at h
  cases h
section
variable {P : Program} {Q : Exit → Act → World → Prop} {lp n : Nat}
theorem rowsIn_round {row : String} {args : Array Value} {w : World} {R : Value → World → Prop} (h : Rows P row args w R) : RowsIn (Fence.wide.inRound lp) n P row args w R := fun c cs _ => by
  obtain ⟨v, w', r, s⟩ := h c cs
  exact ⟨v, w', r, stepsIn_wide.2 s⟩
theorem opIn_round {o : Oper} {a : Act} {w : World} {K : Act → World → Prop} (hd : notDefer o = true) (h : o.wp P a w K Q) : o.wpIn (Fence.wide.inRound lp) n P a w K Q := by
  refine ⟨fun _ _ => trivial, ?_⟩
  rw [Oper.semAt_eq _ _ _ (notDefer_spec hd)]
  unfold Oper.wp at h
  generalize (execOp a.eval o).run P w = r at *
  cases r with
  | ok x w' =>
    cases x <;> simp only [Oper.upon, Oper.uponIn] at h ⊢ <;>
      first
        | exact h
        | exact ⟨fun hh => (by cases hh), CallsIn.inRound lp (callsIn_wide.2 h)⟩
        | exact ⟨fun hh => (by cases hh), rowsIn_round h⟩
  | halt x w' => cases x <;> simp only [Oper.upon, Oper.uponIn] at h ⊢ <;> exact h
theorem wpOpIn_round {ops : Array Oper} {i : Nat} {a : Act} {w : World} {K : Act → World → Prop} (hq : ¬ LetsOut Q) (hd : ops.toList.all notDefer = true) (h : wpOp P ops Q i K a w) : wpOpIn (Fence.wide.inRound lp) n P ops Q i K a w := by
  unfold wpOpIn
  unfold Go.wpOp at h
  cases ho : ops[i]? with
  | none => simp only [ho] at h ⊢; exact h
  | some o =>
    simp only [ho] at h ⊢
    have hm : o ∈ ops.toList := by rw [Array.mem_toList_iff]; exact Array.mem_of_getElem? ho
    split
    · rename_i hw
      simp only [hw, if_true] at h
      exact opIn_round (List.all_eq_true.1 hd o hm) (h.resolve_right fun e => hq e.2)
    · rename_i hw
      simp only [hw] at h
      exact ⟨fun _ _ => trivial, h⟩
theorem wpAnyIn_round {md : Region.Mode} {ops : Array Oper} (hq : ¬ LetsOut Q) (hd : ops.toList.all notDefer = true) : ∀ (fuel : Nat) (listed : Array Bool) (a : Act) (w : World), wpAny P md ops Q fuel listed a w → wpAnyIn (Fence.wide.inRound lp) n P md ops Q fuel listed a w
  | 0, _, _, _, h => h
  | fuel + 1, _, _, _, h => ⟨h.1, fun i hi => wpOpIn_mono (fun a' w' h' => wpAnyIn_round hq hd fuel _ a' w' h') (wpOpIn_round hq hd (h.2 i hi))⟩
theorem wpIn_region_chain {l : List Oper} {id N : Nat} {a : Act} {w : World} (S : World → Prop) (k : Nat) (hm : P.follows .mixedOrders = true) (hq : ¬ LetsOut Q) (hd : l.all notDefer = true) (hN : l.length = N)
    (h : Shut .any l.toArray (Array.replicate l.toArray.size false) → wpAnyC P .any l.toArray Q S k N (Array.replicate l.toArray.size false) a w.drew) : (Code.region id l.toArray true).wpIn (Fence.wide.inRound lp) n P Q a w := by
  refine wpIn_region_any hm (wpAnyIn_round hq (by simpa using hd) _ _ _ _ (wpAny_of_C (S := S) (k := k) _ _ _ _ ?_))
  have e : l.toArray.size = N := by simpa using hN
  have := h (fun j o _ hl => by rw [getD_replicate_false] at hl; cases hl)
  rw [← e] at this
  exact this
end
end Go.Proofs.YtkoijhecahebgaaDoor
