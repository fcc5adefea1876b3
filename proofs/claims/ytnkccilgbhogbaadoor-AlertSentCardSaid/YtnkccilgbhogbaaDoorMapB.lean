/- A set of strings kept as a map[string]bool that the call makes: look-up and store. No program. -/
import Derived.Test.YtnkccilgbhogbaaDoorBase
import Derived.Maps.Own
import Derived.Maps.OwnOps
import Derived.Maps.OwnSet
import Derived.Maps.Views
namespace Go.Proofs.YtnkccilgbhogbaaDoor
open Go.RowKit Go.Maps
/-- The map that has the keys ks, each with the value true. -/
def seenD (ks : List (List UInt8)) : DataW Unit := setOf (.lit (.bool true)) (ks.map fun s => .string s)
theorem seenD_snoc (ks : List (List UInt8)) (s : List UInt8) : seenD (ks ++ [s]) = (seenD ks).put (.string s) (.lit (.bool true)) := by
  unfold seenD; rw [List.map_append, List.map_singleton, setOf_snoc]
theorem isMap_seenD (ks : List (List UInt8)) : IsMap (seenD ks) :=
  (tidy_setOf _ _ (by intro x hx; obtain ⟨s, _, rfl⟩ := List.mem_map.1 hx; trivial)).isMap
theorem snoc_ind {α : Type} {P : List α → Prop} (h0 : P []) (h1 : ∀ l x, P l → P (l ++ [x])) (l : List α) : P l := by
  rw [← List.reverse_reverse l]
  generalize l.reverse = m
  induction m with
  | nil => exact h0
  | cons x m ih => rw [List.reverse_cons]; exact h1 _ _ ih
theorem seenD_at (ks : List (List UInt8)) (s : List UInt8) : (seenD ks).atKey (.string s) (.lit (.bool false)) = .lit (.bool (ks.contains s)) := by
  refine snoc_ind (P := fun ks => (seenD ks).atKey (.string s) (.lit (.bool false)) = .lit (.bool (ks.contains s))) rfl (fun l x ih => ?_) ks
  rw [seenD_snoc]
  by_cases h : s = x
  · subst h
    rw [atKey_put_same (isMap_seenD l) (show WideAt.IsKeyLit (Lit.string s) from trivial)]
    simp
  · rw [atKey_put_other (by intro e; injection e with e; exact h e), ih]
    simp [h]
theorem plainElem_bool_inv {H : Type} {P : Program} {e : TypeId} (he : P.underlying e = some .bool) {v : Value} {z : DataW H × List MemPlace} (h : plainElem P e v = some z) : ∃ x, v = .bool x ∧ z = (.lit (.bool x), []) := by
  unfold plainElem at h
  rw [he] at h
  cases v <;> simp at h
  exact ⟨_, rfl, h.symm⟩
/-- 'seen[x]' in such a map. -/
theorem wpList_lookup_seen {P : Program} (w : World) {ops : Array Oper} {rest : List Oper} {o : Oper} {a : Act} {Q : Exit → Act → World → Prop}
    (hg : o.guard = none) (m x : Operand) (t : TypeId) (hop : o.op = Op.lookup t m x false)
    (k e : TypeId) (K : Keyed P k) (ht : P.underlying t = some (.map k e)) (he : P.underlying e = some .bool) (hz : (zeroValue e).run P w = .ok (.bool false) w) (b n : Nat) (ks : List (List UInt8))
    (hm : a.eval m = .map (some b)) (hown : w.ownsMap P k (plainElem P e) b n (seenD ks)) (s : ByteArray) (hx : a.eval x = .string s) (hkey : keyOf P k (.string s) = some (.string s.data.toList))
    (hK : wpList P ops Q rest (a.put o.dst (.bool (ks.contains s.data.toList))) w) :
    wpList P ops Q (o :: rest) a w := by
  refine wpList_plain hg fun K' hK' => ?_
  obtain ⟨v, ps, hrun, hv⟩ := hown.lookup K ht hz (plainElem_bool he false) hkey
  obtain ⟨c, rfl, hc⟩ := plainElem_bool_inv he hv
  simp only [Prod.mk.injEq] at hc
  have hc2 : c = ks.contains s.data.toList := by
    have h2 := hc.1
    rw [seenD_at] at h2
    injection h2 with h2
    injection h2 with h2
    exact h2.symm
  subst hc2
  unfold Oper.wp
  simp [execOp, hop, hm, hx, hrun, Result.andThen]
  exact hK' _ _ (by simpa using hK)
end Go.Proofs.YtnkccilgbhogbaaDoor
