/- A map from keys to places (pointers to blocks of one's own). No program. -/
import Derived.Test.YtnkccilgbhogbaaDoorBkL
import Derived.Test.YtnkccilgbhogbaaDoorMapB
import Derived.Test.YtnkccilgbhogbaaDoorRowSet
import Derived.Maps.RangeWalk
import Derived.Maps.OwnSet
import Derived.Maps.Views
namespace Go.Proofs.YtnkccilgbhogbaaDoor.Bk
open Go.RowKit Go.Maps
set_option linter.unusedVariables false
set_option linter.unusedSimpArgs false
set_option linter.unusedSectionVars false
/-- A pointer to a block's beginning, or none. -/
def ptV : Option Nat → Value
  | none => .pointer none
  | some k => .pointer (some ⟨k, 0, none⟩)
def ptI : Option Nat → Int
  | none => -1
  | some k => (k : Int)
theorem ptI_inj {a b : Option Nat} (h : ptI a = ptI b) : a = b := by
  cases a <;> cases b <;> simp only [ptI] at h
  · rfl
  · omega
  · omega
  · rw [Int.ofNat.inj h]
def ptE (v : Value) : Option (DataW Unit × List MemPlace) :=
  match v with
  | .pointer none => some (.lit (.int .i64 (-1)), [])
  | .pointer (some ⟨k, 0, none⟩) => some (.lit (.int .i64 (k : Int)), [])
  | _ => none
theorem ptE_mk (q : Option Nat) : ptE (ptV q) = some (.lit (.int .i64 (ptI q)), []) := by cases q <;> rfl
theorem ptE_inv {v : Value} {z : DataW Unit × List MemPlace} (h : ptE v = some z) : ∃ q, v = ptV q ∧ z = (.lit (.int .i64 (ptI q)), []) := by
  unfold ptE at h
  split at h
  · cases h; exact ⟨none, rfl, rfl⟩
  · cases h; exact ⟨some _, rfl, rfl⟩
  · cases h
theorem ptE_at {v : Value} {q : Option Nat} {ps : List MemPlace} (h : ptE v = some (.lit (.int .i64 (ptI q)), ps)) : v = ptV q := by
  obtain ⟨q', rfl, e⟩ := ptE_inv h
  simp only [Prod.mk.injEq, DataW.lit.injEq, Lit.int.injEq, true_and] at e
  rw [ptI_inj e.1]
theorem wpList_lookup_ptr {P : Program} (w : World) {ops : Array Oper} {rest : List Oper} {o : Oper} {a : Act} {Q : Exit → Act → World → Prop}
    (hg : o.guard = none) (m x : Operand) (t : TypeId) (hop : o.op = Op.lookup t m x false)
    (k e : TypeId) (K : Keyed P k) (ht : P.underlying t = some (.map k e)) (hz : (zeroValue e).run P w = .ok (.pointer none) w) (b n : Nat) (D : DataW Unit)
    (hm : a.eval m = .map (some b)) (hown : w.ownsMap P k ptE b n D) (key : Value) (kl : Lit) (hx : a.eval x = key) (hkey : keyOf P k key = some kl) (q : Option Nat) (hq : D.atKey kl (.lit (.int .i64 (-1))) = .lit (.int .i64 (ptI q)))
    (hK : wpList P ops Q rest (a.put o.dst (ptV q)) w) :
    wpList P ops Q (o :: rest) a w := by
  refine wpList_plain hg fun K' hK' => ?_
  obtain ⟨v, ps, hrun, hv⟩ := hown.lookup K ht hz (ptE_mk none) hkey
  rw [show ptI none = -1 from rfl, hq] at hv
  obtain rfl := ptE_at hv
  unfold Oper.wp
  simp [execOp, hop, hm, hx, hrun, Result.andThen]
  exact hK' _ _ (by simpa using hK)
theorem wpList_lookup_some {P : Program} (w : World) {ops : Array Oper} {rest : List Oper} {o : Oper} {a : Act} {Q : Exit → Act → World → Prop}
    (hg : o.guard = none) (m x : Operand) (t : TypeId) (hop : o.op = Op.lookup t m x false)
    (k e : TypeId) (K : Keyed P k) (ht : P.underlying t = some (.map k e)) (hz : (zeroValue e).run P w = .ok (.pointer none) w) (b n : Nat) (D : DataW Unit)
    (hm : a.eval m = .map (some b)) (hown : w.ownsMap P k ptE b n D) (key : Value) (kl : Lit) (hx : a.eval x = key) (hkey : keyOf P k key = some kl) (q : Nat) (hq : ∀ z, D.atKey kl z = .lit (.int .i64 (q : Int)))
    (hK : wpList P ops Q rest (a.put o.dst (.pointer (some ⟨q, 0, none⟩))) w) : wpList P ops Q (o :: rest) a w :=
  wpList_lookup_ptr w hg m x t hop k e K ht hz b n D hm hown key kl hx hkey (some q) (hq _) hK
theorem wpList_lookup_none {P : Program} (w : World) {ops : Array Oper} {rest : List Oper} {o : Oper} {a : Act} {Q : Exit → Act → World → Prop}
    (hg : o.guard = none) (m x : Operand) (t : TypeId) (hop : o.op = Op.lookup t m x false)
    (k e : TypeId) (K : Keyed P k) (ht : P.underlying t = some (.map k e)) (hz : (zeroValue e).run P w = .ok (.pointer none) w) (b n : Nat) (D : DataW Unit)
    (hm : a.eval m = .map (some b)) (hown : w.ownsMap P k ptE b n D) (key : Value) (kl : Lit) (hx : a.eval x = key) (hkey : keyOf P k key = some kl) (hq : ∀ z, D.atKey kl z = z)
    (hK : wpList P ops Q rest (a.put o.dst (.pointer none)) w) : wpList P ops Q (o :: rest) a w :=
  wpList_lookup_ptr w hg m x t hop k e K ht hz b n D hm hown key kl hx hkey none (hq _) hK
/-- The map D has the keys ks, each with its block. -/
structure MapK {κ : Type} (enc : κ → Lit) (ks : List κ) (bk : κ → Nat) (D : DataW Unit) : Prop where
  map : IsMap D
  in_ : ∀ x ∈ ks, ∀ z, D.atKey (enc x) z = .lit (.int .i64 (bk x : Int))
  out : ∀ x, x ∉ ks → ∀ z, D.atKey (enc x) z = z
  has : ∀ x, Maps.has D (enc x) = true ↔ x ∈ ks
  all : ∀ kl, Maps.has D kl = true → ∃ x, x ∈ ks ∧ kl = enc x
  sz : Maps.size D = ks.length
section
variable {κ : Type} [DecidableEq κ] {enc : κ → Lit} {ks : List κ} {bk : κ → Nat} {D : DataW Unit}
theorem MapK.empty (enc : κ → Lit) (bk : κ → Nat) : MapK enc [] bk (.map []) :=
  ⟨isMap_empty, fun x hx => by simp at hx, fun x _ z => rfl, fun x => by simp [Maps.has], fun kl h => by simp [Maps.has] at h, rfl⟩

theorem MapK.put (h : MapK enc ks bk D) (hinj : ∀ x y, enc x = enc y → x = y) {x : κ} (hx : x ∉ ks) (hk : WideAt.IsKeyLit (enc x)) (ht : Tidy D) (v : Nat) :
    MapK enc (ks ++ [x]) (fun y => if y = x then v else bk y) (D.put (enc x) (.lit (.int .i64 (v : Int)))) := by
  refine ⟨h.map.put _ _, fun y hy z => ?_, fun y hy z => ?_, fun y => ?_, fun kl hkl => ?_, ?_⟩
  · by_cases e : y = x
    · subst e; rw [if_pos rfl, atKey_put_same h.map hk]
    · rw [if_neg e, atKey_put_other (fun e2 => e (hinj _ _ e2))]
      rcases List.mem_append.1 hy with hy | hy
      · exact h.in_ y hy z
      · simp at hy; exact absurd hy e
  · rw [List.mem_append, not_or] at hy
    have e : y ≠ x := fun e => hy.2 (by simp [e])
    rw [atKey_put_other (fun e2 => e (hinj _ _ e2))]
    exact h.out y hy.1 z
  · by_cases e : y = x
    · subst e; rw [has_put_same h.map hk]; simp
    · rw [has_put_other (fun e2 => e (hinj _ _ e2)), h.has y, List.mem_append]
      simp [e]
  · by_cases e : kl = enc x
    · exact ⟨x, by simp, e⟩
    · rw [has_put_other e] at hkl
      obtain ⟨y, hy, e2⟩ := h.all kl hkl
      exact ⟨y, List.mem_append_left _ hy, e2⟩
  · rw [size_put ht, h.sz]
    have : Maps.has D (enc x) = false := by
      cases hh : Maps.has D (enc x)
      · rfl
      · exact absurd ((h.has x).1 hh) hx
    rw [this]; simp
/-- ms has come of ks; 'left' is what is still to come. -/
structure Got (enc : κ → Lit) (ks ms : List κ) (left : Lit → Bool) : Prop where
  nd : ms.Nodup
  sub : ∀ x ∈ ms, x ∈ ks
  lf : ∀ x, left (enc x) = true ↔ x ∈ ks ∧ x ∉ ms
  all : ∀ kl, left kl = true → ∃ x, x ∈ ks ∧ kl = enc x
theorem Got.start (h : MapK enc ks bk D) : Got enc ks [] (Maps.has D) :=
  ⟨by simp, by simp, fun x => by rw [h.has x]; simp, h.all⟩
theorem Got.step {ms : List κ} {left : Lit → Bool} (h : Got enc ks ms left) (hinj : ∀ x y, enc x = enc y → x = y) {x : κ} (hk : WideAt.IsKeyLit (enc x)) (hl : left (enc x) = true) : Got enc ks (ms ++ [x]) (fun z => left z && !z.sameKey (enc x)) := by
  have hm := (h.lf x).1 hl
  refine ⟨?_, ?_, ?_, ?_⟩
  · rw [List.nodup_append]
    refine ⟨h.nd, by simp, fun a ha b hb => ?_⟩
    simp at hb
    subst hb
    exact fun e => hm.2 (e ▸ ha)
  · intro y hy
    rcases List.mem_append.1 hy with hy | hy
    · exact h.sub y hy
    · simp at hy; subst hy; exact hm.1
  · intro u
    rw [List.mem_append, Bool.and_eq_true, h.lf u]
    by_cases e : u = x
    · subst e
      have : (enc u).sameKey (enc u) = true := WideAt.sameKey_self hk
      simp [this]
    · have : (enc u).sameKey (enc x) = false := by
        cases hs : (enc u).sameKey (enc x)
        · rfl
        · exact absurd (hinj _ _ (WideAt.sameKey_eq hs)) e
      simp [this, e]
  · intro kl hkl
    rw [Bool.and_eq_true] at hkl
    exact h.all kl hkl.1
theorem Got.done {ms : List κ} {left : Lit → Bool} (h : Got enc ks ms left) (hd : ∀ kl, left kl = false) (hn : ks.Nodup) : ms.Perm ks := by
  rw [List.perm_ext_iff_of_nodup h.nd hn]
  intro x
  refine ⟨h.sub x, fun hx => Decidable.byContradiction fun hc => ?_⟩
  have := (h.lf x).2 ⟨hx, hc⟩
  rw [hd] at this
  cases this
theorem Got.room {ms : List κ} {left : Lit → Bool} (h : Got enc ks ms left) (hn : ks.Nodup) : ms.length ≤ ks.length := h.nd.length_le_of_subset h.sub
end
theorem enc_str (x y : List UInt8) (h : Lit.string x = Lit.string y) : x = y := by injection h
theorem enc_int (x y : Int) (h : Lit.int .i64 x = Lit.int .i64 y) : x = y := by injection h
end Go.Proofs.YtnkccilgbhogbaaDoor.Bk
