/- What the tally's step wants: m[k]++ over the map of tallies. -/
import Derived.Test.YtkoijhecahebgaaDoorGtRat
import Derived.Test.YtkoijhecahebgaaDoorGtTal2
import Derived.Test.YtkoijhecahebgaaDoorMapEnt
namespace Go.Proofs.YtkoijhecahebgaaDoor
open Go.RowKit Go.Maps
set_option linter.unusedVariables false
set_option linter.unusedSimpArgs false
theorem zero_intM (w : World) : (zeroValue 3).run Tryd.prog w = .ok (.int .i64 0) w := by kernel_rfl
theorem tally_run {w : World} {tb tn : Nat} {D : DataW Unit} {TL : List Tl} (h : w.ownsMap Tryd.prog 81 (plainElem Tryd.prog 3) tb tn D) (hT : MapT D TL) (k s : ByteArray) (y : Int) (ht : TagOk (k, y, s)) (hn : tn < 1000000) (c : Int) (hc : getT (k, y, s) TL = c) (hc0 : 0 ≤ c) (hc1 : c ≤ 1000000) :
    ∃ (v0 : Value) (st : Int) (w1 w3 : World) (D' : DataW Unit), (Instr.mapEntry 61 (.map (some tb)) (.agg #[.string k, .int .i64 y, .string s])).run Tryd.prog w = .ok (.tuple #[v0, .int .i64 st]) w1 ∧ w.grownBy w1 (some tb) ∧
      (Instr.lookup 61 (.map (some tb)) (.agg #[.string k, .int .i64 y, .string s]) false).run Tryd.prog w = .ok (.int .i64 c) w ∧
      (Instr.lookup 61 (.map (some tb)) (.agg #[.string k, .int .i64 y, .string s]) false).run Tryd.prog w1 = .ok (.int .i64 c) w1 ∧
      (Instr.entryStore 61 (.map (some tb)) (.int .i64 st) (.int .i64 (c + 1))).run Tryd.prog w1 = .ok () w3 ∧ w3.ownsMap Tryd.prog 81 (plainElem Tryd.prog 3) tb (tn + 1) D' ∧ MapT D' (incT (k, y, s) TL) ∧ w1.grownBy w3 (some tb) := by
  have hkey := key_rs ht.k ht.n ht.y
  have hw : (Lit.int .i64 (c + 1)).wf = true := wf_of (by omega) (by omega)
  have hz0 : plainElem (H := Unit) Tryd.prog 3 (.int .i64 0) = some (.lit (.int .i64 0), []) := plainElem_int Tryd.underlying3 (by decide)
  obtain ⟨v0, st, w1, D1, h1, h2, h3, h4, h5⟩ := ownsMap_entry h law_rs Tryd.underlying61 (by unfold maxLen; omega) (zero_intM w) hz0 hkey hT.map
  obtain ⟨w3, h6, h7, h8⟩ := h5 w1 (.int .i64 (c + 1)) _ _ rfl (plainElem_int Tryd.underlying3 hw)
  obtain ⟨c1, l1, l2, _⟩ := h.lookup_int law_rs Tryd.underlying61 Tryd.underlying3 (zero_intM w) hkey
  obtain ⟨c2, m1, m2, _⟩ := h3.lookup_int law_rs Tryd.underlying61 Tryd.underlying3 (zero_intM w1) hkey
  have e0 := hT.at_ (k, y, s) ht
  rw [hc] at e0
  have e1 : c1 = c := by
    have := l2.symm.trans e0
    simpa using this
  have e2 : c2 = c := by
    have := m2.symm.trans (h4.trans e0)
    simpa using this
  subst e1
  subst e2
  exact ⟨v0, st, w1, w3, _, h1, h2, l1, m1, h6, h7, hT.inc ht (by rw [hc]), h8⟩
theorem tag_ok {k s : ByteArray} {y : Int} (hk : k.size ≤ maxLen) (hs : s.size ≤ maxLen) (h0 : 0 ≤ y) (h1 : y ≤ 10) : TagOk (k, y, s) := ⟨hk, hs, wf_of (y := y) (by omega) (by omega)⟩
theorem sampled_pos {s : ByteArray} {r : Int} (h : sampledB s r = true) : 1 ≤ r := by
  have h0 := fnvS_range s
  simp [sampledB] at h
  have : 0 ≤ fnvS s / 4294967296 := by omega
  omega
/-- What a gate's counting makes of the world. -/
structure Asked (w w' : World) (B p n qc lc rb tb tn : Nat) (qA lA : Option Addr) (t : Int) (V : List Lv) (TL : List Tl) : Prop where
  box : w'.heap[p]? = some (.cells #[.slice qA n qc, .slice lA n lc, .map (some rb), .int .i64 t, .map (some tb)] 64 (0, 0))
  lev : w'.ownsRow B 46 3 (.slice lA n lc) n (V.flatMap Lv.cs)
  tal : ∃ D, w'.ownsMap Tryd.prog 81 (plainElem Tryd.prog 3) tb (tn + 1) D ∧ MapT D TL
  keep : Keep B (fun k => k = p ∨ k = tb ∨ (Value.slice lA n lc).ownBlock = some k) w w'
theorem Asked.drew {w w' : World} {B p n qc lc rb tb tn : Nat} {qA lA : Option Addr} {t : Int} {V : List Lv} {TL : List Tl} (h : Asked w w' B p n qc lc rb tb tn qA lA t V TL) : Asked w w'.drew B p n qc lc rb tb tn qA lA t V TL :=
  ⟨h.box, h.lev, h.tal, ⟨below_drewN h.keep.be 1, h.keep.keep⟩⟩
theorem asked_end {w wa w1 w3 : World} {B p n qc lc rb tb tn : Nat} {qA lA : Option Addr} {t : Int} {V : List Lv} {TL : List Tl} {D : DataW Unit}
    (HA : wa.heap[p]? = some (.cells #[.slice qA n qc, .slice lA n lc, .map (some rb), .int .i64 t, .map (some tb)] 64 (0, 0))) (HV : wa.ownsRow B 46 3 (.slice lA n lc) n (V.flatMap Lv.cs))
    (HK : Keep B (fun k => k = p ∨ k = tb ∨ (Value.slice lA n lc).ownBlock = some k) w wa) (hlt : tb < wa.heap.size) (MG : wa.drew.grownBy w1 (some tb)) (MG3 : w1.grownBy w3 (some tb)) (MO : w3.ownsMap Tryd.prog 81 (plainElem Tryd.prog 3) tb (tn + 1) D) (MM : MapT D TL)
    (hpt : tb ≠ p) (hltb : ∀ k, (Value.slice lA n lc).ownBlock = some k → k ≠ tb) (hBt : B ≤ tb) : Asked w w3 B p n qc lc rb tb tn qA lA t V TL := by
  have hk : ∀ k o, k ≠ tb → wa.heap[k]? = some o → w3.heap[k]? = some o := fun k o ne h => by
    have h1 : w1.heap[k]? = some o := (MG.block k (lt_of_block h) (fun e => ne (Option.some.inj e))).trans h
    exact (MG3.block k (lt_of_block h1) (fun e => ne (Option.some.inj e))).trans h1
  have b1 : Below B wa w1 := (below_drewN (Below.refl B wa) 1).grown MG (by show B ≤ wa.heap.size; omega) (fun j hj => by cases hj; exact hBt)
  have hs := b1.size
  refine ⟨hk p _ hpt.symm HA, own_stay HV (fun k o e ho => hk k o (hltb k e) ho), ⟨D, MO, MM⟩, HK.trans ⟨b1.grown MG3 (by omega) (fun j hj => by cases hj; exact hBt), fun k o e ne => hk k o (fun e2 => ne (.inr (.inl e2))) e⟩⟩
end Go.Proofs.YtkoijhecahebgaaDoor
