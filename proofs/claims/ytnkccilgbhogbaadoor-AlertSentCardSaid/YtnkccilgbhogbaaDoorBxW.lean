/- Walks over a box: closed, checkMoment, copies, the tests. -/
import Derived.Test.YtnkccilgbhogbaaDoorBxP
import Derived.Test.YtnkccilgbhogbaaDoorAlChk
import Derived.Test.YtnkccilgbhogbaaDoorRegChain
import Derived.BigQuiet
import Derived.BigCall
import Derived.BigGuard
namespace Go.Proofs.YtnkccilgbhogbaaDoor
open Go.RowKit Go.Maps
open Bk (ptE ptV MapK Got ptE_mk wpList_lookup_some wpList_lookup_none)
set_option linter.unusedVariables false
set_option linter.unusedSimpArgs false
theorem law_i : Keyed Tryd.prog 3 := int_keyed Tryd.underlying3
theorem key_w {x : Int} (h : (Lit.int .i64 x).wf = true) : keyOf Tryd.prog 3 (.int .i64 x) = some (.int .i64 x) := keyOf_int_mk Tryd.underlying3 h
theorem wf_small {x : Int} (h : 0 ≤ x ∧ x ≤ 9223372036854775807) : (Lit.int .i64 x).wf = true := by
  rw [Lit.wf]
  simp only [Bool.and_eq_true, decide_eq_true_eq]
  exact ⟨show (-9223372036854775808 : Int) ≤ _ by omega, show _ ≤ (9223372036854775807 : Int) by omega⟩
theorem zero_p (w : World) : (zeroValue 63).run Tryd.prog w = .ok (.pointer none) w := by kernel_rfl
theorem gatI_iff {P : Pln} {ps : List Pst} (h : PsOk P ps) {no : Int} {q : Pst} (hq : atNo ps no = some q) : no = gatI ps ↔ q.cl = false := by
  obtain ⟨h1, h2, h3⟩ := atNo_some hq
  constructor
  · intro e
    unfold gatI at e
    cases hg : gat ps with
    | none => rw [hg] at e; simp only at e; omega
    | some r =>
      rw [hg] at e
      simp only at e
      obtain ⟨g1, g2, g3⟩ := gat_some hg
      rw [show (no - 1).toNat = ps.length - 1 by omega, g1] at h2
      cases h2
      exact g2
  · intro hc
    have hlast : (no - 1).toNat + 1 = ps.length := by
      have := (List.getElem?_eq_some_iff.1 h2).1
      by_cases e : (no - 1).toNat + 1 < ps.length
      · have := h.old _ _ h2 e; rw [hc] at this; cases this
      · omega
    have hg : gat ps = some q := by
      unfold gat
      rw [List.getLast?_eq_getElem?, show ps.length - 1 = (no - 1).toNat by omega, h2]
      simp [hc]
    unfold gatI
    rw [hg]
    show no = (ps.length : Int)
    omega
theorem gatI_rng (ps : List Pst) : 0 ≤ gatI ps ∧ gatI ps ≤ (ps.length : Int) := by
  unfold gatI
  cases gat ps <;> simp
section
variable {B p mb mn : Nat} {P : Pln} {s : Bx} {D : DataW Unit} {is : List Int} {gk : Int → Nat} {gv : Int → Value} {lv : Value} {w w' : World}
theorem BP.cells (h : BP B P p mb s mn D is gk gv lv w) : w.cell? ⟨p, 0, none⟩ = some (.int .i64 (P.mo : Int)) ∧ w.cell? ⟨p, 1, none⟩ = some (.int .i64 P.wa) ∧ w.cell? ⟨p, 2, none⟩ = some (.int .i64 P.ag) ∧ w.cell? ⟨p, 3, none⟩ = some (.int .i64 P.tr) ∧ w.cell? ⟨p, 4, none⟩ = some (.map (some mb)) ∧
    w.cell? ⟨p, 5, none⟩ = some (.int .i64 (gatI s.ps)) ∧ w.cell? ⟨p, 6, none⟩ = some lv ∧ w.cell? ⟨p, 7, none⟩ = some (.int .i64 (s.ps.length : Int)) ∧ w.cell? ⟨p, 8, none⟩ = some (.int .i64 s.put) ∧ w.cell? ⟨p, 9, none⟩ = some (.int .i64 s.due) :=
  ⟨(block_cell h.box 0).trans rfl, (block_cell h.box 1).trans rfl, (block_cell h.box 2).trans rfl, (block_cell h.box 3).trans rfl, (block_cell h.box 4).trans rfl, (block_cell h.box 5).trans rfl, (block_cell h.box 6).trans rfl, (block_cell h.box 7).trans rfl, (block_cell h.box 8).trans rfl, (block_cell h.box 9).trans rfl⟩
set_option maxRecDepth 100000 in
set_option maxHeartbeats 4000000 in
theorem closed_any (hb : BxOk P s) (h : BP B P p mb s mn D is gk gv lv w) {no : Int} (hwf : (Lit.int .i64 no).wf = true) :
    Calls Tryd.prog 37 #[.pointer (some ⟨p, 0, none⟩), .int .i64 no] w fun e w' => e = .returned (.int .i64 (finE s.ps no)) ∧ w = w' := by
  obtain ⟨x0, x1, x2, x3, x4, x5, x6, x7, x8, x9⟩ := h.cells
  have HOW := hide h.map
  obtain ⟨g, hg⟩ : ∃ g, gatI s.ps = g := ⟨_, rfl⟩
  rw [hg] at x5
  by_cases hin : no ∈ is
  · obtain ⟨q, hq, ho⟩ := (h.mem no).1 hin
    have HMP := hide (h.mp.in_ no hin)
    have hgi := gatI_iff hb.ps hq
    rw [hg] at hgi
    obtain ⟨k, hk⟩ : ∃ k, gk no = k := ⟨_, rfl⟩
    rw [hk] at HMP
    cases hc : q.cl with
    | false =>
      have E := hide (show finE s.ps no = 11 by unfold finE; rw [hq]; simp [ho, hc])
      have e1 := hgi.2 hc
      have e2 : (no == g) = true := by simp [e1]
      have HE1 := hide e1
      clear hgi hc ho hq hin h hg hk e1
      go_enter Tryd.func37, Tryd.ntmps37
      go_wp2_with (at_lookup; refine wpList_lookup_some _ rfl _ _ 55 rfl 3 63 law_i Tryd.underlying55 (zero_p _) mb mn D rfl HOW.out (.int .i64 no) _ rfl (key_w hwf) k HMP.out ?_)
      go_ret
      exact ⟨by rw [E.out]; rfl, rfl⟩
    | true =>
      have E := hide (show finE s.ps no = 0 by unfold finE; rw [hq]; simp [ho, hc])
      have e1 : ¬ no = g := fun e => by have := hgi.1 e; rw [hc] at this; cases this
      have e2 : (no == g) = false := by simpa using e1
      clear hgi hc ho hq hin h hg hk
      go_enter Tryd.func37, Tryd.ntmps37
      go_wp2_with (at_lookup; refine wpList_lookup_some _ rfl _ _ 55 rfl 3 63 law_i Tryd.underlying55 (zero_p _) mb mn D rfl HOW.out (.int .i64 no) _ rfl (key_w hwf) k HMP.out ?_)
      go_ret
      exact ⟨by rw [E.out]; rfl, rfl⟩
  · have HMP := hide (h.mp.out no hin)
    have E := hide (show finE s.ps no = 7 by
      unfold finE
      cases hq : atNo s.ps no with
      | none => rfl
      | some q =>
        simp only
        cases ho : q.op with
        | false => rfl
        | true => exact absurd ((h.mem no).2 ⟨q, hq, ho⟩) hin)
    clear hin h hg
    go_enter Tryd.func37, Tryd.ntmps37
    go_wp2_with (at_lookup; refine wpList_lookup_none _ rfl _ _ 55 rfl 3 63 law_i Tryd.underlying55 (zero_p _) mb mn D rfl HOW.out (.int .i64 no) _ rfl (key_w hwf) HMP.out ?_)
    go_ret
    exact ⟨by rw [E.out]; rfl, rfl⟩
set_option maxRecDepth 100000 in
set_option maxHeartbeats 4000000 in
theorem checkMoment_any (h : BP B P p mb s mn D is gk gv lv w) (t : Int) :
    Calls Tryd.prog 32 #[.pointer (some ⟨p, 0, none⟩), .int .i64 t] w fun e w' => e = .returned (.int .i64 (timE s.due t)) ∧ w = w' := by
  obtain ⟨x0, x1, x2, x3, x4, x5, x6, x7, x8, x9⟩ := h.cells
  have CM := hide (fun W => show Calls Tryd.prog 44 #[.int .i64 t] W fun e w' => e = .returned (.bool (momB t)) ∧ W = w' from isMoment_any t W)
  cases hm : momB t with
  | false =>
    have E := hide (show timE s.due t = 2 by unfold timE; rw [if_pos hm])
    rw [hm] at CM
    clear hm h
    go_enter Tryd.func32, Tryd.ntmps32
    go_wp2_with (go_at_call 44; refine (CM.out _).mono ?_; rintro e w' ⟨rfl, rfl⟩)
    go_ret
    exact ⟨by rw [E.out]; rfl, rfl⟩
  | true =>
    rw [hm] at CM
    by_cases hl : t < s.due
    · have E := hide (show timE s.due t = 5 by unfold timE; rw [if_neg (by simp [hm]), if_pos hl])
      clear hm h
      go_enter Tryd.func32, Tryd.ntmps32
      go_wp2_with (go_at_call 44; refine (CM.out _).mono ?_; rintro e w' ⟨rfl, rfl⟩)
      go_ret
      exact ⟨by rw [E.out]; rfl, rfl⟩
    · have E := hide (show timE s.due t = 0 by unfold timE; rw [if_neg (by simp [hm]), if_neg hl])
      have hl' : decide (t < s.due) = false := by simpa using hl
      clear hm h
      go_enter Tryd.func32, Tryd.ntmps32
      go_wp2_with (go_at_call 44; refine (CM.out _).mono ?_; rintro e w' ⟨rfl, rfl⟩)
      go_ret
      exact ⟨by rw [E.out]; rfl, rfl⟩
end
end Go.Proofs.YtnkccilgbhogbaaDoor
