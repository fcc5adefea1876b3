/- The statement 'GroupSteady': the law returns true for every input whose arguments are together of bulk at most 1048576, and its arguments read as before. No other condition. This text is the row's frame; the walk is imported. -/
import Derived.Test.YtomihkflhhhpjaaDoorRows
import Derived.Test.YtomihkflhhhpjaaDoorTie
import Derived.Test.YtomihkflhhhpjaaDoorCards
import Derived.LaidMore
import Derived.Lay
import Derived.Stop.Joined
import Derived.SevenTiedAt
import Derived.Deep.DeepHandedRow
import Derived.Test.YtomihkflhhhpjaaDoorGroupSteady
import Derived.WalkKit
import Derived.ProofKit
import Derived.OpenShut
import Derived.ShutString
import Derived.ChangeOld
import Derived.Below
import Derived.SizedLaws
namespace Go.Proofs.YtomihkflhhhpjaaDoor.groupSteady
open Go.ChangeShapes Go.WideShapes Go.ChangeAt Go.RowKit
open Go.ChangeMaps (open_string shut_string)
set_option linter.unusedVariables false

theorem own : ownKnob Tryd.prog.godebug = none := by kernel_rfl
theorem laidOut : laidOutB Tryd.prog = true := by kernel_rfl

noncomputable def start (os : Os) : World := World.laidAll Tryd.prog os Rows.groupSteadyUptoRow.laid
theorem start_os (os : Os) : (start os).os = os := World.laidAll_os _ _ _
theorem start_met (os : Os) : laidMetH Tryd.prog Rows.groupSteadyUptoRow.laid ((start os).forCall (fun _ _ => 0) ⟨#[], #[.string ByteArray.empty, .string ByteArray.empty, .int .u32 0, .int .u32 0], []⟩).memory := by rw [MakeChecks.laidMetH_plain _ _ _ (by kernel_rfl)]; exact laidMet_laidAll _ (by kernel_rfl) (by kernel_rfl)
theorem start_shaped (os : Os) : ((start os).forCall (fun _ _ => 0) ⟨#[], #[.string ByteArray.empty, .string ByteArray.empty, .int .u32 0, .int .u32 0], []⟩).Shaped Tryd.prog := World.shaped_of_ZipB (by kernel_rfl) (by kernel_rfl)
theorem start_reads (os : Os) {H : Type} (enc : TypeId × Value → H) : ∃ places, DataW.whole enc Tryd.prog ((start os).forCall (fun _ _ => 0) ⟨#[], #[.string ByteArray.empty, .string ByteArray.empty, .int .u32 0, .int .u32 0], []⟩).memory Tryd.f4.params.toList Rows.groupSteadySpec.vars false (#[.string ByteArray.empty, .string ByteArray.empty, .int .u32 0, .int .u32 0] : Array Value).toList 8 = some ([.lit (.string []), .lit (.string []), .lit (.int .u32 0), .lit (.int .u32 0)], [], places) :=
  ⟨[], by kernel_rfl⟩

set_option maxRecDepth 100000 in
theorem lifted (os : Os) (started : os.Started) (H : Type) (enc : TypeId × Value → H) (F : Stop.Interp) :
    ReturnsInHanded {} Tryd.checked os 4 .any ((Rows.OpenSpec.upto Rows.groupSteadySpec).preRow enc Tryd.prog Tryd.f4 Rows.groupSteadyUptoRow.domain false Rows.groupSteadyUptoRow.laid) (((Rows.OpenSpec.upto Rows.groupSteadySpec).at F).post enc Tryd.prog Tryd.f4 false true false false) := by
  obtain ⟨places, hx⟩ := start_reads os enc
  have hok : Input.okWideB Tryd.checked.prog ((start os).forCall (fun _ _ => 0) ⟨#[], #[.string ByteArray.empty, .string ByteArray.empty, .int .u32 0, .int .u32 0], []⟩) 4 ⟨#[], #[.string ByteArray.empty, .string ByteArray.empty, .int .u32 0, .int .u32 0], []⟩ = true := by kernel_rfl
  refine returnsInHanded_of_row (C := Tryd.checked) (s := (Rows.OpenSpec.upto Rows.groupSteadySpec)) own started (by kernel_rfl) Tryd.func4
    ⟨start os, fun _ _ => 0, ⟨#[], #[.string ByteArray.empty, .string ByteArray.empty, .int .u32 0, .int .u32 0], []⟩, start_os os, start_shaped os, (Input.okWide_of_okWideB (base := 0) hok).1, (Input.okWide_of_okWideB hok).2,
      OpenSpec.preRow_of_cond 8 hx (by kernel_rfl) (fun k hk => by cases hk; kernel_rfl) (by kernel_rfl) (start_met os), by
        simp only [Assume.holds]
        exact ⟨by simp, by simp, fun _ => Modest.zero, by simp, by simp⟩⟩ ?_
  intro W base args ds gs before hval0 hW hcnd hcond hsz0 hL _ _
  have hval : ∀ (j : Nat) t v, Tryd.f4.params[j]? = some t → args[j]? = some v → Value.okWide Tryd.prog W .any base t v := hval0
  have hW' := hW
  obtain ⟨p, q, hA0, hV, rfl, hfz, hnd⟩ := hW
  have hA : DataW.TrodAll enc Tryd.prog W 0 (fun _ => true) true Tryd.f4.params.toList args.toList ds p := hA0
  have hbulk : Rows.uptoBulkAll (ds ++ gs) ≤ 1048576 := of_decide_eq_true (hcond _ rfl)
  have hsz : (DataW.weightsEach Tryd.prog (Tryd.f4.params.toList ++ Rows.groupSteadySpec.plain.varTypes Tryd.prog) (ds ++ gs)).all (· ≤ reachBytes) = true := hsz0
  rw [Tryd.params4] at hA hval hsz
  obtain ⟨v0, vs0, d0, ds0, p0, q0, hargs, rfl, rfl, h0, r0⟩ := trodAll_cons hA
  obtain ⟨v1, vs1, d1, ds1, p1, q1, rfl, rfl, rfl, h1, r1⟩ := trodAll_cons r0
  obtain ⟨v2, vs2, d2, ds2, p2, q2, rfl, rfl, rfl, h2, r2⟩ := trodAll_cons r1
  obtain ⟨v3, vs3, d3, ds3, p3, q3, rfl, rfl, rfl, h3, r3⟩ := trodAll_cons r2
  obtain ⟨rfl, rfl, rfl⟩ := trodAll_nil r3
  obtain rfl : args = #[v0, v1, v2, v3] := by cases args; simp_all
  obtain ⟨rfl, rfl⟩ := trodVars_none hV
  have k0 := h0
  have lt0 : ∀ x ∈ p0, x.block < W.heap.size := by obtain ⟨m, hm⟩ := k0; exact DataW.trod_lt m _ _ _ hm
  have ok0 := hval 0 9 v0 rfl rfl
  have k1 := h1
  have lt1 : ∀ x ∈ p1, x.block < W.heap.size := by obtain ⟨m, hm⟩ := k1; exact DataW.trod_lt m _ _ _ hm
  have ok1 := hval 1 9 v1 rfl rfl
  have k2 := h2
  have lt2 : ∀ x ∈ p2, x.block < W.heap.size := by obtain ⟨m, hm⟩ := k2; exact DataW.trod_lt m _ _ _ hm
  have ok2 := hval 2 28 v2 rfl rfl
  have k3 := h3
  have lt3 : ∀ x ∈ p3, x.block < W.heap.size := by obtain ⟨m, hm⟩ := k3; exact DataW.trod_lt m _ _ _ hm
  have ok3 := hval 3 28 v3 rfl rfl
  obtain ⟨a0, rfl, e0, _, w0⟩ := open_string Tryd.underlying9 ok0 h0
  subst e0
  have s0 : a0.size ≤ reachBytes := by have := sized_string hsz (j := 0) (t := 9) rfl rfl; simpa using this
  obtain ⟨a1, rfl, e1, _, w1⟩ := open_string Tryd.underlying9 ok1 h1
  subst e1
  have s1 : a1.size ≤ reachBytes := by have := sized_string hsz (j := 1) (t := 9) rfl rfl; simpa using this
  obtain ⟨a2, rfl, e2, _, w2⟩ := open_int Tryd.underlying28 ok2 h2
  obtain ⟨a3, rfl, e3, _, w3⟩ := open_int Tryd.underlying28 ok3 h3
  have hb : a0.size + a1.size ≤ 1048576 := by
    have h := hbulk
    simp only [Rows.uptoBulkAll, Rows.uptoBulk, List.append_nil, Array.length_toList] at h
    simp only [ByteArray.size]
    omega
  clear hA0 hval0
  refine (walk a0 s0 a1 s1 a2 w2 a3 w3 hb hL).mono fun e W' ⟨he, bel⟩ => ?_
  subst he
  exact ⟨_, rfl, _, _, _, [], _, [], hW', trodAll_mk1 (shut_bool Tryd.underlying4 _), (trodAll_cons_mk (Below.trod laidOut (by kernel_rfl) (of_decide_eq_true (by kernel_rfl)) k0 bel lt0) (trodAll_cons_mk (Below.trod laidOut (by kernel_rfl) (of_decide_eq_true (by kernel_rfl)) k1 bel lt1) (trodAll_cons_mk (Below.trod laidOut (by kernel_rfl) (of_decide_eq_true (by kernel_rfl)) k2 bel lt2) (trodAll_cons_mk (Below.trod laidOut (by kernel_rfl) (of_decide_eq_true (by kernel_rfl)) k3 bel lt3) trodAll_mk0)))), rfl, bel.frame _, fun h => by cases h⟩

theorem over : Rows.groupSteadyUptoRow.holds Tryd.pinned (Rows.OpenSpec.upto Rows.groupSteadySpec) :=
  OpenClaim.holds_of_cond 4 Tryd.f4 rfl rfl rfl rfl rfl rfl rfl ⟨rfl, rfl, rfl, rfl, rfl⟩ rfl rfl rfl rfl rfl (by kernel_rfl) Tryd.func4 (by kernel_rfl)
    (of_decide_eq_true (by kernel_rfl)) (by unfold Func.isWrapper; first | (rw [if_pos (by decide +kernel)]; kernel_rfl) | (rw [if_neg (by decide +kernel)]; exact ⟨rfl, rfl⟩))
    (fun os started H enc _ F => by rw [OpenClaim.pre_eq_preRow]; exact lifted os started H enc F)

/-- The statement: the tied card. -/
theorem proved : Rows.GroupSteadyUptoCardSaid :=
  Claim7.holds_tied_plain_at .later [] _ _ _ _
    over (fun _ h => by cases h) (by kernel_rfl) (fun _ h => by cases h) groupSteadyUpto_row_tie rfl ⟨rfl, rfl⟩ (by kernel_rfl) rfl
    (fun f fn hf hfn => by
      obtain rfl : f = 4 := Option.some.inj ((show Tryd.prog.funcNamed "inquest/inqkeep1.GroupSteady" = some 4 by kernel_rfl).symm.trans hf) |>.symm
      obtain rfl : fn = Tryd.f4 := (Option.some.inj (Tryd.func4.symm.trans hfn)).symm
      exact ⟨by kernel_rfl, fun j t ht => by
        rw [Tryd.params4] at ht
        have hm : t ∈ [9, 9, 28, 28] := by simpa using Array.mem_of_getElem? ht
        have hall : ([9, 9, 28, 28].all fun u => !Tryd.prog.wantsStandIn u) = true := by kernel_rfl
        exact (show Tryd.prog.wantsStandIn t = false by simpa using List.all_eq_true.1 hall t hm)⟩)
    (by kernel_rfl)
#print axioms proved
end Go.Proofs.YtomihkflhhhpjaaDoor.groupSteady
