/- Plain law of bare symbols; slices.Index of strings. -/
import Derived.Test.YtecancnojdifaaaDoorNmFmL
import Derived.Test.YtecancnojdifaaaDoorNmFmM
import Derived.Test.YtecancnojdifaaaDoorNmSame
namespace Go.Proofs.YtecancnojdifaaaDoor
open Go.RowKit
set_option linter.unusedVariables false
set_option linter.unusedSimpArgs false
theorem bare_fold {f : Nat → Ty → Int × Nat} : ∀ (l : List Part) (st : Nat), (∀ p ∈ l, textE p.1 = 0) → foldE (chkPart f) (l.map bareP) st = (0, st)
  | [], st, _ => rfl
  | p :: l, st, h => by
    have h1 : chkPart f st (bareP p) = (0, st) := by
      unfold chkPart bareP
      rw [if_neg (by simp [h p (by simp)])]
      rfl
    rw [List.map_cons, foldE, h1, if_neg (by simp)]
    exact bare_fold l st fun q hq => h q (by simp [hq])
theorem bare_chk {y : Sym} (h : (symE y).1 = 0) : symE (bareS y) = (0, 0) := by
  obtain ⟨g1, g2, g3, _⟩ := sym_good h
  obtain ⟨t1, _⟩ := sym_txt h
  have h1 : chkName (chkTy 12) (y.name.map bareP) 0 = (0, 0) := by
    unfold chkName
    rw [if_neg (by rw [List.length_map]; omega), if_neg (by rw [List.length_map]; omega)]
    exact bare_fold _ _ fun p hp => (t1 p hp).1
  unfold symE bareS
  simp only [h1]
  rfl
theorem bare_name (y : Sym) : (bareS y).name.map bareP = y.name.map bareP := by
  unfold bareS
  simp only [List.map_map]
  rfl
theorem flat_le {α : Type} {g : α → List UInt8} {k : Nat} : ∀ (l : List α), (∀ a ∈ l, (g a).length ≤ k) → (l.flatMap g).length ≤ k * l.length
  | [], _ => by simp
  | a :: l, h => by
    have h1 := h a (by simp)
    have h2 := flat_le l fun b hb => h b (by simp [hb])
    rw [List.flatMap_cons, List.length_append, List.length_cons, Nat.mul_add]
    omega
theorem bare_len {y : Sym} (h : (symE y).1 = 0) : (mgSym (bareS y)).length ≤ 2000 := by
  obtain ⟨g1, g2, g3, _⟩ := sym_good h
  rw [mgSym_bare]
  have h1 := flat_le (g := kyPart fun _ => []) (k := 64) (y.name.map bareP) (fun p hp => by
    obtain ⟨q, hq, rfl⟩ := List.mem_map.1 hp
    have h60 := (g1 q hq).1
    have hd := digs_len 10 (by decide) 2 q.1.size (by omega) (by decide)
    have hl : (lenL (bareP q).1).length ≤ 2 := hd
    have hx : (bareP q).1.data.toList.length ≤ 60 := by
      have : (bareP q).1.data.toList.length = q.1.size := by rw [Array.length_toList]; rfl
      omega
    unfold kyPart
    rw [if_pos (show (bareP q).2.length = 0 from rfl), List.append_nil, List.length_append]
    omega)
  rw [List.length_map] at h1
  simp only [List.length_cons, List.length_append, List.length_nil]
  omega
/-- A string of bytes. -/
noncomputable def kb2 (s : ByteArray) : ByteArray := ⟨(k2 s).toArray⟩
/-- Where a string stands among others. -/
def ixB (l : List ByteArray) (x : ByteArray) : Nat := l.findIdx fun y => y.data.toList == x.data.toList
def ixI (l : List ByteArray) (x : ByteArray) : Int := if ixB l x < l.length then (ixB l x : Int) else -1
theorem ix_hit {l : List ByteArray} {x : ByteArray} {j : Nat} (hj : j < l.length) (hx : l[j]? = some x) (h : ∀ i y, i < j → l[i]? = some y → y ≠ x) : ixI l x = (j : Int) := by
  have e : ixB l x = j := by
    unfold ixB
    rw [List.findIdx_eq hj]
    refine ⟨?_, fun i hi => ?_⟩
    · rw [List.getElem?_eq_getElem hj] at hx
      rw [Option.some.inj hx]; simp
    · have := h i _ hi (List.getElem?_eq_getElem (by omega))
      rw [beq_eq_false_iff_ne]
      exact fun e => this (ByteArray.ext (Array.toList_inj.1 e))
  unfold ixI
  rw [e, if_pos hj]
theorem ix_none {l : List ByteArray} {x : ByteArray} (h : ∀ i y, i < l.length → l[i]? = some y → y ≠ x) : ixI l x = -1 := by
  unfold ixI
  rw [if_neg]
  intro hlt
  have h1 := List.findIdx_getElem (xs := l) (p := fun y : ByteArray => y.data.toList == x.data.toList) (w := hlt)
  exact h _ _ hlt (List.getElem?_eq_getElem hlt) (ByteArray.ext (Array.toList_inj.1 (beq_iff_eq.1 h1)))
theorem ix_keys (R : List ByteArray) (s : ByteArray) : ixI (R.map kb2) (kb2 s) = if famIx k2 R s < R.length then (famIx k2 R s : Int) else -1 := by
  have : ixB (R.map kb2) (kb2 s) = famIx k2 R s := by
    unfold ixB famIx
    rw [List.findIdx_map]
    rfl
  unfold ixI
  rw [this, List.length_map]
set_option maxHeartbeats 2000000 in
theorem Index_str (A : Option Addr) (n c : Nat) (l : List ByteArray) (x : ByteArray) (w : World) (hn : n ≤ 9000000000000000) (hl : Sl w w.heap.size cs 1 A n l) :
    Calls Tryd.prog 43 #[.slice A n c, .string x] w fun e w' => e = .returned (.int .i64 (ixI l x)) ∧ w' = w := by
  have HLN := hide hl.len
  have HSL := hide hl
  clear hl
  go_enter Tryd.func43, Tryd.ntmps43
  go_wp2_with (fail)
  go_loopw [8] (fun i wr => ∃ j : Nat, j ≤ n ∧ i = .int .i64 j ∧ (∀ i y, i < j → l[i]? = some y → y ≠ x) ∧ wr = w) (fun i _ => n - (intOf i).toNat)
  case atStart => exact ⟨0, Nat.zero_le _, rfl, fun i y h => by omega, rfl⟩
  case round =>
    obtain ⟨j, hj, rfl, hno, rfl⟩ := hrel
    have HNO := hide hno
    clear hno
    by_cases hlt : j < n
    · obtain ⟨bb, oo, s, rfl, hbb, hx0, hc⟩ := HSL.out.at_ hlt
      have c0 : wr.cell? ⟨bb, oo + j, none⟩ = some (.string s) := by simpa using hc 0 _ rfl
      have HX := hide hx0
      clear hc hx0
      by_cases he : x = s
      · subst he
        have HE := hide (ix_hit (by rw [HLN.out]; exact hlt) HX.out HNO.out)
        go_wp2_with (fail)
        go_ret
        exact ⟨by rw [HE.out]; rfl, rfl⟩
      · obtain ⟨e1, e2⟩ := str_ne he
        have HNE := hide he
        clear he
        go_wp2_with (fail)
        go_roundw
        case rel => exact ⟨j + 1, by omega, by go_num, fun i y hi hy => (if h : i = j then (by subst h; rw [HX.out] at hy; rw [← Option.some.inj hy]; exact fun e => HNE.out e.symm) else HNO.out i y (by omega) hy), by first | rfl | trivial⟩
        case measure => simp [intOf]; omega
    · have HE := hide (ix_none (l := l) (x := x) (fun i y hi hy => HNO.out i y (by rw [HLN.out] at hi; omega) hy))
      go_wp2_with (fail)
      go_ret
      exact ⟨by rw [HE.out]; rfl, rfl⟩
end Go.Proofs.YtecancnojdifaaaDoor
