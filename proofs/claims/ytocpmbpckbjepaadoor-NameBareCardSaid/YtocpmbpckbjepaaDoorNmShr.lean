/- Walks of Short and Shorted, out of what Demangle and Demangled answer. -/
import Derived.Test.YtocpmbpckbjepaaDoorNmSame
import Derived.Test.YtocpmbpckbjepaaDoorNmGC
import Derived.Test.YtocpmbpckbjepaaDoorNmGA
import Derived.BigQuiet
namespace Go.Proofs.YtocpmbpckbjepaaDoor
open Go.RowKit
set_option linter.unusedVariables false
set_option linter.unusedSimpArgs false
/-- The last parts of a name. -/
def shL : List Part → ByteArray
  | [] => ⟨#[]⟩
  | [a] => a.1
  | [a, b] => a.1 ++ ⟨#[46]⟩ ++ b.1
  | _ :: r => shL r
theorem shL_two : ∀ (l : List Part) (m : Nat) (p q : Part), l.length = m + 2 → l[m]? = some p → l[m + 1]? = some q → shL l = p.1 ++ ⟨#[46]⟩ ++ q.1
  | [a, b], m, p, q, hl, hp, hq => by
    obtain rfl : m = 0 := by simpa using hl.symm
    simp at hp hq
    subst hp hq
    rfl
  | a :: b :: c :: r, m, p, q, hl, hp, hq => by
    match m with
    | 0 => simp at hl
    | m + 1 => exact shL_two (b :: c :: r) m p q (by simpa using hl) (by simpa using hp) (by simpa using hq)
theorem shL_one (l : List Part) (p : Part) (hl : l.length = 1) (hp : l[0]? = some p) : shL l = p.1 := by
  match l, hl with
  | [a], _ => simp at hp; subst hp; rfl
theorem mem_60 {l : List Part} (h : GoodParts 12 l) {k : Nat} {p : Part} (hp : l[k]? = some p) : p.1.size ≤ 60 := (h p (List.mem_of_getElem? hp)).1
def DemC (f : Nat) (y : Sym) (N E : Int) (s : ByteArray) (w : World) : Prop := Calls Tryd.prog f #[.string s] w fun e w' => ∃ (k : Nat) (cs : List Value), e = .returned (.tuple #[.agg cs.toArray, .int .i64 N, .int .i64 E]) ∧ SymIn w' k y cs ∧ Below w.heap.size w w'
theorem Short_bad {y : Sym} {N E : Int} {s : ByteArray} {w : World} (hm : s.size ≤ maxLen) (HD : DemC 12 y N E s w) (hE : E ≠ 0) :
    Calls Tryd.prog 10 #[.string s] w fun e w' => e = .returned (.string s) ∧ Below w.heap.size w w' := by
  have HC := hide HD
  have hE' : (E == 0) = false := by simpa using hE
  unfold maxLen at hm
  clear HD
  go_enter Tryd.func10, Tryd.ntmps10
  go_wp2_with (fail)
  go_at_call 12
  unfold DemC at HC
  refine HC.out.mono ?_
  rintro e w1 ⟨k, cs, rfl, hin, hw1⟩
  obtain ⟨A, n, c, A2, n2, c2, rfl, hn, hm1, hn2, hm2, hl, hl2⟩ := hin
  have HB1 := hide (hw1.alloc hw1.size (.cells #[.slice A n c, .slice A2 n2 c2] 25))
  clear hl hl2 hw1
  go_wp2_with (first | go_quiet (fail))
  go_ret
  exact ⟨rfl, HB1.out⟩
set_option maxHeartbeats 4000000 in
theorem Short_one {y : Sym} {N : Int} {s : ByteArray} {w : World} (hm : s.size ≤ maxLen) (HD : DemC 12 y N 0 s w) (hL : y.name.length = 1) (hG : GoodParts 12 y.name) :
    Calls Tryd.prog 10 #[.string s] w fun e w' => e = .returned (.string (shL y.name)) ∧ Below w.heap.size w w' := by
  have HC := hide HD
  have HL := hide hL
  have HG := hide hG
  unfold maxLen at hm
  clear HD hL hG
  go_enter Tryd.func10, Tryd.ntmps10
  go_wp2_with (fail)
  go_at_call 12
  unfold DemC at HC
  refine HC.out.mono ?_
  rintro e w1 ⟨k, cs, rfl, hin, hw1⟩
  obtain ⟨A, n, c, A2, n2, c2, rfl, hn, hm1, hn2, hm2, hl, hl2⟩ := hin
  have hn1 := (hl.len.symm.trans HL.out)
  subst hn1
  have HB1 := hide (hw1.alloc hw1.size (.cells #[.slice A 1 c, .slice A2 n2 c2] 25))
  obtain ⟨b, o, p, cs, rfl, hbb, hp, hpin, hc⟩ := hl.at_ (k := 0) (by decide)
  obtain ⟨A1, n1, q1, rfl, hps, hnp, hmp, _⟩ := hpin
  have c0 : w1.cell? ⟨b, o, none⟩ = some (.string p.1) := by simpa using hc 0 _ rfl
  have h60 := mem_60 HG.out hp
  have HS := hide (shL_one _ _ HL.out hp)
  clear hl hl2 hw1 hc hp
  go_wp2_with (first | go_quiet (fail))
  go_ret
  exact ⟨by rw [HS.out]; rfl, HB1.out⟩
set_option maxHeartbeats 4000000 in
theorem Short_two {y : Sym} {N : Int} {s : ByteArray} {w : World} {m : Nat} (hm : s.size ≤ maxLen) (HD : DemC 12 y N 0 s w) (hL : y.name.length = m + 2) (hm20 : m ≤ 20) (hG : GoodParts 12 y.name) :
    Calls Tryd.prog 10 #[.string s] w fun e w' => e = .returned (.string (shL y.name)) ∧ Below w.heap.size w w' := by
  have HC := hide HD
  have HL := hide hL
  have HG := hide hG
  unfold maxLen at hm
  clear HD hL hG
  have i1 : IntKind.i64.wrap ((m : Int) + 2 - 2) = m := by rw [show (m : Int) + 2 - 2 = m by omega]; exact IntWalk.i64_in _ (by omega)
  have i2 : IntKind.i64.wrap (m : Int) = m := IntWalk.i64_in _ (by omega)
  have i3 : IntKind.i64.wrap ((m : Int) + 1) = (m : Int) + 1 := IntWalk.i64_in _ (by omega)
  go_enter Tryd.func10, Tryd.ntmps10
  go_wp2_with (fail)
  go_at_call 12
  unfold DemC at HC
  refine HC.out.mono ?_
  rintro e w1 ⟨k, cs, rfl, hin, hw1⟩
  obtain ⟨A, n, c, A2, n2, c2, rfl, hn, hm1, hn2, hm2, hl, hl2⟩ := hin
  have hn1 := (hl.len.symm.trans HL.out)
  subst hn1
  have HB1 := hide (hw1.alloc hw1.size (.cells #[.slice A (m + 2) c, .slice A2 n2 c2] 25))
  have HSL := hide hl
  clear hl
  obtain ⟨b, o, p, cs, rfl, hbb, hp, hpin, hc⟩ := HSL.out.at_ (k := m) (by omega)
  obtain ⟨A1, n1, q1, rfl, hps, hnp, hmp, _⟩ := hpin
  have c0 : w1.cell? ⟨b, o + m * 2, none⟩ = some (.string p.1) := by simpa using hc 0 _ rfl
  have h60 := mem_60 HG.out hp
  clear hc
  obtain ⟨b', o', p', cs', he', hbb', hp', hpin', hc'⟩ := HSL.out.at_ (k := m + 1) (by omega)
  obtain ⟨rfl, rfl⟩ : b = b' ∧ o = o' := (by simpa using he')
  obtain ⟨A1', n1', q1', rfl, hps', hnp', hmp', _⟩ := hpin'
  have c1 : w1.cell? ⟨b, o + (m + 1) * 2, none⟩ = some (.string p'.1) := by simpa using hc' 0 _ rfl
  have h60' := mem_60 HG.out hp'
  have HS := hide (shL_two _ m _ _ HL.out hp hp')
  clear hl2 hw1 hc' hp hp' he'
  go_wp2_with (first | go_quiet (fail))
  go_ret
  exact ⟨by rw [HS.out]; rfl, below_drewN HB1.out _⟩
end Go.Proofs.YtocpmbpckbjepaaDoor
