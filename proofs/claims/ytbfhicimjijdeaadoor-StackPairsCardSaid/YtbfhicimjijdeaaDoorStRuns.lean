/- Runs of frames: what Unfold says of them, and what it makes. No program. -/
import Derived.Test.YtbfhicimjijdeaaDoorStFrames
namespace Go.Proofs.YtbfhicimjijdeaaDoor
open Go.RowKit
structure RunT where
  frm : Int
  long : Int
  times : Int
def RunT.cs (x : RunT) : List Value := [.int .i64 x.frm, .int .i64 x.long, .int .i64 x.times]
def runOk (x : RunT) : Bool := !outsideB x.long 1 200 && !outsideB x.times 1 200
def sumLong (l : List RunT) : Int := l.foldl (fun s x => s + x.long) 0
def total (l : List RunT) : Int := l.foldl (fun s x => s + x.long * x.times) 0
theorem sumLong_snoc (l : List RunT) (x : RunT) : sumLong (l ++ [x]) = sumLong l + x.long := by simp [sumLong]
theorem total_snoc (l : List RunT) (x : RunT) : total (l ++ [x]) = total l + x.long * x.times := by simp [total]
theorem runOk_iff (x : RunT) : runOk x = true ↔ (1 ≤ x.long ∧ x.long ≤ 200) ∧ 1 ≤ x.times ∧ x.times ≤ 200 := by simp [runOk, outsideB]
theorem mul_bd {a b : Int} (ha : 1 ≤ a ∧ a ≤ 200) (hb : 1 ≤ b ∧ b ≤ 200) : a ≤ a * b ∧ b ≤ a * b ∧ a * b ≤ 40000 := by
  have h1 : a * 1 ≤ a * b := Int.mul_le_mul_of_nonneg_left hb.1 (by omega)
  have h2 : 1 * b ≤ a * b := Int.mul_le_mul_of_nonneg_right ha.1 (by omega)
  have h3 : a * b ≤ a * 200 := Int.mul_le_mul_of_nonneg_left hb.2 (by omega)
  omega
theorem run_ind {P : List RunT → Prop} (h0 : P []) (h1 : ∀ l x, P l → P (l ++ [x])) (l : List RunT) : P l := by
  rw [← List.reverse_reverse l]
  generalize l.reverse = m
  induction m with
  | nil => exact h0
  | cons x m ih => rw [List.reverse_cons]; exact h1 _ _ ih
theorem sums_bd (l : List RunT) : (∀ x ∈ l, runOk x = true) → l.length ≤ sumLong l ∧ sumLong l ≤ 200 * l.length ∧ sumLong l ≤ total l ∧ total l ≤ 40000 * l.length := by
  refine run_ind (P := fun l => (∀ x ∈ l, runOk x = true) → l.length ≤ sumLong l ∧ sumLong l ≤ 200 * l.length ∧ sumLong l ≤ total l ∧ total l ≤ 40000 * l.length) (fun _ => by simp [sumLong, total]) (fun l x ih h => ?_) l
  obtain ⟨a, b, c, d⟩ := ih fun y hy => h y (List.mem_append_left _ hy)
  obtain ⟨e, f⟩ := (runOk_iff x).1 (h x (by simp))
  obtain ⟨g, _, i⟩ := mul_bd e f
  rw [sumLong_snoc, total_snoc, List.length_append, List.length_singleton]
  omega
/-- Whether the run at place k begins where those before it end. -/
def chainAt (l : List RunT) (k : Nat) : Int := match l[k]? with | none => 0 | some x => if x.frm = total (l.take k) then 0 else 2
/-- The error of runs over n frames. -/
def unfErr (n : Nat) (l : List RunT) : Int :=
  if l.all runOk then (if sumLong l = n then (if firstErr (chainAt l) l.length = 0 then (if 200 < total l then 4 else 0) else 2) else 1) else 2
theorem unfErr_bad {n : Nat} {l : List RunT} {x : RunT} (hx : x ∈ l) (h : runOk x = false) : unfErr n l = 2 := by
  have : l.all runOk = false := by rw [List.all_eq_false]; exact ⟨x, hx, by simp [h]⟩
  rw [unfErr, this]; rfl
theorem unfErr_sum {n : Nat} {l : List RunT} (h : ∀ x ∈ l, runOk x = true) (hs : ¬ sumLong l = n) : unfErr n l = 1 := by
  rw [unfErr, if_pos (by rw [List.all_eq_true]; exact h), if_neg hs]
theorem unfErr_chain {n k : Nat} {l : List RunT} {x : RunT} (h : ∀ x ∈ l, runOk x = true) (hs : sumLong l = n) (h0 : ∀ j, j < k → chainAt l j = 0) (hk : l[k]? = some x) (hne : ¬ x.frm = total (l.take k)) : unfErr n l = 2 := by
  have hc : chainAt l k = 2 := by rw [chainAt, hk]; simp [hne]
  have hl : k < l.length := (List.getElem?_eq_some_iff.1 hk).1
  rw [unfErr, if_pos (by rw [List.all_eq_true]; exact h), if_pos hs, if_neg (by rw [firstErr_hit h0 hl (by rw [hc]; decide), hc]; decide)]
theorem unfErr_end {n : Nat} {l : List RunT} (h : ∀ x ∈ l, runOk x = true) (hs : sumLong l = n) (h0 : ∀ j, j < l.length → chainAt l j = 0) : unfErr n l = if 200 < total l then 4 else 0 := by
  rw [unfErr, if_pos (by rw [List.all_eq_true]; exact h), if_pos hs, if_pos (firstErr_zero h0)]
/-- What is made of frames by runs. -/
def unfL (l : List Frame) : List RunT → List Frame
  | [] => []
  | r :: rs => (List.replicate r.times.toNat (l.take r.long.toNat)).flatten ++ unfL (l.drop r.long.toNat) rs
def longs (rs : List RunT) : Nat := rs.foldl (fun s x => s + x.long.toNat) 0
theorem longs_cons (r : RunT) (rs : List RunT) : longs (r :: rs) = r.long.toNat + longs rs := by
  have h : ∀ (rs : List RunT) (a : Nat), rs.foldl (fun s x => s + x.long.toNat) a = a + rs.foldl (fun s x => s + x.long.toNat) 0 := by
    intro rs
    induction rs with
    | nil => intro a; rfl
    | cons r rs ih => intro a; rw [List.foldl_cons, ih, List.foldl_cons, ih (0 + _)]; omega
  unfold longs
  rw [List.foldl_cons, h]; omega
theorem unfL_snoc (rs : List RunT) (r : RunT) : ∀ l : List Frame, unfL l (rs ++ [r]) = unfL l rs ++ (List.replicate r.times.toNat ((l.drop (longs rs)).take r.long.toNat)).flatten := by
  induction rs with
  | nil => intro l; simp [unfL, longs]
  | cons x rs ih => intro l; rw [List.cons_append, unfL, ih, unfL, longs_cons, List.append_assoc, List.drop_drop]
theorem replicate_more (a : Nat) (l : List Frame) : (List.replicate (a + 1) l).flatten = (List.replicate a l).flatten ++ l := by
  rw [List.replicate_succ']; simp
end Go.Proofs.YtbfhicimjijdeaaDoor
