/- The law StackUnfolds. -/
import Derived.Test.YtbfhicimjijdeaaStUnErr
import Derived.Test.YtbfhicimjijdeaaStUnOk
import Derived.Test.YtbfhicimjijdeaaStEqu
import Derived.Test.YtbfhicimjijdeaaStOpen
import Derived.Test.YtbfhicimjijdeaaOpenSz
import Derived.Test.YtbfhicimjijdeaaRows
namespace Go.Proofs.Ytbfhicimjijdeaa
open Go.RowKit
theorem unfErr_zero {n : Nat} {l : List RunT} (h : unfErr n l = 0) : (∀ x ∈ l, runOk x = true) ∧ sumLong l = n ∧ (∀ j x, l[j]? = some x → x.frm = total (l.take j)) ∧ total l ≤ 200 := by
  rw [unfErr] at h
  split at h
  · rename_i ha
    split at h
    · rename_i hs
      split at h
      · rename_i hc
        split at h
        · cases h
        · rename_i ht
          refine ⟨List.all_eq_true.1 ha, hs, fun j x hx => ?_, by omega⟩
          have := firstErr_all hc j (List.getElem?_eq_some_iff.1 hx).1
          rw [chainAt, hx] at this
          simp at this
          exact this
      · cases h
    · cases h
  · cases h
theorem FramesError_v {A : Option Addr} {n cap : Nat} {l : List Frame} {v : Int} (hv : frsErr l = v) (W : World) (hn : n ≤ maxLen) (hl : Sl W W.heap.size Frame.cs 6 A n l) (hf : FramesFit l) :
    Calls Try.prog 8 #[.slice A n cap] W fun e w' => e = .returned (.int .i64 v) ∧ Below W.heap.size W w' := by
  subst hv; exact FramesError_any A n cap l W hn hl hf
theorem checkFrames_v {A : Option Addr} {n cap : Nat} {l : List Frame} {v : Int} (hv : frsErr l = v) (W : World) (hn : n ≤ maxLen) (hl : Sl W W.heap.size Frame.cs 6 A n l) (hf : FramesFit l) :
    Calls Try.prog 34 #[.slice A n cap] W fun e w' => e = .returned (.int .i64 v) ∧ Below W.heap.size W w' := by
  subst hv; exact checkFrames_any A n cap l W hn hl hf
section
variable (A : Option Addr) (n cap : Nat) (l : List Frame) (A2 : Option Addr) (m cap2 : Nat) (rs : List RunT) (w : World) (hn : n ≤ maxLen) (hnc : n ≤ cap) (hl : Sl w w.heap.size Frame.cs 6 A n l) (hf : FramesFit l) (h2 : Sl w w.heap.size RunT.cs 3 A2 m rs)
include hn hl hf
set_option maxRecDepth 100000 in
set_option maxHeartbeats 2000000 in
theorem Unfold_frs (hE : frsErr l ≠ 0) : Calls Try.prog 7 #[.slice A n cap, .slice A2 m cap2] w fun e w' => e = .returned (.tuple #[.slice none 0 0, .int .i64 (frsErr l)]) ∧ Below w.heap.size w w' := by
  obtain ⟨E, hEE⟩ : ∃ E, frsErr l = E := ⟨_, rfl⟩
  have C := hide (checkFrames_v (A := A) (n := n) (cap := cap) hEE w hn hl hf)
  rw [hEE] at hE ⊢
  clear hEE
  have hE0 : (E == 0) = false := by simpa using hE
  go_enter Try.func7, Try.ntmps7
  go_wp2_with (go_at_call 34; refine C.out.mono ?_; rintro r w0 ⟨rfl, hB0⟩)
  go_ret2
  exact ⟨rfl, hB0⟩
set_option maxRecDepth 100000 in
set_option maxHeartbeats 2000000 in
theorem StackUnfolds_F (hE : frsErr l ≠ 0) : Calls Try.prog 3 #[.slice A n cap, .slice A2 m cap2] w fun e w' => e = .returned (.bool true) ∧ Below w.heap.size w w' := by
  have CP := hide (Unfold_frs A n cap l A2 m cap2 w hn hl hf hE)
  obtain ⟨E, hEE⟩ : ∃ E, frsErr l = E := ⟨_, rfl⟩
  have CE := hide (fun W h => FramesError_v (A := A) (n := n) (cap := cap) hEE W hn h hf)
  rw [hEE] at CP hE
  clear hEE
  have hE0 : (E == 0) = false := by simpa using hE
  go_enter Try.func3, Try.ntmps3
  go_wp2_with (first | (go_at_call 7; refine CP.out.mono ?_; rintro r w1 ⟨rfl, hB1⟩) | (go_at_call 8; refine (CE.out _ (hl.up hB1)).mono ?_; rintro r w2 ⟨rfl, hw2⟩; have hB := hB1.trans (hw2.mono hB1.size)))
  go_ret
  exact ⟨rfl, hB⟩
include h2
set_option maxRecDepth 100000 in
set_option maxHeartbeats 2000000 in
theorem StackUnfolds_E (hE : frsErr l = 0) (hm : m ≤ 5864062014805) (hU : unfErr n rs ≠ 0) : Calls Try.prog 3 #[.slice A n cap, .slice A2 m cap2] w fun e w' => e = .returned (.bool true) ∧ Below w.heap.size w w' := by
  have h200 : n ≤ 200 := by have := frsErr_len hE; have := hl.len; omega
  have CP := hide (Unfold_err A n cap l A2 m cap2 rs w h200 hm hl hf h2 hE hU)
  have CR := hide (fun W h h2 => Unfolded_err A n cap l A2 m cap2 rs W h200 hm h hf h2 hU)
  have CE := hide (fun W h => FramesError_v (A := A) (n := n) (cap := cap) hE W hn h hf)
  generalize unfErr n rs = E at CP CR hU
  have hE0 : (E == 0) = false := by simpa using hU
  go_enter Try.func3, Try.ntmps3
  go_wp2_with (first | (go_at_call 7; refine CP.out.mono ?_; rintro r w1 ⟨rfl, hB1⟩) | (go_at_call 8; refine (CE.out _ (hl.up hB1)).mono ?_; rintro r w2 ⟨rfl, hw2⟩; have hB := hB1.trans (hw2.mono hB1.size)) | (go_at_call 9; refine (CR.out _ (hl.up hB) (h2.up hB)).mono ?_; rintro r w3 ⟨rfl, hw3⟩; have hB3 := hB.trans (hw3.mono hB.size)) | (go_at_call 10; refine (Equal_frames none 0 0 none 0 [] _ (Nat.zero_le _) (Sl.nil _ _ _ _ _) (Sl.nil _ _ _ _ _)).mono ?_; rintro r w4 ⟨rfl, hw4⟩; have hB4 := hB3.trans (hw4.mono hB3.size)))
  go_ret
  exact ⟨rfl, hB4⟩
include hnc
set_option maxRecDepth 100000 in
set_option maxHeartbeats 2000000 in
theorem StackUnfolds_G (hE : frsErr l = 0) (hU : unfErr n rs = 0) : Calls Try.prog 3 #[.slice A n cap, .slice A2 m cap2] w fun e w' => e = .returned (.bool true) ∧ Below w.heap.size w w' := by
  have h200 : n ≤ 200 := by have := frsErr_len hE; have := hl.len; omega
  obtain ⟨hall, hs, hch, ht⟩ := unfErr_zero hU
  have hm : m ≤ 200 := by have := (sums_bd rs hall).1; have := h2.len; omega
  have CP := hide (Unfold_ok A n cap l A2 m cap2 rs w h200 hnc hm hl hf h2 hE hall hs hch ht)
  have CR := hide (fun W h h2 => Unfolded_ok A n cap l A2 m cap2 rs W h200 hnc hm h hf h2 hall hs hch ht)
  have CE := hide (fun W h => FramesError_v (A := A) (n := n) (cap := cap) hE W hn h hf)
  have hUL : (unfL l rs).length ≤ 200 := by have := unfL_len l rs hall; omega
  clear hall hs hch ht hU hE
  generalize unfL l rs = L at CP CR hUL
  have HUL := hide hUL
  go_enter Try.func3, Try.ntmps3
  go_wp2_with (first | (go_at_call 7; refine CP.out.mono ?_; rintro r w1 ⟨A', N', c', rfl, hR1, hB1⟩) | (go_at_call 8; refine (CE.out _ (hl.up hB1)).mono ?_; rintro r w2 ⟨rfl, hw2⟩; have hB := hB1.trans (hw2.mono hB1.size); have hR2 := hR1.up hw2) | (go_at_call 9; refine (CR.out _ (hl.up hB) (h2.up hB)).mono ?_; rintro r w3 ⟨A3, N3, c3, rfl, hR3, hw3⟩; have hB3 := hB.trans (hw3.mono hB.size); have hR4 := hR2.up hw3; obtain rfl : N' = N3 := by rw [← hR3.len, ← hR4.len]) | (go_at_call 10; refine (Equal_frames _ _ _ _ _ L _ (by rw [← hR3.len]; have := HUL.out; unfold maxLen; omega) hR4 hR3).mono ?_; rintro r w4 ⟨rfl, hw4⟩; have hB4 := hB3.trans (hw4.mono hB3.size)))
  go_ret
  exact ⟨rfl, hB4⟩
theorem StackUnfolds_all (hm : m ≤ 5864062014805) : Calls Try.prog 3 #[.slice A n cap, .slice A2 m cap2] w fun e w' => e = .returned (.bool true) ∧ Below w.heap.size w w' := by
  by_cases hE : frsErr l = 0
  · by_cases hU : unfErr n rs = 0
    · exact StackUnfolds_G A n cap l A2 m cap2 rs w hn hnc hl hf h2 hE hU
    · exact StackUnfolds_E A n cap l A2 m cap2 rs w hn hl hf h2 hE hm hU
  · exact StackUnfolds_F A n cap l A2 m cap2 w hn hl hf hE
end
namespace stackUnfolds
set_option maxRecDepth 100000 in
theorem walk {H : Type} {enc : TypeId × Value → H} {d0 d1 : DataW H} {p0 p1 : List MemPlace} {base : Nat} {W : World}
    (v0 : Value) (k0 : DataW.Trod enc Try.prog W 0 (fun _ => true) true 22 v0 d0 p0) (ok0 : Value.okWide Try.prog W .any base 22 v0)
    (_z0 : ∀ el sp, d0 = .slice el sp → (el.length + sp.length) * Try.prog.bytesOf 30 ≤ reachBytes)
    (v1 : Value) (k1 : DataW.Trod enc Try.prog W 0 (fun _ => true) true 23 v1 d1 p1) (ok1 : Value.okWide Try.prog W .any base 23 v1)
    (z1 : ∀ el sp, d1 = .slice el sp → (el.length + sp.length) * Try.prog.bytesOf 48 ≤ reachBytes) :
    Calls Try.prog 3 #[v0, v1] W fun e w' => e = .returned (.bool true) ∧ Below W.heap.size W w' := by
  obtain ⟨A, n, cap, l, rfl, hl, hnc, hcm, hf⟩ := open_frames ok0 k0
  obtain ⟨A2, m, cap2, rs, rfl, h2, hnc2, hcm2, _⟩ := open_runs ok1 k1
  refine StackUnfolds_all A n cap l A2 m cap2 rs W (Nat.le_trans hnc hcm) hnc hl hf h2 ?_
  rcases sl_size Try.underlying23 k1 with rfl | ⟨el, sp, e, rfl⟩
  · omega
  · have h := z1 el sp e
    have hb : Try.prog.bytesOf 48 = 24 := by kernel_rfl
    rw [hb] at h
    unfold reachBytes at h
    omega
end stackUnfolds
end Go.Proofs.Ytbfhicimjijdeaa
