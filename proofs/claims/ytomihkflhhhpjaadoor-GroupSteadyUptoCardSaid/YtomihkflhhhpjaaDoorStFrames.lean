/- Walks of checkFrames and FramesError. -/
import Derived.Test.YtomihkflhhhpjaaDoorStFrame
namespace Go.Proofs.YtomihkflhhhpjaaDoor
open Go.RowKit
def frAt (l : List Frame) (k : Nat) : Int := match l[k]? with | none => 0 | some x => frErr x
/-- The error of frames. -/
def frsErr (l : List Frame) : Int := if 200 < l.length then 4 else firstErr (frAt l) l.length
def FramesFit (l : List Frame) : Prop := ∀ x ∈ l, x.fit
theorem frAt_some {l : List Frame} {k : Nat} {x : Frame} (h : l[k]? = some x) : frAt l k = frErr x := by rw [frAt, h]
theorem frsErr_large {l : List Frame} {n : Nat} (hl : l.length = n) (h : 200 < n) : frsErr l = 4 := by rw [frsErr, if_pos (by omega)]
theorem frsErr_hit {l : List Frame} {n k : Nat} {x : Frame} (hl : l.length = n) (h : ¬ 200 < n) (h0 : ∀ j, j < k → frAt l j = 0) (hk : k < n) (hx : l[k]? = some x) (hne : frErr x ≠ 0) : frsErr l = frErr x := by
  rw [frsErr, if_neg (by omega), firstErr_hit h0 (by omega) (by rw [frAt_some hx]; exact hne), frAt_some hx]
theorem frsErr_none {l : List Frame} {n : Nat} (hl : l.length = n) (h : ¬ 200 < n) (h0 : ∀ j, j < n → frAt l j = 0) : frsErr l = 0 := by
  rw [frsErr, if_neg (by omega), firstErr_zero (by rw [hl]; exact h0)]
theorem frsErr_len {l : List Frame} (h : frsErr l = 0) : l.length ≤ 200 := by
  rcases Nat.lt_or_ge 200 l.length with h2 | h2
  · rw [frsErr, if_pos h2] at h; cases h
  · exact h2
set_option maxRecDepth 100000 in
set_option maxHeartbeats 2000000 in
theorem checkFrames_any (A : Option Addr) (n cap : Nat) (l : List Frame) (w : World) (hn : n ≤ maxLen) (hl : Sl w w.heap.size Frame.cs 6 A n l) (hf : FramesFit l) :
    Calls Tryd.prog 99 #[.slice A n cap] w fun e w' => e = .returned (.int .i64 (frsErr l)) ∧ Below w.heap.size w w' := by
  unfold maxLen at hn
  have HL := hide hl.len
  by_cases h : 200 < n
  · have E := hide (frsErr_large HL.out h)
    go_enter Tryd.func99, Tryd.ntmps99
    go_wp2_with (fail)
    go_ret
    exact ⟨by rw [E.out]; rfl, Below.refl _ _⟩
  · have H200 := hide h
    go_enter Tryd.func99, Tryd.ntmps99
    go_wp2_with (fail)
    go_loopw [11] (fun i wr => ∃ k : Nat, k ≤ n ∧ i = .int .i64 k ∧ (∀ j, j < k → frAt l j = 0) ∧ Below w.heap.size w wr) (fun i _ => n - (intOf i).toNat)
    case atStart => exact ⟨0, Nat.zero_le _, rfl, fun j hj => absurd hj (by omega), Below.refl _ _⟩
    case round =>
      obtain ⟨k, hk, rfl, hno, hB⟩ := hrel
      have HNO := hide hno
      clear hno
      have hz := hB.size
      by_cases hlt : k < n
      · obtain ⟨bb, oo, x, rfl, hbb, hx, hc⟩ := (hl.below hB).at_ hlt
        have c0 := hc 0 _ rfl
        have c1 := hc 1 _ rfl
        have c2 := hc 2 _ rfl
        have c3 := hc 3 _ rfl
        have c4 := hc 4 _ rfl
        have c5 := hc 5 _ rfl
        simp only [Nat.add_zero] at c0
        have HX := hide hx
        have hfx : x.fit := hf x (List.mem_of_getElem? hx)
        have CW := hide (fun W => CheckFrame_any x W hfx)
        clear hc hx
        obtain ⟨e, he⟩ : ∃ e, frErr x = e := ⟨_, rfl⟩
        rw [he] at CW
        have HE := hide he
        clear he
        by_cases h0 : e = 0
        · subst h0
          have HK := hide ((frAt_some HX.out).trans HE.out)
          go_wp2_with (go_at_call 115; refine (CW.out _).mono ?_; rintro r w1 ⟨rfl, hw1⟩; have hB1 : Below w.heap.size w w1 := hB.trans (((Below.refl _ _).alloc (Nat.le_refl _) _).trans (hw1.mono (by simp)) |>.mono hz))
          go_roundw
          case rel => exact ⟨k + 1, by omega, by go_num, fun j hj => by (by_cases e : j < k); exact HNO.out j e; (obtain rfl : j = k := by omega); exact HK.out, hB1⟩
          case measure => simp [intOf]; omega
        · have E := hide (show frsErr l = e from (frsErr_hit HL.out H200.out HNO.out hlt HX.out (by rw [HE.out]; exact h0)).trans HE.out)
          have h0' : (e == 0) = false := by simpa using h0
          go_wp2_with (go_at_call 115; refine (CW.out _).mono ?_; rintro r w1 ⟨rfl, hw1⟩; have hB1 : Below w.heap.size w w1 := hB.trans (((Below.refl _ _).alloc (Nat.le_refl _) _).trans (hw1.mono (by simp)) |>.mono hz))
          go_ret
          exact ⟨by rw [E.out]; rfl, hB1⟩
      · have E := hide (frsErr_none HL.out H200.out fun j hj => HNO.out j (by omega))
        go_wp2_with (fail)
        go_ret
        exact ⟨by rw [E.out]; rfl, hB⟩
end Go.Proofs.YtomihkflhhhpjaaDoor
