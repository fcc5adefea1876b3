/- Walks of Cut and CutOf (printed by gen_ct.py). -/
import Derived.Test.YtbfhicimjijdeaaDoorStConc
import Derived.Test.YtbfhicimjijdeaaDoorStFrV
import Derived.Outline
import Derived.Deep.RegionHeld3
import Derived.Deep.DrawnRows
namespace Go.Proofs.YtbfhicimjijdeaaDoor
open Go.RowKit Go.Joins
set_option linter.unusedVariables false
attribute [local go_sem ↓] Go.wp_at_zero Go.wp_at_succ
/-- What Cut leaves. -/
def cutL (l : List Frame) (most : Nat) : List Frame := if l.length ≤ most then l else l.take ((most + 1) / 2) ++ l.drop (l.length - most / 2)
def goneN (l : List Frame) (most : Nat) : Nat := l.length - most
def CutGives (mk : Value → Value) (L : List Frame) (W : World) (e : Ending) (w' : World) : Prop := ∃ A N c, e = .returned (mk (.slice A N c)) ∧ Sl w' w'.heap.size Frame.cs 6 A N L ∧ Below W.heap.size W w' ∧ N ≤ c
theorem two_parts {w W0 : World} {n h t g q : Nat} {b o c1 c2 : Nat} {x y : Option Addr} {l : List Frame} {ty : TypeId} (hl : Sl w w.heap.size Frame.cs 6 (some ⟨b, o, none⟩) n l) (hh : h ≤ n) (ht : t ≤ n) (hx : x = some ⟨b, o, none⟩) (hy : y = some ⟨b, o + q * 6, none⟩ ∧ q + t = n ∨ t = 0 ∧ y ≠ none) (hg : g = W0.heap.size) (hB0 : Below w.heap.size w W0) :
    Sl (W0.alloc (.cells #[.slice x h c1, .slice y t c2] ty)) (W0.alloc (.cells #[.slice x h c1, .slice y t c2] ty)).heap.size PartT.cs 1 (some ⟨g, 0, none⟩) 2 [⟨x, h, c1, l.take h⟩, ⟨y, t, c2, l.drop (l.length - t)⟩] ∧
    PartsOk (W0.alloc (.cells #[.slice x h c1, .slice y t c2] ty)) [⟨x, h, c1, l.take h⟩, ⟨y, t, c2, l.drop (l.length - t)⟩] := by
  subst hg hx
  have hB : Below w.heap.size w (W0.alloc (.cells #[.slice (some ⟨b, o, none⟩) h c1, .slice y t c2] ty)) := hB0.alloc hB0.size _
  refine ⟨⟨rfl, fun _ => ⟨W0.heap.size, 0, rfl, by simp, fun i x hx j v hv => ?_⟩⟩, fun p hp => ?_⟩
  · match j, hv with
    | 0, hv =>
      simp [PartT.cs] at hv
      subst hv
      match i, hx with
      | 0, hx => simp at hx; subst hx; simp
      | 1, hx => simp at hx; subst hx; simp
      | i + 2, hx => simp at hx
    | j + 1, hv => simp [PartT.cs] at hv
  · simp only [List.mem_cons, List.not_mem_nil, or_false] at hp
    rcases hp with rfl | rfl
    · exact ⟨(hl.first hh).up hB, by simp⟩
    · rcases hy with ⟨rfl, hq⟩ | ⟨rfl, hy⟩
      · refine ⟨?_, by simp⟩
        have := (hl.drop (i := q) (by omega)).up hB
        rw [show n - q = t by omega] at this
        show Sl _ _ Frame.cs 6 _ t (l.drop (l.length - t))
        rw [hl.len, show n - t = q by omega]
        exact this
      · refine ⟨?_, hy⟩
        have : l.drop (l.length - 0) = [] := by simp
        show Sl _ _ Frame.cs 6 y 0 (l.drop (l.length - 0))
        rw [this]
        exact Sl.nil _ _ _ _ _
theorem Concat_two {w W0 : World} {n h t g q : Nat} {b o c1 c2 : Nat} {x y : Option Addr} {l : List Frame} {ty : TypeId} (hl : Sl w w.heap.size Frame.cs 6 (some ⟨b, o, none⟩) n l) (hn : n ≤ 200) (hh : h ≤ n) (ht : t ≤ n) (hx : x = some ⟨b, o, none⟩) (hy : y = some ⟨b, o + q * 6, none⟩ ∧ q + t = n ∨ t = 0 ∧ y ≠ none) (hg : g = W0.heap.size) (hB0 : Below w.heap.size w W0) :
    Calls Tryd.prog 37 #[.slice (some ⟨g, 0, none⟩) 2 2] (W0.alloc (.cells #[.slice x h c1, .slice y t c2] ty)).drew fun e w' => ∃ A N c, e = .returned (.slice A N c) ∧ Sl w' w'.heap.size Frame.cs 6 A N (l.take h ++ l.drop (l.length - t)) ∧ Below w.heap.size w w' ∧ N ≤ c := by
  obtain ⟨h1, h2⟩ := two_parts (c1 := c1) (c2 := c2) (ty := ty) hl hh ht hx hy hg hB0
  have hlen := hl.len
  have hd := (Below.refl (W0.alloc (.cells #[.slice x h c1, .slice y t c2] ty)).heap.size (W0.alloc (.cells #[.slice x h c1, .slice y t c2] ty))).drew
  refine (Concat_any _ 2 2 _ _ (by decide) ?_ (h1.up hd) (fun p hp => ⟨(h2 p hp).1.up hd, (h2 p hp).2⟩)).mono ?_
  · simp [flat]; omega
  · rintro e w' ⟨A, N, c, rfl, hR, hB, hcc⟩
    refine ⟨A, N, c, rfl, by simpa [flat] using hR, ?_, hcc⟩
    exact (hB0.alloc hB0.size _).drew.trans (hB.mono (by have := hB0.size; simp [World.drew]; omega))
set_option maxRecDepth 100000 in
set_option maxHeartbeats 4000000 in
theorem Cut_ok (A : Option Addr) (n c : Nat) (l : List Frame) (most : Nat) (w : World) (hn : n ≤ 200) (hnc : n ≤ c) (hcm : c ≤ maxLen) (hm1 : 1 ≤ most) (hm2 : most ≤ 200) (hl : Sl w w.heap.size Frame.cs 6 A n l) (hf : FramesFit l) (hE : frsErr l = 0) :
    Calls Tryd.prog 13 #[.slice A n c, .int .i64 most] w (CutGives (fun v => .tuple #[v, .int .i64 (goneN l most : Nat), .int .i64 0]) (cutL l most) w) := by
  have HL := hide hl.len
  unfold maxLen at hcm
  have C := hide (checkFrames_v (A := A) (n := n) (cap := c) hE w (by unfold maxLen; omega) hl hf)
  have O := hide (show ∀ W, Calls Tryd.prog 18 #[.int .i64 most, .int .i64 1, .int .i64 200] W fun e w' => e = .returned (.bool false) ∧ W = w' from fun W => by have := outside_any most 1 200 W; rw [show outsideB most 1 200 = false by simp [outsideB]; omega] at this; exact this)
  by_cases hle : n ≤ most
  · have E := hide (show cutL l most = l by rw [cutL, if_pos (by rw [HL.out]; exact hle)])
    have hg : goneN l most = 0 := by rw [goneN, HL.out]; omega
    have HG := hide hg
    clear hg
    go_enter Tryd.func13, Tryd.ntmps13
    go_wp2_with (first | (go_at_call 35; refine C.out.mono ?_; rintro r w0 ⟨rfl, hB0⟩) | (go_at_call 18; refine (O.out _).mono ?_; rintro e w' ⟨rfl, rfl⟩) | (go_at_call 36; refine (Clone_any _ _ _ _ _ (by omega) (hl.up hB0)).mono ?_; rintro r w1 ⟨A1, N1, c1, rfl, hR1, hw1, hcc1⟩; have hB1 : Below w.heap.size w w1 := hB0.trans (hw1.mono hB0.size)))
    go_ret3
    exact ⟨A1, N1, c1, by rw [HG.out]; rfl, by rw [E.out]; exact hR1, hB1, hcc1⟩
  · have E := hide (show cutL l most = l.take ((most + 1) / 2) ++ l.drop (l.length - most / 2) by rw [cutL, if_neg (by rw [HL.out]; exact hle)])
    obtain ⟨h, hh⟩ : ∃ h : Nat, (most + 1) / 2 = h := ⟨_, rfl⟩
    obtain ⟨t, ht⟩ : ∃ t : Nat, most / 2 = t := ⟨_, rfl⟩
    obtain ⟨q, hq⟩ : ∃ q : Nat, n - t = q := ⟨_, rfl⟩
    obtain ⟨g, hg⟩ : ∃ g : Nat, goneN l most = g := ⟨_, rfl⟩
    rw [hh, ht] at E
    obtain ⟨b, o, rfl, _⟩ := hl.cells (by omega)
    have hle' : decide (n ≤ most) = false := by simpa using hle
    have i1 : IntKind.i64.wrap ((most : Int) + 1) = (most : Int) + 1 := IntWalk.i64_in _ (by omega)
    have i2 : ((most : Int) + 1).tdiv 2 = (h : Int) := by rw [Int.tdiv_eq_ediv_of_nonneg (by omega)]; omega
    have i3 : (most : Int).tdiv 2 = (t : Int) := by rw [Int.tdiv_eq_ediv_of_nonneg (by omega)]; omega
    have i2' : ((most : Int) + 1) / 2 = (h : Int) := by omega
    have i3' : (most : Int) / 2 = (t : Int) := by omega
    have i6 : IntKind.i64.wrap (h : Int) = (h : Int) := IntWalk.i64_in _ (by omega)
    have i7 : IntKind.i64.wrap (t : Int) = (t : Int) := IntWalk.i64_in _ (by omega)
    have i4 : IntKind.i64.wrap ((n : Int) - (t : Int)) = (q : Int) := by rw [show (n : Int) - (t : Int) = (q : Int) by omega]; exact IntWalk.i64_in _ (by omega)
    have i5 : IntKind.i64.wrap ((n : Int) - (most : Int)) = (g : Int) := by rw [IntWalk.i64_in _ (by omega), ← hg, goneN, HL.out]; omega
    have j1 : (0 : Int) ≤ (h : Int) := by omega
    have j2 : (h : Int) ≤ (n : Int) := by omega
    have j3 : (0 : Int) ≤ (q : Int) := by omega
    have j4 : (q : Int) ≤ (n : Int) := by omega
    have j8 : (q : Int) ≤ (c : Int) := by omega
    have j9 : q + t = n := by omega
    have hnq : n - q = t := by omega
    have j5 : h ≤ n := by omega
    have j6 : t ≤ n := by omega
    have j7 : (h : Int) ≤ (c : Int) := by omega
    have hgn : g ≤ 200 := by rw [← hg, goneN, HL.out]; omega
    have HG := hide hg
    have HH := hide hh
    have HT := hide ht
    clear hh ht hg hle hq
    go_enter Tryd.func13, Tryd.ntmps13
    go_wp2_with (first | (go_at_call 35; refine C.out.mono ?_; rintro r w0 ⟨rfl, hB0⟩) | (go_at_call 18; refine (O.out _).mono ?_; rintro e w' ⟨rfl, rfl⟩) | fail)
    by_cases hcc : c = q
    · subst hcc
      have k2 : (c : Int) ≤ (n : Int) := by omega
      have ht0 := hide (show t = 0 by omega)
      go_region_held3 (fun _ => True) (trivial) ((go_at_call 37; refine (Concat_two (q := 0) (hl.up hB0) hn j5 j6 rfl (.inr ⟨ht0.out, Option.some_ne_none (⟨b, o, none⟩ : Addr)⟩) rfl (Below.refl _ _)).mono ?_; rintro r w1 ⟨A1, N1, c1, rfl, hR1, hw1, hcc1⟩))
      go_wp2_with (fail)
      go_ret3
      exact ⟨A1, N1, c1, by rw [HG.out]; rfl, by rw [E.out]; exact hR1, hB0.trans (hw1.mono hB0.size), hcc1⟩
    · have J9 := hide j9
      clear j9
      go_region_held3 (fun _ => True) (trivial) ((go_at_call 37; refine (Concat_two (hl.up hB0) hn j5 j6 rfl (.inl ⟨rfl, J9.out⟩) rfl (Below.refl _ _)).mono ?_; rintro r w1 ⟨A1, N1, c1, rfl, hR1, hw1, hcc1⟩))
      go_wp2_with (fail)
      go_ret3
      exact ⟨A1, N1, c1, by rw [HG.out]; rfl, by rw [E.out]; exact hR1, hB0.trans (hw1.mono hB0.size), hcc1⟩
end Go.Proofs.YtbfhicimjijdeaaDoor
