/- Walk of stack.Fold. -/
import Derived.Test.YtbfhicimjijdeaaDoorStFoldL
import Derived.Test.YtbfhicimjijdeaaDoorOwnMore
import Derived.Test.YtbfhicimjijdeaaDoorStFrV
import Derived.Lib.SmallJoins
namespace Go.Proofs.YtbfhicimjijdeaaDoor
open Go.RowKit Go.Joins
set_option linter.unusedVariables false
theorem info_run : (Tryd.prog.info? 48).map (fun i => (i.zero, i.size, i.bytes)) = some (some (.agg #[.int .i64 0, .int .i64 0, .int .i64 0]), 3, 24) := by kernel_rfl
/-- A slice of runs is returned. -/
def GivesRuns (mk : Value → Value) (L : List RunT) (W : World) (e : Ending) (w' : World) : Prop := ∃ A N c, e = .returned (mk (.slice A N c)) ∧ Sl w' w'.heap.size RunT.cs 3 A N L ∧ Below W.heap.size W w'
/-- A run's cells, in a block of its own. -/
def bestCells (a x y : Nat) : Array Value := #[.int .i64 a, .int .i64 x, .int .i64 y]
theorem own_slice {w : World} {base sz n : Nat} {e : TypeId} {v : Value} {xs : List Value} (h : w.ownsRow base e sz v n xs) : (v = .slice none 0 0 ∧ n = 0) ∨ ∃ g c, v = .slice (some ⟨g, 0, none⟩) n c := by
  rcases h.2 with ⟨rfl, h0⟩ | ⟨g, cap, cur, rfl, _⟩
  · exact .inl ⟨rfl, h0⟩
  · exact .inr ⟨g, cap, rfl⟩
/-- What the walk knows of a product. -/
structure MulNum (a b p : Nat) : Prop where
  e : (a : Int) * (b : Int) = (p : Int)
  w : IntKind.i64.wrap ((a : Int) * (b : Int)) = (p : Int)
  v : IntKind.i64.wrap (p : Int) = (p : Int)
theorem mulNum {a b : Nat} (h : a * b ≤ 1000000) : ∃ p, p = a * b ∧ MulNum a b p := by
  have e : (a : Int) * (b : Int) = ((a * b : Nat) : Int) := by rw [Int.natCast_mul]
  exact ⟨a * b, rfl, e, by rw [e]; exact IntWalk.i64_in _ (by omega), IntWalk.i64_in _ (by omega)⟩
theorem flat_last (o : List RunT) (r : RunT) (i : Nat) (hi : i < 3) : ((o ++ [r]).flatMap RunT.cs)[o.length * 3 + i]? = r.cs[i]? := by
  rw [List.flatMap_append, List.getElem?_append_right (by rw [flatMap_len (sz := 3) (fun _ => rfl)]; omega), flatMap_len (sz := 3) (fun _ => rfl), show o.length * 3 + i - o.length * 3 = i by omega]
  simp
theorem flat_set (o : List RunT) (r : RunT) (v : Int) : ((o ++ [r]).flatMap RunT.cs).set (o.length * 3 + 1) (.int .i64 v) = (o ++ [(⟨r.frm, v, r.times⟩ : RunT)]).flatMap RunT.cs := by
  rw [List.flatMap_append, List.flatMap_append, List.set_append_right _ _ (by rw [flatMap_len (sz := 3) (fun _ => rfl)]; omega), flatMap_len (sz := 3) (fun _ => rfl), show o.length * 3 + 1 - o.length * 3 = 1 by omega]
  simp [RunT.cs]
theorem fold_next {l : List Frame} {a x y Q : Nat} {out : List RunT} (h : a < l.length) (hb : bestOf (l.drop a) = (x, y)) (hQ : Q = x * y) (hf : foldW l (l.length - a) a out = foldL l) (hr : RunsIn out a) :
    foldW l (l.length - (a + Q)) (a + Q) (pushRun out ⟨a, x, y⟩) = foldL l ∧ RunsIn (pushRun out ⟨a, x, y⟩) (a + Q) ∧ a + Q ≤ l.length ∧ 1 ≤ Q := by
  have hn := nextAt_bd h
  have e : nextAt l a = a + Q := by rw [nextAt, hb, hQ]
  have h2 := foldW_step (out := out) h
  rw [hb, e] at h2
  rw [e] at hn
  obtain ⟨b1, b2, b3⟩ := bestOf_bd (l := l.drop a) (by rw [List.length_drop]; omega)
  rw [hb] at b1 b2 b3
  simp only at b1 b2 b3 h2
  have hxy := mul_le b1 b2 (Nat.le_refl _)
  refine ⟨by rw [← h2]; exact hf, runsIn_push hr (by omega) ?_ ?_, by omega, by omega⟩
  · simp only; omega
  · simp only; omega
theorem flat_push (o : List RunT) (b : RunT) : (o ++ [b]).flatMap RunT.cs = o.flatMap RunT.cs ++ b.cs := by simp
theorem pushRun_nil' (b : RunT) : pushRun [] b = [] ++ [b] := rfl
theorem last_split {out : List RunT} {k : Nat} (h : out.length = k + 1) : ∃ o r, out = o ++ [r] ∧ o.length = k := by
  have hne : out ≠ [] := by intro e; rw [e] at h; cases h
  refine ⟨out.dropLast, out.getLast hne, (List.dropLast_concat_getLast hne).symm, by rw [List.length_dropLast]; omega⟩
set_option maxRecDepth 100000 in
set_option maxHeartbeats 8000000 in
theorem Fold_ok (A : Option Addr) (n c : Nat) (l : List Frame) (w : World) (hn : n ≤ 200) (hnc : n ≤ c) (hcm : c ≤ maxLen) (hl : Sl w w.heap.size Frame.cs 6 A n l) (hf : FramesFit l) (hE : frsErr l = 0) :
    Calls Tryd.prog 15 #[.slice A n c] w (GivesRuns (fun v => .tuple #[v, .int .i64 0]) (foldL l) w) := by
  have HL := hide hl.len
  have C := hide (checkFrames_v (A := A) (n := n) (cap := c) hE w (by unfold maxLen; omega) hl hf)
  have HCM := hide hcm
  unfold maxLen at hcm
  obtain ⟨i0, hi0, iz0, iz1, iz2⟩ := info_parts info_run
  go_enter Tryd.func15, Tryd.ntmps15
  go_wp2_with (go_at_call 35; refine C.out.mono ?_; rintro r w0 ⟨rfl, hB0⟩)
  go_loopw [5, 6] (fun v i wr => ∃ (a m : Nat) (out : List RunT), a ≤ n ∧ i = .int .i64 a ∧ wr.ownsRow w.heap.size 48 3 v m (out.flatMap RunT.cs) ∧ out.length = m ∧ RunsIn out a ∧ foldW l (l.length - a) a out = foldL l ∧ Below w.heap.size w wr) (fun _ i _ => n - (intOf i).toNat)
  case atStart => exact ⟨0, 0, [], Nat.zero_le _, rfl, World.ownsRow_nil _ _ _ _, rfl, ⟨Nat.zero_le _, by simp⟩, rfl, hB0⟩
  case round =>
    obtain ⟨a, m, out, ha, rfl, hown, hm, hruns, hfold, hB⟩ := hrel
    have HM := hide hm
    have HR := hide hruns
    have HFO := hide hfold
    have HOWN := hide hown
    have hz := hB.size
    have hma : m ≤ a := by have := hruns.1; omega
    have hsl := own_slice hown
    clear hm hruns hfold hown
    by_cases hlt : a < n
    · obtain ⟨b, o, rfl, _⟩ := hl.cells (by omega)
      have HDL := hide (show (l.drop a).length = n - a by rw [List.length_drop, HL.out])
      have hlt' : decide (a < n) = true := by simpa using hlt
      have q5 : ¬ c = a := by omega
      go_wp2_with (fail)
      obtain ⟨wp, rfl⟩ : ∃ wp : World, wp = wr := ⟨_, rfl⟩
      go_loopw [8] (fun gl wr => ∃ g x y : Nat, 1 ≤ g ∧ 2 * (g - 1) ≤ n - a ∧ gl = .int .i64 g ∧ bestUp (l.drop a) (g - 1) = (x, y) ∧ wr.heap[wp.heap.size]? = some (.cells #[.int .i64 a, .int .i64 x, .int .i64 y] 48) ∧ wr.ownsRow w.heap.size 48 3 u5 m (out.flatMap RunT.cs) ∧ Below w.heap.size w wr) (fun gl _ => n + 1 - (intOf gl).toNat)
      case atStart => exact ⟨1, 1, 1, Nat.le_refl _, by omega, rfl, rfl, by (show (wp.heap.push _)[wp.heap.size]? = _; exact Array.getElem?_push_size), HOWN.out.alloc _, hB.alloc hz _⟩
      case round =>
        obtain ⟨g, x, y, hg1, hg2, rfl, hbest, hblk, hown2, hB2⟩ := hrel
        have HBEST := hide hbest
        have HBLK := hide hblk
        have HOWN2 := hide hown2
        have hz2 := hB2.size
        have hzp : wp.heap.size < wr.heap.size := lt_of_block hblk
        have e1 : wr.cell? ⟨wp.heap.size, 1, none⟩ = some (.int .i64 x) := by rw [block_cell hblk]; rfl
        have e2 : wr.cell? ⟨wp.heap.size, 2, none⟩ = some (.int .i64 y) := by rw [block_cell hblk]; rfl
        have hbd := bestUp_bd (l.drop a) (by rw [HDL.out]; omega) (g - 1) (by rw [HDL.out]; exact hg2)
        rw [hbest] at hbd
        simp only at hbd
        obtain ⟨hx1, hy1, hxy⟩ := hbd
        rw [HDL.out] at hxy
        obtain ⟨hxn, hyn⟩ := mul_le hx1 hy1 hxy
        clear hbest hblk hown2
        by_cases hgn : 2 * g ≤ n - a
        · obtain ⟨tn, htn⟩ : ∃ tn, timesOf (l.drop a) g = tn := ⟨_, rfl⟩
          have hT : Calls Tryd.prog 38 #[.slice (some ⟨b, o + a * 6, none⟩) (n - a) (c - a), .int .i64 g] wr fun e w' => e = .returned (.int .i64 (tn : Nat)) ∧ Below wr.heap.size wr w' := by
            have h := times_any (some ⟨b, o + a * 6, none⟩) (n - a) (c - a) (l.drop a) g wr (by omega) (by omega) (by have := HCM.out; omega) hg1 (by omega) (((hl.drop (i := a) (by omega)).below hB2).more hz2)
            rw [htn] at h
            exact h
          have HT := hide hT
          have htb := timesOf_bd (l := l.drop a) (g := g) hg1 (by rw [HDL.out]; omega)
          rw [htn, HDL.out] at htb
          obtain ⟨ht1, ht2⟩ := htb
          obtain ⟨P, hP, ⟨p1, p2, p3⟩⟩ := mulNum (a := g) (b := tn) (by rw [Nat.mul_comm]; omega)
          obtain ⟨Q, hQ, ⟨s1, s2, s3⟩⟩ := mulNum (a := x) (b := y) (by omega)
          have HTN := hide htn
          have HP := hide hP
          have HQ := hide hQ
          have hPn : P ≤ 200 := by rw [hP, Nat.mul_comm]; omega
          have hQn : Q ≤ 200 := by omega
          have htn2 : tn ≤ 200 := by have := (mul_le ht1 hg1 ht2).1; omega
          have KEEP : ∀ w1, Below wr.heap.size wr w1 → w1.heap[wp.heap.size]? = some (.cells #[.int .i64 a, .int .i64 x, .int .i64 y] 48) ∧ w1.ownsRow w.heap.size 48 3 u5 m (out.flatMap RunT.cs) ∧ Below w.heap.size w w1 := fun w1 h1 => ⟨block_below HBLK.out h1, own_below HOWN2.out h1, hB2.trans (h1.mono hz2)⟩
          have KEEPH := hide KEEP
          clear hT htn hP hQ ht2 KEEP hxy
          have NB := hide (own_before HOWN.out (Nat.le_refl wp.heap.size))
          have NZ := hide hz
          by_cases h2 : 2 ≤ tn
          · by_cases hy : y = 1
            · have hs := hide (show bestUp (l.drop a) (g + 1 - 1) = (g, tn) by
                rw [show g + 1 - 1 = (g - 1) + 1 by omega, bestUp, show g - 1 + 1 = g by omega, HTN.out, HBEST.out, if_pos ⟨h2, .inl hy⟩])
              have hy' : decide ((y : Int) = 1) = true := by simp; omega
              have hy2 : ((y : Int) == 1) = true := by simp; omega
              clear hy
              go_wp2_with (go_at_call 38; refine HT.out.mono ?_; rintro r w1 ⟨rfl, hw1⟩; obtain ⟨blk1, own1, B1⟩ := KEEPH.out _ hw1; have f0 : w1.cell? ⟨wp.heap.size, 0, none⟩ = some (.int .i64 a) := (block_cell blk1 _).trans rfl; have f1 : w1.cell? ⟨wp.heap.size, 1, none⟩ = some (.int .i64 x) := (block_cell blk1 _).trans rfl; have f2 : w1.cell? ⟨wp.heap.size, 2, none⟩ = some (.int .i64 y) := (block_cell blk1 _).trans rfl; have z0 := block_free blk1 0; have z1 := block_free blk1 1; have z2 := block_free blk1 2; have BLK1 := hide blk1; have OWN1 := hide own1; clear blk1 own1 e1 e2)
              go_roundw
              case rel => exact ⟨g + 1, g, tn, by omega, by omega, by go_num, hs.out, block_set (block_set (block_set BLK1.out _) _) _, ownsRow_setCell_other (ownsRow_setCell_other (ownsRow_setCell_other OWN1.out NB.out _) NB.out _) NB.out _, below_set (below_set (below_set B1 NZ.out _) NZ.out _) NZ.out _⟩
              case measure => simp [intOf]; omega
            · have hy' : decide ((y : Int) = 1) = false := by simp; omega
              have hy2 : ((y : Int) == 1) = false := by simp; omega
              by_cases hPQ : Q < P
              · have hs := hide (show bestUp (l.drop a) (g + 1 - 1) = (g, tn) by
                  rw [show g + 1 - 1 = (g - 1) + 1 by omega, bestUp, show g - 1 + 1 = g by omega, HTN.out, HBEST.out, if_pos ⟨h2, .inr (by rw [← HP.out, ← HQ.out]; exact hPQ)⟩])
                have hPQ' : decide (Q < P) = true := by simpa using hPQ
                clear hy
                go_wp2_with (go_at_call 38; refine HT.out.mono ?_; rintro r w1 ⟨rfl, hw1⟩; obtain ⟨blk1, own1, B1⟩ := KEEPH.out _ hw1; have f0 : w1.cell? ⟨wp.heap.size, 0, none⟩ = some (.int .i64 a) := (block_cell blk1 _).trans rfl; have f1 : w1.cell? ⟨wp.heap.size, 1, none⟩ = some (.int .i64 x) := (block_cell blk1 _).trans rfl; have f2 : w1.cell? ⟨wp.heap.size, 2, none⟩ = some (.int .i64 y) := (block_cell blk1 _).trans rfl; have z0 := block_free blk1 0; have z1 := block_free blk1 1; have z2 := block_free blk1 2; have BLK1 := hide blk1; have OWN1 := hide own1; clear blk1 own1 e1 e2)
                go_roundw
                case rel => exact ⟨g + 1, g, tn, by omega, by omega, by go_num, hs.out, block_set (block_set (block_set BLK1.out _) _) _, ownsRow_setCell_other (ownsRow_setCell_other (ownsRow_setCell_other OWN1.out NB.out _) NB.out _) NB.out _, below_set (below_set (below_set B1 NZ.out _) NZ.out _) NZ.out _⟩
                case measure => simp [intOf]; omega
              · have hs := hide (show bestUp (l.drop a) (g + 1 - 1) = (x, y) by
                  rw [show g + 1 - 1 = (g - 1) + 1 by omega, bestUp, show g - 1 + 1 = g by omega, HTN.out, HBEST.out, if_neg (by rw [← HP.out, ← HQ.out]; rintro ⟨_, h | h⟩; exact hy h; exact hPQ h)])
                have hPQ' : decide (Q < P) = false := by simpa using hPQ
                clear hy
                go_wp2_with (go_at_call 38; refine HT.out.mono ?_; rintro r w1 ⟨rfl, hw1⟩; obtain ⟨blk1, own1, B1⟩ := KEEPH.out _ hw1; have f0 : w1.cell? ⟨wp.heap.size, 0, none⟩ = some (.int .i64 a) := (block_cell blk1 _).trans rfl; have f1 : w1.cell? ⟨wp.heap.size, 1, none⟩ = some (.int .i64 x) := (block_cell blk1 _).trans rfl; have f2 : w1.cell? ⟨wp.heap.size, 2, none⟩ = some (.int .i64 y) := (block_cell blk1 _).trans rfl; have z0 := block_free blk1 0; have z1 := block_free blk1 1; have z2 := block_free blk1 2; have BLK1 := hide blk1; have OWN1 := hide own1; clear blk1 own1 e1 e2)
                go_roundw
                case rel => exact ⟨g + 1, x, y, by omega, by omega, by go_num, hs.out, BLK1.out, OWN1.out, B1⟩
                case measure => simp [intOf]; omega
          · have hs := hide (show bestUp (l.drop a) (g + 1 - 1) = (x, y) by
              rw [show g + 1 - 1 = (g - 1) + 1 by omega, bestUp, if_neg (by rw [show g - 1 + 1 = g by omega, HTN.out]; omega)]; exact HBEST.out)
            have h2' : decide (2 ≤ tn) = false := by simpa using h2
            go_wp2_with (go_at_call 38; refine HT.out.mono ?_; rintro r w1 ⟨rfl, hw1⟩; obtain ⟨blk1, own1, B1⟩ := KEEPH.out _ hw1; have f0 : w1.cell? ⟨wp.heap.size, 0, none⟩ = some (.int .i64 a) := (block_cell blk1 _).trans rfl; have f1 : w1.cell? ⟨wp.heap.size, 1, none⟩ = some (.int .i64 x) := (block_cell blk1 _).trans rfl; have f2 : w1.cell? ⟨wp.heap.size, 2, none⟩ = some (.int .i64 y) := (block_cell blk1 _).trans rfl; have z0 := block_free blk1 0; have z1 := block_free blk1 1; have z2 := block_free blk1 2; have BLK1 := hide blk1; have OWN1 := hide own1; clear blk1 own1 e1 e2)
            go_roundw
            case rel => exact ⟨g + 1, x, y, by omega, by omega, by go_num, hs.out, BLK1.out, OWN1.out, B1⟩
            case measure => simp [intOf]; omega
        · have hbo : bestOf (l.drop a) = (x, y) := by rw [bestOf, HDL.out, show (n - a) / 2 = g - 1 by omega]; exact HBEST.out
          obtain ⟨Q, hQ, ⟨s1, s2, s3⟩⟩ := mulNum (a := x) (b := y) (by omega)
          obtain ⟨hn1, hn2, hn3, hn4⟩ := fold_next (by rw [HL.out]; exact hlt) hbo hQ HFO.out HR.out
          rw [HL.out] at hn3
          have HN1 := hide hn1
          have HN2 := hide hn2
          have HZP := hide hzp
          have e0 : wr.cell? ⟨wp.heap.size, 0, none⟩ = some (.int .i64 a) := (block_cell HBLK.out _).trans rfl
          have NB := hide (own_before HOWN.out (Nat.le_refl wp.heap.size))
          have HY := hide (show y = 1 ∨ ¬ y = 1 by omega)
          clear hn1 hn2 hbo hQ hxy
          cases m with
          | zero =>
            obtain rfl : out = [] := List.eq_nil_of_length_eq_zero HM.out
            rcases hsl with ⟨rfl, _⟩ | ⟨g0, c0, rfl⟩
            all_goals
              rcases HY.out with hy | hy
              · have hy' : decide ((y : Int) = 1) = true := by simp; omega
                have hy2 : ((y : Int) == 1) = true := by simp; omega
                clear hy
                go_wp2_with (at_builtin; refine wpList_append_own _ rfl (.tmp 84) (.tmp 86) 44 rfl w.heap.size 48 i0 (.agg #[.int .i64 0, .int .i64 0, .int .i64 0]) 3 24 Tryd.underlying44 hi0 iz0 iz1 iz2 rfl (by decide) _ 0 _ (by rfl) (HOWN2.out.alloc _) ⟨wr.heap.size, 0, none⟩ 1 1 [.int .i64 a, .int .i64 x, .int .i64 y] (by rfl) rfl (cells_at _ [.int .i64 a, .int .i64 x, .int .i64 y] _ _ rfl) (by intro u hu; simp at hu; rcases hu with rfl | rfl | rfl <;> rfl) (by unfold maxLen; omega) (by omega) (by simp; omega) ?_; intro v' w5 hown5 hg5 _; have B5 : Below w.heap.size w w5 := Below.grown (hB2.alloc hz2 _) hg5 (by simp; omega) (fun j hj => (World.ownsRow.lt HOWN2.out j hj).1); have blk5 := (hg5.block wp.heap.size (by simp; omega) NB.out.symm).trans ((Below.heap_alloc wr _ _ HZP.out).trans HBLK.out); have f1 := (block_cell blk5 1).trans (rfl : _ = some (Value.int .i64 x)); have f2 := (block_cell blk5 2).trans (rfl : _ = some (Value.int .i64 y)); have OWN5 := hide hown5; clear hown5 hg5 blk5 e0 e1 e2)
                go_roundw
                case rel => exact ⟨a + Q, 0 + 1, _, hn3, by go_num, by rw [pushRun_nil', flat_push]; exact OWN5.out, by rw [pushRun_nil']; simp; try exact HK.out, HN2.out, HN1.out, B5⟩
                case measure => simp [intOf]; omega
              · have hy' : decide ((y : Int) = 1) = false := by simp; omega
                have hy2 : ((y : Int) == 1) = false := by simp; omega
                clear hy
                go_wp2_with (at_builtin; refine wpList_append_own _ rfl (.tmp 84) (.tmp 86) 44 rfl w.heap.size 48 i0 (.agg #[.int .i64 0, .int .i64 0, .int .i64 0]) 3 24 Tryd.underlying44 hi0 iz0 iz1 iz2 rfl (by decide) _ 0 _ (by rfl) (HOWN2.out.alloc _) ⟨wr.heap.size, 0, none⟩ 1 1 [.int .i64 a, .int .i64 x, .int .i64 y] (by rfl) rfl (cells_at _ [.int .i64 a, .int .i64 x, .int .i64 y] _ _ rfl) (by intro u hu; simp at hu; rcases hu with rfl | rfl | rfl <;> rfl) (by unfold maxLen; omega) (by omega) (by simp; omega) ?_; intro v' w5 hown5 hg5 _; have B5 : Below w.heap.size w w5 := Below.grown (hB2.alloc hz2 _) hg5 (by simp; omega) (fun j hj => (World.ownsRow.lt HOWN2.out j hj).1); have blk5 := (hg5.block wp.heap.size (by simp; omega) NB.out.symm).trans ((Below.heap_alloc wr _ _ HZP.out).trans HBLK.out); have f1 := (block_cell blk5 1).trans (rfl : _ = some (Value.int .i64 x)); have f2 := (block_cell blk5 2).trans (rfl : _ = some (Value.int .i64 y)); have OWN5 := hide hown5; clear hown5 hg5 blk5 e0 e1 e2)
                go_roundw
                case rel => exact ⟨a + Q, 0 + 1, _, hn3, by go_num, by rw [pushRun_nil', flat_push]; exact OWN5.out, by rw [pushRun_nil']; simp; try exact HK.out, HN2.out, HN1.out, B5⟩
                case measure => simp [intOf]; omega
          | succ k =>
            obtain ⟨o', r, rfl, hk⟩ := last_split HM.out
            rcases hsl with ⟨_, h0⟩ | ⟨g0, c0, rfl⟩
            · cases h0
            have HK := hide hk
            have r0 := (HOWN2.out.cellAt (k * 3 + 1) (by omega)).trans ((by rw [← hk]; exact flat_last o' r 1 (by decide)) : _ = r.cs[1]?)
            have r1 : wr.cell? ⟨g0, k * 3 + 1, none⟩ = some (.int .i64 r.long) := r0
            have r2 : wr.cell? ⟨g0, k * 3 + 2, none⟩ = some (.int .i64 r.times) := (HOWN2.out.cellAt (k * 3 + 2) (by omega)).trans (by rw [← hk]; exact flat_last o' r 2 (by decide))
            have z1 := HOWN2.out.frozenAt (k * 3 + 1)
            have hrb := HR.out.2 r (by simp)
            obtain ⟨l1, l2, l3, l4⟩ := hrb
            have hne : ¬ g0 = wp.heap.size := fun e => NB.out (by rw [e]; rfl)
            have hne' : ¬ wp.heap.size = g0 := fun e => hne e.symm
            clear hk r0
            rcases HY.out with hy | hy
            · by_cases hr : r.times = 1
              · have hy' : decide ((y : Int) = 1) = true := by simp; omega
                have hy2 : ((y : Int) == 1) = true := by simp; omega
                have hr2 : (r.times == 1) = true := by simpa using hr
                have HJ := hide (pushRun_join o' r ⟨a, x, y⟩ hr (by simp only; omega))
                have HSET := hide (HOWN2.out.stored (k * 3 + 1) (.int .i64 (r.long + 1))).1
                have HLT := hide (HOWN2.out.lt g0 rfl).1
                clear hy
                go_wp2_with (fail)
                go_roundw
                case rel => exact ⟨a + Q, k + 1, _, hn3, by go_num, by rw [HJ.out, ← flat_set, HK.out]; exact HSET.out, by rw [HJ.out]; simp; exact HK.out, HN2.out, HN1.out, below_set hB2 HLT.out _⟩
                case measure => simp [intOf]; omega
              · have hy' : decide ((y : Int) = 1) = true := by simp; omega
                have hy2 : ((y : Int) == 1) = true := by simp; omega
                have hr2 : (r.times == 1) = false := by simpa using hr
                have HJ := hide (pushRun_new o' r ⟨a, x, y⟩ (fun e => hr e.1))
                clear hy hr
                go_wp2_with (at_builtin; refine wpList_append_own _ rfl (.tmp 84) (.tmp 86) 44 rfl w.heap.size 48 i0 (.agg #[.int .i64 0, .int .i64 0, .int .i64 0]) 3 24 Tryd.underlying44 hi0 iz0 iz1 iz2 rfl (by decide) _ (k + 1) _ (by rfl) (HOWN2.out.alloc _) ⟨wr.heap.size, 0, none⟩ 1 1 [.int .i64 a, .int .i64 x, .int .i64 y] (by rfl) rfl (cells_at _ [.int .i64 a, .int .i64 x, .int .i64 y] _ _ rfl) (by intro u hu; simp at hu; rcases hu with rfl | rfl | rfl <;> rfl) (by unfold maxLen; omega) (by omega) (by simp; omega) ?_; intro v' w5 hown5 hg5 _; have B5 : Below w.heap.size w w5 := Below.grown (hB2.alloc hz2 _) hg5 (by simp; omega) (fun j hj => (World.ownsRow.lt HOWN2.out j hj).1); have blk5 := (hg5.block wp.heap.size (by simp; omega) NB.out.symm).trans ((Below.heap_alloc wr _ _ HZP.out).trans HBLK.out); have f1 := (block_cell blk5 1).trans (rfl : _ = some (Value.int .i64 x)); have f2 := (block_cell blk5 2).trans (rfl : _ = some (Value.int .i64 y)); have OWN5 := hide hown5; clear hown5 hg5 blk5 e0 e1 e2)
                go_roundw
                case rel => exact ⟨a + Q, (k + 1) + 1, _, hn3, by go_num, by rw [HJ.out, flat_push]; exact OWN5.out, by rw [HJ.out]; simp; try exact HK.out, HN2.out, HN1.out, B5⟩
                case measure => simp [intOf]; omega
            · have hy' : decide ((y : Int) = 1) = false := by simp; omega
              have hy2 : ((y : Int) == 1) = false := by simp; omega
              have HJ := hide (pushRun_many (o' ++ [r]) ⟨a, x, y⟩ (by simp only; omega))
              clear hy
              go_wp2_with (at_builtin; refine wpList_append_own _ rfl (.tmp 84) (.tmp 86) 44 rfl w.heap.size 48 i0 (.agg #[.int .i64 0, .int .i64 0, .int .i64 0]) 3 24 Tryd.underlying44 hi0 iz0 iz1 iz2 rfl (by decide) _ (k + 1) _ (by rfl) (HOWN2.out.alloc _) ⟨wr.heap.size, 0, none⟩ 1 1 [.int .i64 a, .int .i64 x, .int .i64 y] (by rfl) rfl (cells_at _ [.int .i64 a, .int .i64 x, .int .i64 y] _ _ rfl) (by intro u hu; simp at hu; rcases hu with rfl | rfl | rfl <;> rfl) (by unfold maxLen; omega) (by omega) (by simp; omega) ?_; intro v' w5 hown5 hg5 _; have B5 : Below w.heap.size w w5 := Below.grown (hB2.alloc hz2 _) hg5 (by simp; omega) (fun j hj => (World.ownsRow.lt HOWN2.out j hj).1); have blk5 := (hg5.block wp.heap.size (by simp; omega) NB.out.symm).trans ((Below.heap_alloc wr _ _ HZP.out).trans HBLK.out); have f1 := (block_cell blk5 1).trans (rfl : _ = some (Value.int .i64 x)); have f2 := (block_cell blk5 2).trans (rfl : _ = some (Value.int .i64 y)); have OWN5 := hide hown5; clear hown5 hg5 blk5 e0 e1 e2)
              go_roundw
              case rel => exact ⟨a + Q, (k + 1) + 1, _, hn3, by go_num, by rw [HJ.out, flat_push]; exact OWN5.out, by rw [HJ.out]; simp; try exact HK.out, HN2.out, HN1.out, B5⟩
              case measure => simp [intOf]; omega
    · have hEND := hide (show foldL l = out from HFO.out.symm.trans (foldW_end (by rw [HL.out]; exact hlt)))
      obtain ⟨A', c', rfl, hsl', _, _⟩ := sl_of_own (f := RunT.cs) (l := out) (fun _ => rfl) HM.out HOWN.out
      have HSL := hide hsl'
      have hlt' : decide (a < n) = false := by simpa using hlt
      clear hsl hsl' HOWN
      go_wp2_with (fail)
      go_ret2
      exact ⟨A', m, c', rfl, by rw [hEND.out]; exact HSL.out, hB⟩
end Go.Proofs.YtbfhicimjijdeaaDoor
