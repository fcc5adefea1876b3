/- Walk of readFrame. -/
import Derived.Test.YtkjpojaanocfjaaGreatDoorStRdQ
namespace Go.Proofs.YtkjpojaanocfjaaGreatDoor
open Go.RowKit
set_option linter.unusedVariables false
set_option linter.unusedSimpArgs false
/-- The words of a line. -/
def wordsOf (s : ByteArray) : List ByteArray := Lib.splitB ⟨#[32]⟩ 0 (Lib.countB s ⟨#[32]⟩) s
theorem splitB_le (sep : ByteArray) : ∀ (k : Nat) (s : ByteArray) x, x ∈ Lib.splitB sep 0 k s → x.size ≤ s.size
  | 0, s, x, h => by rw [Lib.splitB_zero] at h; simp at h; rw [h]; exact Nat.le_refl _
  | k + 1, s, x, h => by
    unfold Lib.splitB at h
    split at h
    · simp at h; rw [h]; exact Nat.le_refl _
    · rcases List.mem_cons.1 h with h | h
      · rw [h, ByteArray.size_extract]; omega
      · have := splitB_le sep k _ x h
        rw [ByteArray.size_extract] at this
        omega
theorem wordsOf_le {s x : ByteArray} (h : x ∈ wordsOf s) : x.size ≤ s.size := splitB_le _ _ _ _ h
theorem wordsOf_len (s : ByteArray) : (wordsOf s).length = Lib.countB s ⟨#[32]⟩ + 1 := Lib.splitB_all _ (by decide) 0 _ s rfl
abbrev Frm := ByteArray × ByteArray × Plc
/-- A frame's line, by its words. -/
def frR : List ByteArray → Option Frm
  | [] => none
  | x :: r => if callK x then (plR r).map (fun p => (callM x, callF x, p)) else none
def frAgg (M F f : ByteArray) (l a : Int) (o : Bool) : Value := .agg #[.string M, .string F, .string f, .int .i64 l, .int .i64 a, .bool o]
def FrOut (ws : List ByteArray) (e : Ending) : Prop := ∃ M F f l a o, e = .returned (.tuple #[frAgg M F f l a o, .bool (frR ws).isSome]) ∧ (frR ws = some (M, F, f, l, a, o) ∨ frR ws = none) ∧ M.size ≤ 1000000 ∧ F.size ≤ 1000000 ∧ f.size ≤ 1000000
theorem callM_size (s : ByteArray) : (callM s).size ≤ s.size := by
  unfold callM; split
  · exact (cut_size s 33).1
  · exact Nat.zero_le _
theorem callF_size (s : ByteArray) : (callF s).size ≤ s.size := by
  unfold callF; split
  · exact (cut_size s 33).2
  · exact Nat.le_refl _
theorem sl_words (W : World) (ws : List ByteArray) (t : TypeId) : Sl (W.alloc (.cells (ws.map Value.string).toArray t)) (W.alloc (.cells (ws.map Value.string).toArray t)).heap.size cs 1 (some ⟨W.heap.size, 0, none⟩) ws.length ws := by
  refine ⟨rfl, fun _ => ⟨_, _, rfl, by simp, fun i x hx j v hv => ?_⟩⟩
  have hj : j = 0 ∧ v = .string x := by
    cases j with
    | zero => simp [cs] at hv; exact ⟨rfl, hv.symm⟩
    | succ j => simp [cs] at hv
  obtain ⟨rfl, rfl⟩ := hj
  have := block_cell (heap_alloc_new W (.cells (ws.map Value.string).toArray t)) i
  simp only [Nat.zero_add, Nat.mul_one, Nat.add_zero]
  rw [this]
  simp [hx]
theorem Split_any (s : ByteArray) (W : World) (hs : s.size ≤ 1000000) (hm : Mx W) :
    Calls Tryz.prog 13 #[.string s, .string ⟨#[32]⟩] W fun e w' => e = .returned (.slice (some ⟨W.heap.size, 0, none⟩) (wordsOf s).length (wordsOf s).length) ∧ Below W.heap.size W w' ∧ Sl w' w'.heap.size cs 1 (some ⟨W.heap.size, 0, none⟩) (wordsOf s).length (wordsOf s) ∧ W.heap.size < w'.heap.size := by
  obtain ⟨m, hm⟩ := hm
  refine (Tryz.strings_Split s ⟨#[32]⟩ m W (by omega) hm (by decide)).mono ?_
  rintro e w' ⟨rfl, rfl⟩
  rw [wordsOf_len]
  refine ⟨rfl, (Below.refl _ _).alloc (Nat.le_refl _) _, ?_, by simp⟩
  have := sl_words W (wordsOf s) 9
  rw [wordsOf_len] at this
  exact this
theorem Sl.but {b n B : Nat} {A : Option Addr} {ws : List ByteArray} {W W' : World} (h : Sl W B cs 1 A n ws) (ha : ∀ g o, A = some ⟨g, o, none⟩ → g ≠ b) (hk : ButAt b W W') (hB : W.heap.size ≤ B ∧ B ≤ W.heap.size) (hs : W.heap.size ≤ W'.heap.size) : Sl W' W'.heap.size cs 1 A n ws := by
  refine ⟨h.len, fun hn => ?_⟩
  obtain ⟨g, o', e, hlt, hc⟩ := h.cells hn
  refine ⟨g, o', e, by omega, fun k x hx j v hv => ?_⟩
  have h1 := hc k x hx j v hv
  have hg : g < W.heap.size := by omega
  obtain ⟨ob, hob⟩ : ∃ ob, W.heap[g]? = some ob := ⟨_, Array.getElem?_eq_getElem hg⟩
  have h2 := hk.keep g ob hob (ha g o' e)
  have : W'.cell? ⟨g, o' + k * 1 + j, none⟩ = W.cell? ⟨g, o' + k * 1 + j, none⟩ := by unfold World.cell?; simp only [hob, h2]
  rw [this, h1]
theorem head_w {W : World} {B g n : Nat} {x : ByteArray} {r : List ByteArray} (h : Sl W B cs 1 (some ⟨g, 0, none⟩) (n + 1) (x :: r)) : W.cell? ⟨g, 0, none⟩ = some (.string x) := by
  obtain ⟨b', o', x', e, _, hx, hcc⟩ := h.at_ (k := 0) (by omega)
  simp at e hx
  obtain ⟨rfl, rfl⟩ := e
  subst hx
  simpa using hcc 0 _ rfl
theorem put6 {W : World} {b : Nat} {ty : TypeId} {u0 u1 u2 u3 u4 u5 : Value} (h : W.heap[b]? = some (.cells #[u0, u1, u2, u3, u4, u5] ty (0, 0))) (v0 v1 v2 v3 v4 v5 : Value) :
    ∃ Wf, (((((W.setCell ⟨b, 0, none⟩ v0).setCell ⟨b, 1, none⟩ v1).setCell ⟨b, 2, none⟩ v2).setCell ⟨b, 3, none⟩ v3).setCell ⟨b, 4, none⟩ v4).setCell ⟨b, 5, none⟩ v5 = Wf ∧ Wf.heap[b]? = some (.cells #[v0, v1, v2, v3, v4, v5] ty (0, 0)) ∧ (∀ w B, Below B w W → B ≤ b → Below B w Wf) := by
  refine ⟨_, rfl, ?_, fun w B hb hB => ?_⟩
  · exact block_set (block_set (block_set (block_set (block_set (block_set h (i := 0) v0) (i := 1) v1) (i := 2) v2) (i := 3) v3) (i := 4) v4) (i := 5) v5
  · exact (((((hb.setCell (p := ⟨b, 0, none⟩) hB v0).setCell (p := ⟨b, 1, none⟩) hB v1).setCell (p := ⟨b, 2, none⟩) hB v2).setCell (p := ⟨b, 3, none⟩) hB v3).setCell (p := ⟨b, 4, none⟩) hB v4).setCell (p := ⟨b, 5, none⟩) hB v5
theorem sl_tail {W : World} {B g : Nat} {x : ByteArray} {r : List ByteArray} (h : Sl W B cs 1 (some ⟨g, 0, none⟩) (x :: r).length (x :: r)) : Sl W B cs 1 (some ⟨g, 1, none⟩) r.length r := by
  have := h.drop (i := 1) (by simp)
  simpa using this
set_option maxRecDepth 100000 in
set_option maxHeartbeats 16000000 in
theorem readFrame_any (s : ByteArray) (w : World) (hs : s.size ≤ 1000000) (hm : Mx w) :
    Calls Tryz.prog 62 #[.string s] w fun e w' => FrOut (wordsOf s) e ∧ Below w.heap.size w w' := by
  have HB0 := hide (fun ob : Obj => show Below w.heap.size w (w.alloc ob) from (Below.refl _ _).alloc (Nat.le_refl _) ob)
  have HMX := hide hm
  have HSP := hide (fun W (h : Below w.heap.size w W) => Split_any s W hs (hm.up h (Nat.le_refl _)))
  have hmlt := hm.lt
  obtain ⟨w0, hw0⟩ : ∃ w0, (w.alloc (.cells #[.string ⟨#[]⟩, .string ⟨#[]⟩, .string ⟨#[]⟩, .int .i64 0, .int .i64 0, .bool false] 43)).alloc (.cells #[.string ⟨#[]⟩, .string ⟨#[]⟩, .string ⟨#[]⟩, .int .i64 0, .int .i64 0, .bool false] 43) = w0 := ⟨_, rfl⟩
  have HB := hide (show Below w.heap.size w w0 from hw0 ▸ ((Below.refl _ _).alloc (Nat.le_refl _) _).alloc (by simp) _)
  have HX := hide (show w0.heap[w.heap.size + 1]? = some (.cells #[.string ⟨#[]⟩, .string ⟨#[]⟩, .string ⟨#[]⟩, .int .i64 0, .int .i64 0, .bool false] 43 (0, 0)) by have h := heap_alloc_new (w.alloc (.cells #[.string ⟨#[]⟩, .string ⟨#[]⟩, .string ⟨#[]⟩, .int .i64 0, .int .i64 0, .bool false] 43)) (.cells #[.string ⟨#[]⟩, .string ⟨#[]⟩, .string ⟨#[]⟩, .int .i64 0, .int .i64 0, .bool false] 43); rw [hw0] at h; rw [← h]; congr 1; simp)
  have HY := hide (show w0.heap[w.heap.size]? = some (.cells #[.string ⟨#[]⟩, .string ⟨#[]⟩, .string ⟨#[]⟩, .int .i64 0, .int .i64 0, .bool false] 43 (0, 0)) by rw [← hw0]; exact block_below (heap_alloc_new w _) ((Below.refl _ _).alloc (Nat.le_refl _) _))
  have hz0 : w0.heap.size = w.heap.size + 2 := by rw [← hw0]; simp
  have hsz : ∀ x ∈ wordsOf s, x.size ≤ 1000000 := fun x h => by have := wordsOf_le h; omega
  have hlen := wordsOf_len s
  have hcnt : (wordsOf s).length ≤ 1000001 := by have := Lib.countB_le ⟨#[32]⟩ (by decide) _ s (Nat.le_refl _); omega
  obtain ⟨ws, hws⟩ : ∃ ws, wordsOf s = ws := ⟨_, rfl⟩
  simp only [hws] at HSP hsz hlen hcnt
  rw [hws]
  clear hws hm
  cases ws with
  | nil => simp at hlen
  | cons x r =>
    clear hlen
    have hxs := hsz x (by simp)
    have z1 := callM_size x
    have z2 := callF_size x
    have HRC := hide (fun W hm hb => readCall_any x (w.heap.size + 1) ⟨#[]⟩ ⟨#[]⟩ ⟨#[]⟩ 0 0 false W hxs hm hb)
    have HRP := hide (fun A n c W hc hcm hI => readPlace_any A n c r (w.heap.size + 1) (callM x) (callF x) W (fun y hy => hsz y (by simp [hy])) (by omega) hc hcm hI)
    have HE := hide (show frR (x :: r) = if callK x then (plR r).map (fun p => (callM x, callF x, p)) else none from rfl)
    obtain ⟨M, hM⟩ : ∃ M, callM x = M := ⟨_, rfl⟩
    obtain ⟨F, hF⟩ : ∃ F, callF x = F := ⟨_, rfl⟩
    rw [hM] at z1
    rw [hF] at z2
    simp only [hM, hF] at HRC HRP HE
    clear hM hF hsz
    unfold FrOut
    obtain ⟨R, hR⟩ : ∃ R, frR (x :: r) = R := ⟨_, rfl⟩
    rw [hR] at HE
    simp only [hR]
    clear hR
    cases hK : callK x
    · simp only [hK] at HRC HE
      clear HRP hK
      have E := hide (show R = none from HE.out)
      clear HE
      go_enter Tryz.func62, Tryz.ntmps62
      go_wp2_with (first | (go_at_call 13; refine (HSP.out _ HB.out).mono ?_; rintro e W2 ⟨rfl, hw2, hsl, hlt2⟩; rw [hz0] at hsl; have HS2 := hide hsl; have HX2 := hide (block_below HX.out hw2); have HY2 := hide (block_below HY.out hw2); have hm2 := HMX.out.up (HB.out.trans (hw2.mono HB.out.size)) (Nat.le_refl _); have HB2 := hide (HB.out.trans (hw2.mono HB.out.size)); have c0 := head_w hsl; clear hw2 hsl) | (go_at_call 45; refine (HRC.out _ hm2 HX2.out).mono ?_; rintro e W3 ⟨rfl, hx3, hb3⟩; have HX3 := hide hx3; have HY3 := hide (hb3.keep _ _ HY2.out (by omega)); have HB3 := hide (HB2.out.trans (hb3.be.mono (by omega)));have x0 := (block_cell HX3.out 0).trans rfl; have y0 := (block_cell HY3.out 0).trans rfl; have f0 := block_free HY3.out 0; have x1 := (block_cell HX3.out 1).trans rfl; have y1 := (block_cell HY3.out 1).trans rfl; have f1 := block_free HY3.out 1; have x2 := (block_cell HX3.out 2).trans rfl; have y2 := (block_cell HY3.out 2).trans rfl; have f2 := block_free HY3.out 2; have x3 := (block_cell HX3.out 3).trans rfl; have y3 := (block_cell HY3.out 3).trans rfl; have f3 := block_free HY3.out 3; have x4 := (block_cell HX3.out 4).trans rfl; have y4 := (block_cell HY3.out 4).trans rfl; have f4 := block_free HY3.out 4; have x5 := (block_cell HX3.out 5).trans rfl; have y5 := (block_cell HY3.out 5).trans rfl; have f5 := block_free HY3.out 5))
      obtain ⟨wf, hwf, b6, hbel⟩ := put6 HY3.out (.string M) (.string F) (.string (⟨#[]⟩ : ByteArray)) (.int .i64 0) (.int .i64 0) (.bool false)
      rw [hwf]
      have r0 : wf.cell? ⟨w.heap.size, 0, none⟩ = some (.string M) := (block_cell b6 0).trans rfl
      have r1 : wf.cell? ⟨w.heap.size, 1, none⟩ = some (.string F) := (block_cell b6 1).trans rfl
      have r2 : wf.cell? ⟨w.heap.size, 2, none⟩ = some (.string (⟨#[]⟩ : ByteArray)) := (block_cell b6 2).trans rfl
      have r3 : wf.cell? ⟨w.heap.size, 3, none⟩ = some (.int .i64 0) := (block_cell b6 3).trans rfl
      have r4 : wf.cell? ⟨w.heap.size, 4, none⟩ = some (.int .i64 0) := (block_cell b6 4).trans rfl
      have r5 : wf.cell? ⟨w.heap.size, 5, none⟩ = some (.bool false) := (block_cell b6 5).trans rfl
      refine bodyPost_ret (by simp [results, Tryz.results62, go_sem, r0, r1, r2, r3, r4, r5]; try rfl) rfl ?_
      exact ⟨⟨M, F, (⟨#[]⟩ : ByteArray), 0, 0, false, (by rw [E.out]; rfl), .inr E.out, by omega, by omega, Nat.zero_le _⟩, hbel _ _ HB3.out (Nat.le_refl _)⟩
    · simp only [hK] at HRC HE
      clear hK
      simp only [PlOut] at HRP
      obtain ⟨P, hP⟩ : ∃ P, plR r = P := ⟨_, rfl⟩
      simp only [hP] at HRP HE
      have E := hide (show R = P.map (fun p => (M, F, p)) from HE.out)
      clear HE hP
      have hcm : r.length + 1 ≤ maxLen := by unfold maxLen; simp at hcnt; omega
      cases r with
      | nil =>
        go_enter Tryz.func62, Tryz.ntmps62
        go_wp2_with (first | (go_at_call 13; refine (HSP.out _ HB.out).mono ?_; rintro e W2 ⟨rfl, hw2, hsl, hlt2⟩; rw [hz0] at hsl; have HS2 := hide hsl; have HX2 := hide (block_below HX.out hw2); have HY2 := hide (block_below HY.out hw2); have hm2 := HMX.out.up (HB.out.trans (hw2.mono HB.out.size)) (Nat.le_refl _); have HB2 := hide (HB.out.trans (hw2.mono HB.out.size)); have c0 := head_w hsl; clear hw2 hsl) | (go_at_call 45; refine (HRC.out _ hm2 HX2.out).mono ?_; rintro e W3 ⟨rfl, hx3, hb3⟩; have HX3 := hide hx3; have HY3 := hide (hb3.keep _ _ HY2.out (by omega)); have HB3 := hide (HB2.out.trans (hb3.be.mono (by omega))); have HP3 := hide (show PlI (w.heap.size + 1) (some ⟨w.heap.size + 2, 0, none⟩) 0 [] M F ⟨#[]⟩ 0 0 false W3 W3 from ⟨hx3, Sl.nil _ _ _ _ _, (fun g o e => by simp at e; omega), ButAt.refl _ _, HMX.out.up HB3.out (Nat.le_refl _)⟩); clear hx3 hb3) | (go_at_call 46; refine (HRP.out _ _ _ _ (by omega) (by omega) HP3.out).mono ?_; rintro e W4 ⟨rfl, f, l, a, o, hx4, hb4, hf4, hor⟩; have HX4 := hide hx4; have HY4 := hide (hb4.keep _ _ HY3.out (by omega)); have HB4 := hide (HB3.out.trans (hb4.be.mono (by omega))); have x0 := (block_cell HX4.out 0).trans rfl; have y0 := (block_cell HY4.out 0).trans rfl; have f0 := block_free HY4.out 0; have x1 := (block_cell HX4.out 1).trans rfl; have y1 := (block_cell HY4.out 1).trans rfl; have f1 := block_free HY4.out 1; have x2 := (block_cell HX4.out 2).trans rfl; have y2 := (block_cell HY4.out 2).trans rfl; have f2 := block_free HY4.out 2; have x3 := (block_cell HX4.out 3).trans rfl; have y3 := (block_cell HY4.out 3).trans rfl; have f3 := block_free HY4.out 3; have x4 := (block_cell HX4.out 4).trans rfl; have y4 := (block_cell HY4.out 4).trans rfl; have f4 := block_free HY4.out 4; have x5 := (block_cell HX4.out 5).trans rfl; have y5 := (block_cell HY4.out 5).trans rfl; have f5 := block_free HY4.out 5))
        obtain ⟨wf, hwf, b6, hbel⟩ := put6 HY4.out (.string M) (.string F) (.string f) (.int .i64 l) (.int .i64 a) (.bool o)
        rw [hwf]
        have r0 : wf.cell? ⟨w.heap.size, 0, none⟩ = some (.string M) := (block_cell b6 0).trans rfl
        have r1 : wf.cell? ⟨w.heap.size, 1, none⟩ = some (.string F) := (block_cell b6 1).trans rfl
        have r2 : wf.cell? ⟨w.heap.size, 2, none⟩ = some (.string f) := (block_cell b6 2).trans rfl
        have r3 : wf.cell? ⟨w.heap.size, 3, none⟩ = some (.int .i64 l) := (block_cell b6 3).trans rfl
        have r4 : wf.cell? ⟨w.heap.size, 4, none⟩ = some (.int .i64 a) := (block_cell b6 4).trans rfl
        have r5 : wf.cell? ⟨w.heap.size, 5, none⟩ = some (.bool o) := (block_cell b6 5).trans rfl
        refine bodyPost_ret (by simp [results, Tryz.results62, go_sem, r0, r1, r2, r3, r4, r5]; try rfl) rfl ?_
        exact ⟨⟨M, F, f, l, a, o, (by rw [E.out, Option.isSome_map]; rfl), (hor.imp (fun h => by rw [E.out, h]; rfl) (fun h => by rw [E.out, h]; rfl)), by omega, by omega, hf4⟩, hbel _ _ HB4.out (Nat.le_refl _)⟩
      | cons y q =>
        simp only [List.length_cons] at hcm
        go_enter Tryz.func62, Tryz.ntmps62
        go_wp2_with (first | (go_at_call 13; refine (HSP.out _ HB.out).mono ?_; rintro e W2 ⟨rfl, hw2, hsl, hlt2⟩; rw [hz0] at hsl; have HS2 := hide hsl; have HX2 := hide (block_below HX.out hw2); have HY2 := hide (block_below HY.out hw2); have hm2 := HMX.out.up (HB.out.trans (hw2.mono HB.out.size)) (Nat.le_refl _); have HB2 := hide (HB.out.trans (hw2.mono HB.out.size)); have c0 := head_w hsl; clear hw2 hsl) | (go_at_call 45; refine (HRC.out _ hm2 HX2.out).mono ?_; rintro e W3 ⟨rfl, hx3, hb3⟩; have HX3 := hide hx3; have HY3 := hide (hb3.keep _ _ HY2.out (by omega)); have HB3 := hide (HB2.out.trans (hb3.be.mono (by omega))); have HP3 := hide (show PlI (w.heap.size + 1) (some ⟨w.heap.size + 2, 1, none⟩) (q.length + 1) (y :: q) M F ⟨#[]⟩ 0 0 false W3 W3 from ⟨hx3, sl_tail (HS2.out.but (fun g o e => by simp at e; omega) hb3 ⟨Nat.le_refl _, Nat.le_refl _⟩ hb3.be.size), (fun g o e => by simp at e; omega), ButAt.refl _ _, HMX.out.up HB3.out (Nat.le_refl _)⟩); clear hx3 hb3) | (go_at_call 46; refine (HRP.out _ _ _ _ (by omega) (by omega) HP3.out).mono ?_; rintro e W4 ⟨rfl, f, l, a, o, hx4, hb4, hf4, hor⟩; have HX4 := hide hx4; have HY4 := hide (hb4.keep _ _ HY3.out (by omega)); have HB4 := hide (HB3.out.trans (hb4.be.mono (by omega))); have x0 := (block_cell HX4.out 0).trans rfl; have y0 := (block_cell HY4.out 0).trans rfl; have f0 := block_free HY4.out 0; have x1 := (block_cell HX4.out 1).trans rfl; have y1 := (block_cell HY4.out 1).trans rfl; have f1 := block_free HY4.out 1; have x2 := (block_cell HX4.out 2).trans rfl; have y2 := (block_cell HY4.out 2).trans rfl; have f2 := block_free HY4.out 2; have x3 := (block_cell HX4.out 3).trans rfl; have y3 := (block_cell HY4.out 3).trans rfl; have f3 := block_free HY4.out 3; have x4 := (block_cell HX4.out 4).trans rfl; have y4 := (block_cell HY4.out 4).trans rfl; have f4 := block_free HY4.out 4; have x5 := (block_cell HX4.out 5).trans rfl; have y5 := (block_cell HY4.out 5).trans rfl; have f5 := block_free HY4.out 5))
        obtain ⟨wf, hwf, b6, hbel⟩ := put6 HY4.out (.string M) (.string F) (.string f) (.int .i64 l) (.int .i64 a) (.bool o)
        rw [hwf]
        have r0 : wf.cell? ⟨w.heap.size, 0, none⟩ = some (.string M) := (block_cell b6 0).trans rfl
        have r1 : wf.cell? ⟨w.heap.size, 1, none⟩ = some (.string F) := (block_cell b6 1).trans rfl
        have r2 : wf.cell? ⟨w.heap.size, 2, none⟩ = some (.string f) := (block_cell b6 2).trans rfl
        have r3 : wf.cell? ⟨w.heap.size, 3, none⟩ = some (.int .i64 l) := (block_cell b6 3).trans rfl
        have r4 : wf.cell? ⟨w.heap.size, 4, none⟩ = some (.int .i64 a) := (block_cell b6 4).trans rfl
        have r5 : wf.cell? ⟨w.heap.size, 5, none⟩ = some (.bool o) := (block_cell b6 5).trans rfl
        refine bodyPost_ret (by simp [results, Tryz.results62, go_sem, r0, r1, r2, r3, r4, r5]; try rfl) rfl ?_
        exact ⟨⟨M, F, f, l, a, o, (by rw [E.out, Option.isSome_map]; rfl), (hor.imp (fun h => by rw [E.out, h]; rfl) (fun h => by rw [E.out, h]; rfl)), by omega, by omega, hf4⟩, hbel _ _ HB4.out (Nat.le_refl _)⟩
end Go.Proofs.YtkjpojaanocfjaaGreatDoor
