/- Walks of bare, Bared and Bare (printed by gen_nb.py). -/
import Derived.Test.YtocpmbpckbjepaaDoorNmSymE
namespace Go.Proofs.YtocpmbpckbjepaaDoor
open Go.RowKit
set_option linter.unusedVariables false
def bareP (p : Part) : Part := (p.1, [])
/-- A symbol without its arguments. -/
def bareS (s : Sym) : Sym := ⟨s.name.map bareP, []⟩
def bcs (p : Part) : List Value := [.string p.1, .slice none 0 0]
theorem info_part : (Tryd.prog.info? 47).map (fun i => (i.zero, i.size, i.bytes)) = some (some (.agg #[.string ByteArray.empty, .slice none 0 0]), 2, 40) := by kernel_rfl
theorem symE_len {s : Sym} (h : (symE s).1 = 0) : s.name.length ≤ 20 := by
  unfold symE at h
  by_cases h1 : (chkName (chkTy 12) s.name 0).1 = 0
  · unfold chkName at h1
    split at h1
    · cases h1
    · split at h1
      · cases h1
      · omega
  · rw [if_pos h1] at h; exact absurd h h1
theorem own_slice {w : World} {base sz n : Nat} {e : TypeId} {v : Value} {xs : List Value} (h : w.ownsRow base e sz v n xs) : ∃ a c, v = .slice a n c := by
  rcases h.2 with ⟨rfl, rfl⟩ | ⟨g, cap, cur, rfl, _⟩
  · exact ⟨_, _, rfl⟩
  · exact ⟨_, _, rfl⟩
theorem own_keep {B b sz : Nat} {S ty : TypeId} {wp w1 : World} {v : Value} {n : Nat} {xs : List Value} {c : Array Value} {o : Obj} (HO : wp.ownsRow B S sz v n xs) (hb : wp.heap[b]? = some (.cells c ty (0, 0))) (hne : S ≠ ty)
    (hg : (wp.alloc o).grownBy w1 v.ownBlock) : w1.heap[b]? = some (.cells c ty (0, 0)) :=
  (hg.block b (lt_of_block (block_below hb ((Below.refl _ _).alloc (Nat.le_refl _) o))) (fun e => own_other' HO hb hne e.symm)).trans (block_below hb ((Below.refl _ _).alloc (Nat.le_refl _) o))
theorem own_grow {B sz n : Nat} {S : TypeId} {w0 wp w1 : World} {v : Value} {xs : List Value} {o : Obj} (HB : Below B w0 wp) (hB : B ≤ wp.heap.size) (HO : wp.ownsRow B S sz v n xs) (hg : (wp.alloc o).grownBy w1 v.ownBlock) : Below B w0 w1 :=
  (HB.alloc hB o).grown hg (by simp; omega) (fun j hj => (HO.lt j hj).1)
theorem bare_in {w : World} {k B n : Nat} {A : Option Addr} {l : List Part} (hs : ∀ p ∈ l, p.1.size ≤ maxLen) (h : Sl w B bcs 2 A n l) : Parts w B k A n (l.map bareP) := by
  refine ⟨by rw [List.length_map]; exact h.len, fun hn => ?_⟩
  obtain ⟨b, o, e, hlt, hc⟩ := h.cells hn
  refine ⟨b, o, e, hlt, fun i a ha => ?_⟩
  rw [List.getElem?_map] at ha
  obtain ⟨p, hp, rfl⟩ := Option.map_eq_some_iff.1 ha
  exact ⟨bcs p, ⟨none, 0, 0, rfl, hs p (List.mem_of_getElem? hp), Nat.le_refl _, Nat.zero_le _, SlP.nil _ _ _ _ _⟩, hc i p hp⟩
theorem part_sizes {w : World} {k B n : Nat} {A : Option Addr} {l : List Part} (h : Parts w B k A n l) : ∀ p ∈ l, p.1.size ≤ maxLen := by
  intro p hp
  obtain ⟨i, hi, rfl⟩ := List.mem_iff_getElem.1 hp
  obtain ⟨b, o, e, hlt, hc⟩ := h.cells (by have := h.len; omega)
  obtain ⟨cs, ⟨_, _, _, _, h1, _⟩, _⟩ := hc i _ (List.getElem?_eq_getElem hi)
  exact h1
theorem bare_sym {w : World} {B k n c : Nat} {A : Option Addr} {s : Sym} (h : w.ownsRow B 47 2 (.slice A n c) n (s.name.flatMap bcs)) (hn : s.name.length = n) (h1 : 1 ≤ n) (hs : ∀ p ∈ s.name, p.1.size ≤ maxLen) :
    SymIn w k (bareS s) [.slice A n c, .slice none 0 0] := by
  obtain ⟨A8, c8, he8, hsl8, hc8, hm8⟩ := sl_of_own (f := bcs) (l := s.name) (fun _ => rfl) hn h
  simp only [Value.slice.injEq, true_and] at he8
  obtain ⟨rfl, rfl⟩ := he8
  exact ⟨A, n, c, none, 0, 0, rfl, hc8, hm8.resolve_left (by omega), Nat.le_refl _, Nat.zero_le _, bare_in hs hsl8, SlP.nil _ _ _ _ _⟩
theorem sym_sizes {w : World} {k : Nat} {s : Sym} {cs : List Value} (h : SymIn w k s cs) : ∀ p ∈ s.name, p.1.size ≤ maxLen := by
  obtain ⟨_, _, _, _, _, _, _, _, _, _, _, h5, _⟩ := h
  exact part_sizes h5

set_option maxRecDepth 100000 in
set_option maxHeartbeats 8000000 in
theorem bare_any (k : Nat) (s : Sym) (cs : List Value) (w : World) (hin : SymIn w k s cs) (h20 : s.name.length ≤ 20) (h1 : 1 ≤ s.name.length) :
    Calls Tryd.prog 22 #[.agg cs.toArray] w fun e w' => (∃ A n c, e = .returned (.agg #[.slice A n c, .slice none 0 0]) ∧ s.name.length = n ∧ w'.ownsRow w.heap.size 47 2 (.slice A n c) n (s.name.flatMap bcs)) ∧ Below w.heap.size w w' := by
  obtain ⟨A, n, c, A2, n2, c2, rfl, hn, hm, hn2, hm2, hl, hl2⟩ := hin
  obtain ⟨i0, hi0, iz0, iz1, iz2⟩ := info_parts info_part
  have HSL := hide hl
  have HLN := hide hl.len
  have hn20 : n ≤ 20 := by have := hl.len; omega
  have hn01 : 1 ≤ n := by have := hl.len; omega
  have HX2 := hide (heap_alloc_new (w.alloc (.cells #[.slice A n c, .slice A2 n2 c2] 25)) (.cells #[.slice none 0 0, .slice none 0 0] 25))
  have HX3 := hide (heap_alloc_new ((w.alloc (.cells #[.slice A n c, .slice A2 n2 c2] 25)).alloc (.cells #[.slice none 0 0, .slice none 0 0] 25)) (.cells #[.slice none 0 0, .slice none 0 0] 25))
  have hx2 : (((w.alloc (.cells #[.slice A n c, .slice A2 n2 c2] 25)).alloc (.cells #[.slice none 0 0, .slice none 0 0] 25)).alloc (.cells #[.slice none 0 0, .slice none 0 0] 25)).heap[w.heap.size + 1]? = some (.cells #[.slice none 0 0, .slice none 0 0] 25 (0, 0)) := block_below (by have h := HX2.out; simp only [World.size_alloc] at h; exact h) ((Below.refl _ _).alloc (Nat.le_refl _) _)
  have hx3 : (((w.alloc (.cells #[.slice A n c, .slice A2 n2 c2] 25)).alloc (.cells #[.slice none 0 0, .slice none 0 0] 25)).alloc (.cells #[.slice none 0 0, .slice none 0 0] 25)).heap[w.heap.size + 1 + 1]? = some (.cells #[.slice none 0 0, .slice none 0 0] 25 (0, 0)) := by have h := HX3.out; simp only [World.size_alloc] at h; exact h
  have HB0 := hide (show Below w.heap.size w (((w.alloc (.cells #[.slice A n c, .slice A2 n2 c2] 25)).alloc (.cells #[.slice none 0 0, .slice none 0 0] 25)).alloc (.cells #[.slice none 0 0, .slice none 0 0] 25)) from (((Below.refl _ _).alloc (Nat.le_refl _) _).alloc (by simp) _).alloc (by simp; omega) _)
  have HY2 := hide hx2
  have HY3 := hide hx3
  have HNE : (47 : TypeId) ≠ 25 := by decide
  unfold maxLen at hm hm2
  clear hl hl2 h20 h1 hx2 hx3
  go_enter Tryd.func22, Tryd.ntmps22
  go_wp2_with (fail)
  obtain ⟨wz, hwz⟩ : ∃ wz, (((w.alloc (.cells #[.slice A n c, .slice A2 n2 c2] 25)).alloc (.cells #[.slice none 0 0, .slice none 0 0] 25)).alloc (.cells #[.slice none 0 0, .slice none 0 0] 25)) = wz := ⟨_, rfl⟩
  rw [hwz] at HB0 HY2 HY3
  (try rw [hwz])
  clear hwz
  go_loopw [9] (fun i wr => ∃ (j : Nat) (v : Value), j ≤ n ∧ i = .int .i64 j ∧ wr.heap[w.heap.size + 1]? = some (.cells #[.slice none 0 0, .slice none 0 0] 25 (0, 0)) ∧ wr.heap[w.heap.size + 1 + 1]? = some (.cells #[v, .slice none 0 0] 25 (0, 0)) ∧ wr.ownsRow w.heap.size 47 2 v j ((s.name.take j).flatMap bcs) ∧ Below w.heap.size w wr) (fun i _ => n - (intOf i).toNat)
  case atStart => exact ⟨0, .slice none 0 0, Nat.zero_le _, rfl, HY2.out, HY3.out, World.ownsRow_nil _ _ _ _, HB0.out⟩
  case round =>
    obtain ⟨j, v, hj, rfl, hb2, hb3, hown, hB⟩ := hrel
    have hz := hB.size
    have hlt3 := lt_of_block hb3
    by_cases hlt : j < n
    · obtain ⟨b, o, p, cs, rfl, hbb, hp, hin, hc⟩ := (parts_below HSL.out hB).at_ hlt
      obtain ⟨A1, n1, q1, rfl, hps, hn1, hm1, _⟩ := hin
      have c0 : wr.cell? ⟨b, o + j * 2, none⟩ = some (.string p.1) := by simpa using hc 0 _ rfl
      have c1 : wr.cell? ⟨b, o + j * 2 + 1, none⟩ = some (.slice A1 n1 q1) := hc 1 _ rfl
      have y0 : wr.cell? ⟨w.heap.size + 1 + 1, 0, none⟩ = some v := (block_cell hb3 0).trans rfl
      have HOW := hide (hown.alloc (.cells #[.string p.1, .slice A1 n1 q1] 47))
      have HB2 := hide (block_below hb2 ((Below.refl _ _).alloc (Nat.le_refl _) (.cells #[.string p.1, .slice A1 n1 q1] 47)))
      have HB3 := hide (block_below hb3 ((Below.refl _ _).alloc (Nat.le_refl _) (.cells #[.string p.1, .slice A1 n1 q1] 47)))
      have HBA := hide (hB.alloc hz (.cells #[.string p.1, .slice A1 n1 q1] 47))
      have HTK := hide (show (s.name.take (j + 1)).flatMap bcs = (s.name.take j).flatMap bcs ++ [.string p.1, .slice none 0 0] by rw [take_succ_get hp]; simp [bcs])
      clear hc hp hown hb2 hb3
      go_wp2_with (at_builtin; refine wpList_append_own _ rfl (.tmp 14) (.tmp 18) 22 rfl w.heap.size 47 i0 (.agg #[.string ByteArray.empty, .slice none 0 0]) 2 40 Tryd.underlying22 hi0 iz0 iz1 iz2 rfl (by decide) _ j _ rfl (HOW.out.alloc _) ⟨wr.heap.size + 1, 0, none⟩ 1 1 [.string p.1, .slice none 0 0] rfl rfl (cells_at _ [.string p.1, .slice none 0 0] _ _ (by first | rfl | simp)) (by intro u hu; simp at hu; rcases hu with rfl | rfl <;> rfl) (by unfold maxLen; omega) (by omega) (by simp; try omega) ?_; intro v1 w1 hown1 hg1 _; obtain ⟨ao, cp, rfl⟩ := own_slice hown1; have hk2 := own_keep HOW.out HB2.out HNE hg1; have hk3 := own_keep HOW.out HB3.out HNE hg1; have hbe := own_grow HBA.out HBA.out.size HOW.out hg1; have z0 : w1.cell? ⟨w.heap.size + 1 + 1, 0, none⟩ = some v := (block_cell hk3 0).trans rfl; have zf : w1.frozen? ⟨w.heap.size + 1 + 1, 0, none⟩ = false := block_free hk3 0; have HK2 := hide hk2; have HK3 := hide hk3; have HBE := hide hbe; have HO1 := hide hown1; clear hown1 hg1 hk2 hk3 hbe)
      go_roundw
      case rel => exact ⟨j + 1, .slice ao (j + 1) cp, by omega, by go_num, block_set_other HK2.out _ _ (by simp), (block_set HK3.out (i := 0) (.slice ao (j + 1) cp)).trans rfl, by rw [HTK.out]; exact ownsRow_setCell_other HO1.out (own_other' HO1.out HK3.out HNE) _, HBE.out.setCell (p := ⟨w.heap.size + 1 + 1, 0, none⟩) (by simp; omega) _⟩
      case measure => simp [intOf]; omega
    · obtain rfl : j = n := by omega
      have y0 : wr.cell? ⟨w.heap.size + 1 + 1, 0, none⟩ = some v := (block_cell hb3 0).trans rfl
      have y1 : wr.cell? ⟨w.heap.size + 1 + 1, 1, none⟩ = some (.slice none 0 0) := (block_cell hb3 1).trans rfl
      have g0 : wr.cell? ⟨w.heap.size + 1, 0, none⟩ = some (.slice none 0 0) := (block_cell hb2 0).trans rfl
      have g1 : wr.cell? ⟨w.heap.size + 1, 1, none⟩ = some (.slice none 0 0) := (block_cell hb2 1).trans rfl
      have gf0 : wr.frozen? ⟨w.heap.size + 1, 0, none⟩ = false := block_free hb2 0
      have gf1 : wr.frozen? ⟨w.heap.size + 1, 1, none⟩ = false := block_free hb2 1
      obtain ⟨A9, c9, rfl, hsl, hc9, hm9⟩ := sl_of_own (f := bcs) (l := s.name) (fun _ => rfl) HLN.out (by rw [take_len s.name (by rw [HLN.out]; exact Nat.le_refl _)] at hown; exact hown)
      have HB2 := hide hb2
      have HSL9 := hide hsl
      have HOW := hide hown
      have HBE := hide hB
      have hlt2 := lt_of_block hb2
      clear hb2 hb3 hsl hown hB
      go_wp2_with (fail)
      have hb21 := block_set HB2.out (i := 0) (.slice A9 j c9)
      have hb22 := block_set hb21 (i := 1) (.slice none 0 0)
      have ho2 := ownsRow_setCell_other (ownsRow_setCell_other HOW.out (a := ⟨w.heap.size + 1, 0, none⟩) (own_other' HOW.out HB2.out HNE) (.slice A9 j c9)) (a := ⟨w.heap.size + 1, 1, none⟩) (own_other' HOW.out HB2.out HNE) (.slice none 0 0)
      have hbz := (HBE.out.setCell (p := ⟨w.heap.size + 1, 0, none⟩) (by simp) (.slice A9 j c9)).setCell (p := ⟨w.heap.size + 1, 1, none⟩) (by simp) (.slice none 0 0)
      generalize ((wr.setCell ⟨w.heap.size + 1, 0, none⟩ (.slice A9 j c9)).setCell ⟨w.heap.size + 1, 1, none⟩ (.slice none 0 0)) = wf at hb22 ho2 hbz ⊢
      have r0 : wf.cell? ⟨w.heap.size + 1, 0, none⟩ = some (.slice A9 j c9) := (block_cell hb22 0).trans rfl
      have r1 : wf.cell? ⟨w.heap.size + 1, 1, none⟩ = some (.slice none 0 0) := (block_cell hb22 1).trans rfl
      rw [take_len s.name (by rw [HLN.out]; exact Nat.le_refl _)] at ho2
      refine bodyPost_ret (by simp [results, Tryd.results22, go_sem, r0, r1]; try rfl) rfl ?_
      exact ⟨⟨A9, j, c9, rfl, HLN.out, ho2⟩, hbz⟩

end Go.Proofs.YtocpmbpckbjepaaDoor