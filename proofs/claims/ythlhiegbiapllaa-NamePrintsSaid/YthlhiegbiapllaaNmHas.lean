/- Walks of hasWord and its closures (printed by gen_nh.py). -/
import Derived.Test.YthlhiegbiapllaaNmPrT
import Derived.Laws.EntriesVeiled
namespace Go.Proofs.Ythlhiegbiapllaa
open Go.RowKit
set_option linter.unusedVariables false
/-- The closures' variables: 'types' in block c3, 'parts' in block c4. -/
structure Cap (c3 c4 : Nat) (w : World) : Prop where
  p : w.cell? ⟨c4, 0, none⟩ = some (.func (.func 60) #[] #[.pointer (some ⟨c3, 0, none⟩)])
  t : w.cell? ⟨c3, 0, none⟩ = some (.func (.func 63) #[] #[.pointer (some ⟨c4, 0, none⟩), .pointer (some ⟨c3, 0, none⟩)])
theorem Cap.below {c3 c4 : Nat} {w w' : World} (h : Cap c3 c4 w) (hb : Below w.heap.size w w') : Cap c3 c4 w' :=
  ⟨(hb.cell (World.block_lt_of_cell? w _ h.p)).trans h.p, (hb.cell (World.block_lt_of_cell? w _ h.t)).trans h.t⟩
def hTyOk (f : Nat) : Prop := ∀ (k : Nat) (t : Ty) (cs : List Value) (c3 c4 : Nat) (w : World), TyIn w w.heap.size k t cs → Good f t → Cap c3 c4 w →
  Calls Try.prog 65 #[.agg cs.toArray, .pointer (some ⟨c4, 0, none⟩), .pointer (some ⟨c3, 0, none⟩)] w fun e w' => e = .returned (.bool (wd f t)) ∧ Below w.heap.size w w'
def hTysOk (f : Nat) : Prop := ∀ (k : Nat) (A : Option Addr) (n cap : Nat) (l : List Ty) (c3 c4 : Nat) (w : World), n ≤ maxLen → Tys w w.heap.size k A n l → GoodTys f l → Cap c3 c4 w →
  Calls Try.prog 63 #[.slice A n cap, .pointer (some ⟨c4, 0, none⟩), .pointer (some ⟨c3, 0, none⟩)] w fun e w' => e = .returned (.bool (wdTys f l)) ∧ Below w.heap.size w w'
def hPartOk (f : Nat) : Prop := ∀ (k : Nat) (p : Part) (cs : List Value) (c3 c4 : Nat) (w : World), PartIn w w.heap.size (TyIn w w.heap.size k) p cs → GoodTys f p.2 → Cap c3 c4 w →
  Calls Try.prog 62 #[.agg cs.toArray, .pointer (some ⟨c3, 0, none⟩)] w fun e w' => e = .returned (.bool (wdTys f p.2)) ∧ Below w.heap.size w w'
def hPartsOk (f : Nat) : Prop := ∀ (k : Nat) (A : Option Addr) (n cap : Nat) (l : List Part) (c3 c4 : Nat) (w : World), n ≤ maxLen → Parts w w.heap.size k A n l → GoodParts f l → Cap c3 c4 w →
  Calls Try.prog 60 #[.slice A n cap, .pointer (some ⟨c3, 0, none⟩)] w fun e w' => e = .returned (.bool (wdParts f l)) ∧ Below w.heap.size w w'

set_option maxRecDepth 100000 in
set_option maxHeartbeats 4000000 in
theorem idxT {f : Nat} (H : hTyOk f) (k : Nat) (A : Option Addr) (n cap : Nat) (l : List Ty) (c3 c4 : Nat) (w : World) (hn : n ≤ maxLen) (hl : Tys w w.heap.size k A n l) (hg : GoodTys f l) (hc : Cap c3 c4 w) :
    Calls Try.prog 76 #[.slice A n cap, .func (.func 65) #[] #[.pointer (some ⟨c4, 0, none⟩), .pointer (some ⟨c3, 0, none⟩)]] w fun e w' => (∃ i : Int, e = .returned (.int .i64 i) ∧ decide (0 ≤ i) = wdTys f l) ∧ Below w.heap.size w w' := by
  unfold maxLen at hn
  have HL := hide hl.len
  have HSL := hide hl
  have HG := hide hg
  have HH := hide H
  have HC := hide hc
  clear hl hg H hc
  go_enter Try.func76, Try.ntmps76
  go_wp2_with (fail)
  go_loopw [8] (fun i wr => ∃ j : Nat, j ≤ n ∧ i = .int .i64 j ∧ wdTys f (l.take j) = false ∧ Below w.heap.size w wr) (fun i _ => n - (intOf i).toNat)
  case atStart => exact ⟨0, Nat.zero_le _, rfl, rfl, Below.refl _ _⟩
  case round =>
    obtain ⟨j, hj, rfl, hwd, hB⟩ := hrel
    have HWD := hide hwd
    clear hwd
    have hz := hB.size
    by_cases hlt : j < n
    · obtain ⟨b, o, t, cs, rfl, hb, ht, hin, hcs⟩ := (tys_up HSL.out hB).at_ hlt
      have HT := hide ht
      have hm := List.mem_of_getElem? ht
      have HO := hide (HH.out k t cs c3 c4 wr hin (HG.out t hm) (HC.out.below hB))
      cases k with
      | zero => exact hin.elim
      | succ k =>
      obtain ⟨A1, n1, cap1, A2, n2, cap2, rfl, _⟩ := hin
      have c0 : wr.cell? ⟨b, o + j * 3, none⟩ = some (.int .i64 t.kind) := by simpa using hcs 0 _ rfl
      have c1 : wr.cell? ⟨b, o + j * 3 + 1, none⟩ = some (.slice A1 n1 cap1) := hcs 1 _ rfl
      have c2 : wr.cell? ⟨b, o + j * 3 + 2, none⟩ = some (.slice A2 n2 cap2) := hcs 2 _ rfl
      clear hcs ht hm
      obtain ⟨v, hv⟩ : ∃ v, wd f t = v := ⟨_, rfl⟩
      rw [hv] at HO
      cases v
      · have HN := hide (wdTys_snoc HWD.out HT.out hv)
        clear hv
        go_wp2_with (go_at_call 65; refine HO.out.mono ?_; rintro e w2 ⟨rfl, hw2⟩; have hB2 := hB.trans (hw2.mono hz))
        go_roundw
        case rel => exact ⟨j + 1, by omega, by go_num, HN.out, hB2⟩
        case measure => simp [intOf]; omega
      · have E := hide (wdTys_hit HT.out hv)
        clear hv
        go_wp2_with (go_at_call 65; refine HO.out.mono ?_; rintro e w2 ⟨rfl, hw2⟩; have hB2 := hB.trans (hw2.mono hz))
        go_ret
        exact ⟨⟨_, rfl, by rw [E.out]; simp⟩, hB2⟩
    · obtain rfl : j = n := by omega
      have E := hide (show wdTys f l = false by have := HWD.out; rw [take_len l (by rw [HL.out]; exact Nat.le_refl _)] at this; exact this)
      go_wp2_with (fail)
      go_ret
      exact ⟨⟨-1, rfl, by rw [E.out]; decide⟩, hB⟩

set_option maxHeartbeats 1000000 in
theorem conT {f : Nat} (H : hTyOk f) (k : Nat) (A : Option Addr) (n cap : Nat) (l : List Ty) (c3 c4 : Nat) (w : World) (hn : n ≤ maxLen) (hl : Tys w w.heap.size k A n l) (hg : GoodTys f l) (hc : Cap c3 c4 w) :
    Calls Try.prog 64 #[.slice A n cap, .func (.func 65) #[] #[.pointer (some ⟨c4, 0, none⟩), .pointer (some ⟨c3, 0, none⟩)]] w fun e w' => e = .returned (.bool (wdTys f l)) ∧ Below w.heap.size w w' := by
  have HI := hide (idxT H k A n cap l c3 c4 w hn hl hg hc)
  clear hl hg hc H hn
  obtain ⟨v, hv⟩ : ∃ v, wdTys f l = v := ⟨_, rfl⟩
  rw [hv] at HI ⊢
  clear hv
  go_enter Try.func64, Try.ntmps64
  go_wp2_with (fail)
  refine HI.out.mono ?_
  rintro e w2 ⟨⟨i, rfl, hi⟩, hw2⟩
  cases v
  · have hi1 : decide (0 ≤ i) = false := hi
    have hi2 : i < 0 := by simpa using hi
    clear hi
    go_wp2_with (fail)
    go_ret
    exact ⟨rfl, hw2⟩
  · have hi1 : 0 ≤ i := by simpa using hi
    clear hi
    go_wp2_with (fail)
    go_ret
    exact ⟨rfl, hw2⟩

set_option maxHeartbeats 1000000 in
theorem hTys_of {f : Nat} (H : hTyOk f) : hTysOk f := by
  intro k A n cap l c3 c4 w hn hl hg hc
  have HI := hide (conT H k A n cap l c3 c4 w hn hl hg hc)
  clear hl hg hc H hn
  go_enter Try.func63, Try.ntmps63
  go_wp2_with (go_at_call 64; refine HI.out.mono ?_; rintro e w2 ⟨rfl, hw2⟩)
  go_ret
  exact ⟨rfl, hw2⟩
set_option maxHeartbeats 1000000 in
theorem hPart_of {f : Nat} (H : hTysOk f) : hPartOk f := by
  intro k p cs c3 c4 w hin hg hc
  obtain ⟨A, n, c, rfl, hs, hn, hm, hl⟩ := hin
  obtain ⟨tx, ar⟩ := p
  have HA := hide (fun ob : Obj => show Below w.heap.size w (w.alloc ob) from (Below.refl _ _).alloc (Nat.le_refl _) ob)
  have HI := hide (fun ob : Obj => H k A n c ar c3 c4 (w.alloc ob) (Nat.le_trans hn hm) (tys_up hl (HA.out ob)) hg (hc.below (HA.out ob)))
  have h3 := hc.t
  have h3l := World.block_lt_of_cell? w _ hc.t
  simp only at h3l
  unfold maxLen at hs hm
  clear hl hg hc H
  go_enter Try.func62, Try.ntmps62
  go_wp2_with (go_at_call 63; refine (HI.out _).mono ?_; rintro e w2 ⟨rfl, hw2⟩; have hB2 := (HA.out _).trans (hw2.mono (by simp)))
  go_ret
  exact ⟨rfl, hB2⟩

set_option maxRecDepth 100000 in
set_option maxHeartbeats 4000000 in
theorem idxP {f : Nat} (H : hPartOk f) (k : Nat) (A : Option Addr) (n cap : Nat) (l : List Part) (c3 c4 : Nat) (w : World) (hn : n ≤ maxLen) (hl : Parts w w.heap.size k A n l) (hg : GoodParts f l) (hc : Cap c3 c4 w) :
    Calls Try.prog 75 #[.slice A n cap, .func (.func 62) #[] #[.pointer (some ⟨c3, 0, none⟩)]] w fun e w' => (∃ i : Int, e = .returned (.int .i64 i) ∧ decide (0 ≤ i) = wdParts f l) ∧ Below w.heap.size w w' := by
  unfold maxLen at hn
  have HL := hide hl.len
  have HSL := hide hl
  have HG := hide hg
  have HH := hide H
  have HC := hide hc
  clear hl hg H hc
  go_enter Try.func75, Try.ntmps75
  go_wp2_with (fail)
  go_loopw [8] (fun i wr => ∃ j : Nat, j ≤ n ∧ i = .int .i64 j ∧ wdParts f (l.take j) = false ∧ Below w.heap.size w wr) (fun i _ => n - (intOf i).toNat)
  case atStart => exact ⟨0, Nat.zero_le _, rfl, rfl, Below.refl _ _⟩
  case round =>
    obtain ⟨j, hj, rfl, hwd, hB⟩ := hrel
    have HWD := hide hwd
    clear hwd
    have hz := hB.size
    by_cases hlt : j < n
    · obtain ⟨b, o, t, cs, rfl, hb, ht, hin, hcs⟩ := (parts_up HSL.out hB).at_ hlt
      have HT := hide ht
      have hm := List.mem_of_getElem? ht
      have HO := hide (HH.out k t cs c3 c4 wr hin ((HG.out t hm).2.2) (HC.out.below hB))
      obtain ⟨A1, n1, cap1, rfl, _⟩ := hin
      have c0 : wr.cell? ⟨b, o + j * 2, none⟩ = some (.string t.1) := by simpa using hcs 0 _ rfl
      have c1 : wr.cell? ⟨b, o + j * 2 + 1, none⟩ = some (.slice A1 n1 cap1) := hcs 1 _ rfl
      clear hcs ht hm
      obtain ⟨v, hv⟩ : ∃ v, wdTys f t.2 = v := ⟨_, rfl⟩
      rw [hv] at HO
      cases v
      · have HN := hide (wdParts_snoc HWD.out HT.out hv)
        clear hv
        go_wp2_with (go_at_call 62; refine HO.out.mono ?_; rintro e w2 ⟨rfl, hw2⟩; have hB2 := hB.trans (hw2.mono hz))
        go_roundw
        case rel => exact ⟨j + 1, by omega, by go_num, HN.out, hB2⟩
        case measure => simp [intOf]; omega
      · have E := hide (wdParts_hit HT.out hv)
        clear hv
        go_wp2_with (go_at_call 62; refine HO.out.mono ?_; rintro e w2 ⟨rfl, hw2⟩; have hB2 := hB.trans (hw2.mono hz))
        go_ret
        exact ⟨⟨_, rfl, by rw [E.out]; simp⟩, hB2⟩
    · obtain rfl : j = n := by omega
      have E := hide (show wdParts f l = false by have := HWD.out; rw [take_len l (by rw [HL.out]; exact Nat.le_refl _)] at this; exact this)
      go_wp2_with (fail)
      go_ret
      exact ⟨⟨-1, rfl, by rw [E.out]; decide⟩, hB⟩

set_option maxHeartbeats 1000000 in
theorem conP {f : Nat} (H : hPartOk f) (k : Nat) (A : Option Addr) (n cap : Nat) (l : List Part) (c3 c4 : Nat) (w : World) (hn : n ≤ maxLen) (hl : Parts w w.heap.size k A n l) (hg : GoodParts f l) (hc : Cap c3 c4 w) :
    Calls Try.prog 61 #[.slice A n cap, .func (.func 62) #[] #[.pointer (some ⟨c3, 0, none⟩)]] w fun e w' => e = .returned (.bool (wdParts f l)) ∧ Below w.heap.size w w' := by
  have HI := hide (idxP H k A n cap l c3 c4 w hn hl hg hc)
  clear hl hg hc H hn
  obtain ⟨v, hv⟩ : ∃ v, wdParts f l = v := ⟨_, rfl⟩
  rw [hv] at HI ⊢
  clear hv
  go_enter Try.func61, Try.ntmps61
  go_wp2_with (fail)
  refine HI.out.mono ?_
  rintro e w2 ⟨⟨i, rfl, hi⟩, hw2⟩
  cases v
  · have hi1 : decide (0 ≤ i) = false := hi
    have hi2 : i < 0 := by simpa using hi
    clear hi
    go_wp2_with (fail)
    go_ret
    exact ⟨rfl, hw2⟩
  · have hi1 : 0 ≤ i := by simpa using hi
    clear hi
    go_wp2_with (fail)
    go_ret
    exact ⟨rfl, hw2⟩

set_option maxHeartbeats 1000000 in
theorem hParts_of {f : Nat} (H : hPartOk f) : hPartsOk f := by
  intro k A n cap l c3 c4 w hn hl hg hc
  have HI := hide (conP H k A n cap l c3 c4 w hn hl hg hc)
  clear hl hg hc H hn
  go_enter Try.func60, Try.ntmps60
  go_wp2_with (go_at_call 61; refine HI.out.mono ?_; rintro e w2 ⟨rfl, hw2⟩)
  go_ret
  exact ⟨rfl, hw2⟩
theorem hTy_zero : hTyOk 0 := fun _ _ _ _ _ _ _ h => h.elim
theorem wd_head {f : Nat} {t : Ty} (hk : t.kind = 1) (h : headW t.name = true) : wd (f + 1) t = true := by unfold wd; rw [hk, h]; simp
theorem wd_rest {f : Nat} {t : Ty} (h : (decide (t.kind = 1) && headW t.name) = false) : wd (f + 1) t = (wdParts f t.name || wdTys f t.of) := by
  unfold wd wdParts wdTys; rw [h]; simp
set_option maxRecDepth 100000 in
set_option maxHeartbeats 8000000 in
theorem hTy_succ {f : Nat} (HPS : hPartsOk f) (HTS : hTysOk f) : hTyOk (f + 1) := by
  intro k t cs c3 c4 w hin hg hcap
  cases k with
  | zero => exact hin.elim
  | succ k =>
  obtain ⟨A, n, c, A2, n2, c2, rfl, hn, hm, hn2, hm2, hl, hl2⟩ := hin
  obtain ⟨⟨hk1, hk4⟩, h1, h2, h3, h4, h5⟩ := hg
  have HSL := hide hl
  have HLN := hide hl.len
  have HA := hide (fun ob : Obj => show Below w.heap.size w (w.alloc ob) from (Below.refl _ _).alloc (Nat.le_refl _) ob)
  have HP := hide (fun ob : Obj => HPS k A n c t.name c3 c4 (w.alloc ob) (Nat.le_trans hn hm) (parts_up hl (HA.out ob)) h4 (hcap.below (HA.out ob)))
  have HT := hide (fun (W : World) (h : Below w.heap.size w W) => HTS k A2 n2 c2 t.of c3 c4 W (Nat.le_trans hn2 hm2) (tys_up hl2 h) h5 (hcap.below h))
  have HX := hide (heap_alloc_new w (.cells #[.int .i64 t.kind, .slice A n c, .slice A2 n2 c2] 52))
  have HCP := hide hcap
  have q4 := hcap.p
  have q3 := hcap.t
  have l3 := World.block_lt_of_cell? w _ hcap.t
  have l4 := World.block_lt_of_cell? w _ hcap.p
  simp only at l3 l4
  unfold maxLen at hm hm2
  obtain ⟨K, hKd⟩ : ∃ K, t.kind = K := ⟨_, rfl⟩
  rw [hKd] at HX h1 ⊢
  have HKD := hide hKd
  clear hl hl2 h2 h3 h4 h5 hcap HPS HTS hKd
  by_cases hK : K = 1
  · subst hK
    obtain ⟨ho, hp1, hp2⟩ := h1 rfl
    have hnn := HLN.out
    obtain ⟨b, o, p, cs', hA, hb, hp, hpin, hpc⟩ := HSL.out.at_ (k := 0) (by omega)
    subst hA
    obtain ⟨A7, n7, c7, hcs', hps, _⟩ := hpin
    subst hcs'
    have p0 : w.cell? ⟨b, o, none⟩ = some (.string p.1) := by simpa using hpc 0 _ rfl
    have hhw : headW t.name = wordS p.1 := by
      unfold headW
      split
      · rename_i e; rw [e] at hp; cases hp
      · rename_i q r e; rw [e] at hp; simp at hp; subst hp; rfl
    have HRS := hide (fun W => isWord_any p.1 W)
    have hn0 : 0 < n := by omega
    have hn0i : (0 : Int) < (n : Int) := by omega
    clear hpc hps
    cases hws : wordS p.1
    · have HWD := hide (wd_rest (f := f) (t := t) (by rw [hhw, hws]; simp))
      rw [hws] at HRS
      clear hp hhw hws ho h1
      rw [HWD.out]
      obtain ⟨va, hva⟩ : ∃ va, wdParts f t.name = va := ⟨_, rfl⟩
      obtain ⟨vb, hvb⟩ : ∃ vb, wdTys f t.of = vb := ⟨_, rfl⟩
      rw [hva] at HP ⊢
      rw [hvb] at HT ⊢
      clear hva hvb
      cases va
      · go_enter Try.func65, Try.ntmps65
        go_wp2_with (first | (go_at_call 66; refine (HRS.out _).mono ?_; rintro e w' ⟨rfl, rfl⟩) | (go_at_call 60; refine (HP.out _).mono ?_; rintro e w2 ⟨rfl, hw2⟩; have hB2 : Below w.heap.size w w2 := (HA.out _).trans (hw2.mono (by simp)); have x2 : w2.cell? ⟨w.heap.size, 2, none⟩ = some (.slice A2 n2 c2) := (block_cell (block_below HX.out hw2) 2).trans rfl; have z3 := (HCP.out.below hB2).t; clear hw2) | (go_at_call 63; refine (HT.out _ hB2).mono ?_; rintro e w3 ⟨rfl, hw3⟩; have hB3 := hB2.trans (hw3.mono hB2.size)))
        go_ret
        exact ⟨rfl, hB3⟩
      · go_enter Try.func65, Try.ntmps65
        go_wp2_with (first | (go_at_call 66; refine (HRS.out _).mono ?_; rintro e w' ⟨rfl, rfl⟩) | (go_at_call 60; refine (HP.out _).mono ?_; rintro e w2 ⟨rfl, hw2⟩; have hB2 : Below w.heap.size w w2 := (HA.out _).trans (hw2.mono (by simp)); have x2 : w2.cell? ⟨w.heap.size, 2, none⟩ = some (.slice A2 n2 c2) := (block_cell (block_below HX.out hw2) 2).trans rfl; have z3 := (HCP.out.below hB2).t; clear hw2))
        go_ret
        exact ⟨rfl, hB2⟩
    · have HWD := hide (wd_head (f := f) (t := t) HKD.out (by rw [hhw, hws]))
      rw [hws] at HRS
      clear hp hhw hws ho h1
      rw [HWD.out]
      go_enter Try.func65, Try.ntmps65
      go_wp2_with (go_at_call 66; refine (HRS.out _).mono ?_; rintro e w' ⟨rfl, rfl⟩)
      go_ret
      exact ⟨rfl, HA.out _⟩
  · have HWD := hide (wd_rest (f := f) (t := t) (by rw [HKD.out]; simp [hK]))
    have hK2 : (K == 1) = false := by simpa using hK
    clear h1
    rw [HWD.out]
    obtain ⟨va, hva⟩ : ∃ va, wdParts f t.name = va := ⟨_, rfl⟩
    obtain ⟨vb, hvb⟩ : ∃ vb, wdTys f t.of = vb := ⟨_, rfl⟩
    rw [hva] at HP ⊢
    rw [hvb] at HT ⊢
    clear hva hvb
    cases va
    · go_enter Try.func65, Try.ntmps65
      go_wp2_with (first | (go_at_call 60; refine (HP.out _).mono ?_; rintro e w2 ⟨rfl, hw2⟩; have hB2 : Below w.heap.size w w2 := (HA.out _).trans (hw2.mono (by simp)); have x2 : w2.cell? ⟨w.heap.size, 2, none⟩ = some (.slice A2 n2 c2) := (block_cell (block_below HX.out hw2) 2).trans rfl; have z3 := (HCP.out.below hB2).t; clear hw2) | (go_at_call 63; refine (HT.out _ hB2).mono ?_; rintro e w3 ⟨rfl, hw3⟩; have hB3 := hB2.trans (hw3.mono hB2.size)))
      go_ret
      exact ⟨rfl, hB3⟩
    · go_enter Try.func65, Try.ntmps65
      go_wp2_with (go_at_call 60; refine (HP.out _).mono ?_; rintro e w2 ⟨rfl, hw2⟩; have hB2 : Below w.heap.size w w2 := (HA.out _).trans (hw2.mono (by simp)); have x2 : w2.cell? ⟨w.heap.size, 2, none⟩ = some (.slice A2 n2 c2) := (block_cell (block_below HX.out hw2) 2).trans rfl; have z3 := (HCP.out.below hB2).t; clear hw2)
      go_ret
      exact ⟨rfl, hB2⟩
theorem hAll : ∀ f, hTyOk f
  | 0 => hTy_zero
  | f + 1 => hTy_succ (hParts_of (hPart_of (hTys_of (hAll f)))) (hTys_of (hAll f))
theorem hw_world {w : World} {a : Array Value} {TS T3 T4 : TypeId} {F3 F4 : Value} :
    (((w.alloc (.cells a TS)).alloc (.cells #[F3] T3)).alloc (.cells #[F4] T4)).heap[w.heap.size]? = some (.cells a TS (0, 0)) ∧
    (((w.alloc (.cells a TS)).alloc (.cells #[F3] T3)).alloc (.cells #[F4] T4)).heap[w.heap.size + 1]? = some (.cells #[F3] T3 (0, 0)) ∧
    (((w.alloc (.cells a TS)).alloc (.cells #[F3] T3)).alloc (.cells #[F4] T4)).heap[w.heap.size + 1 + 1]? = some (.cells #[F4] T4 (0, 0)) ∧
    Below w.heap.size w (((w.alloc (.cells a TS)).alloc (.cells #[F3] T3)).alloc (.cells #[F4] T4)) := by
  have h0 := heap_alloc_new w (.cells a TS)
  have h1 := heap_alloc_new (w.alloc (.cells a TS)) (.cells #[F3] T3)
  have h2 := heap_alloc_new ((w.alloc (.cells a TS)).alloc (.cells #[F3] T3)) (.cells #[F4] T4)
  simp only [World.size_alloc] at h1 h2
  have k0 := block_below (block_below h0 ((Below.refl _ _).alloc (Nat.le_refl _) (.cells #[F3] T3))) ((Below.refl _ _).alloc (Nat.le_refl _) (.cells #[F4] T4))
  have k1 := block_below h1 ((Below.refl _ _).alloc (Nat.le_refl _) (.cells #[F4] T4))
  exact ⟨k0, k1, h2, ((Below.refl _ _).alloc (Nat.le_refl _) _).alloc (by simp) _ |>.alloc (by simp; omega) _⟩
set_option maxRecDepth 100000 in
set_option maxHeartbeats 4000000 in
theorem hasWord_any (k : Nat) (s : Sym) (cs : List Value) (w : World) (hin : SymIn w k s cs) (h0 : (symE s).1 = 0) :
    Calls Try.prog 38 #[.agg cs.toArray] w fun e w' => e = .returned (.bool (wdParts 12 s.name || wdTys 12 s.takes)) ∧ Below w.heap.size w w' := by
  obtain ⟨g1, _, _, g4, _, _⟩ := sym_good h0
  obtain ⟨A, n, c, A2, n2, c2, rfl, hn, hm, hn2, hm2, hl, hl2⟩ := hin
  have HP := hide (fun (W : World) (h : Below w.heap.size w W) (hc : Cap (w.heap.size + 1) (w.heap.size + 1 + 1) W) => hParts_of (hPart_of (hTys_of (hAll 12))) k A n c s.name _ _ W (Nat.le_trans hn hm) (parts_up hl h) g1 hc)
  have HT := hide (fun (W : World) (h : Below w.heap.size w W) (hc : Cap (w.heap.size + 1) (w.heap.size + 1 + 1) W) => hTys_of (hAll 12) k A2 n2 c2 s.takes _ _ W (Nat.le_trans hn2 hm2) (tys_up hl2 h) g4 hc)
  unfold maxLen at hm hm2
  clear hl hl2 g1 g4 h0
  obtain ⟨va, hva⟩ : ∃ va, wdParts 12 s.name = va := ⟨_, rfl⟩
  obtain ⟨vb, hvb⟩ : ∃ vb, wdTys 12 s.takes = vb := ⟨_, rfl⟩
  rw [hva] at HP ⊢
  rw [hvb] at HT ⊢
  clear hva hvb
  obtain ⟨e3, e4, e5, e6⟩ := hw_world (w := w) (a := #[.slice A n c, .slice A2 n2 c2]) (TS := 25) (T3 := 89) (T4 := 92) (F3 := .func (.func 63) #[] #[.pointer (some ⟨w.heap.size + 1 + 1, 0, none⟩), .pointer (some ⟨w.heap.size + 1, 0, none⟩)]) (F4 := .func (.func 60) #[] #[.pointer (some ⟨w.heap.size + 1, 0, none⟩)])
  have d3 := (block_cell e4 0).trans rfl
  have d4 := (block_cell e5 0).trans rfl
  have HE3 := hide e3
  have HCA := hide (Cap.mk d4 d3)
  have HBE := hide e6
  clear e3 e4 e5 e6 d3 d4
  go_enter Try.func38, Try.ntmps38
  go_wp2_with (fail)
  cases va
  · refine (HP.out _ HBE.out HCA.out).mono ?_
    rintro e w2 ⟨rfl, hw2⟩
    have hB2 := HBE.out.trans (hw2.mono HBE.out.size)
    have x1 : w2.cell? ⟨w.heap.size, 1, none⟩ = some (.slice A2 n2 c2) := (block_cell (block_below HE3.out hw2) 1).trans rfl
    have hc2 := HCA.out.below hw2
    have z3 := hc2.t
    have HC2 := hide hc2
    clear hw2 hc2
    go_wp2_with (go_at_call 63; refine (HT.out _ hB2 HC2.out).mono ?_; rintro e w3 ⟨rfl, hw3⟩; have hB3 := hB2.trans (hw3.mono hB2.size))
    go_ret
    exact ⟨rfl, hB3⟩
  · refine (HP.out _ HBE.out HCA.out).mono ?_
    rintro e w2 ⟨rfl, hw2⟩
    have hB2 := HBE.out.trans (hw2.mono HBE.out.size)
    clear hw2
    go_wp2_with (fail)
    go_ret
    exact ⟨rfl, hB2⟩
end Go.Proofs.Ythlhiegbiapllaa
