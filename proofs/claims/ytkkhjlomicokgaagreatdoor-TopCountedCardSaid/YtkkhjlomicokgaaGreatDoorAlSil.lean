/- Silences: walks of their checks, and of silent (printed by gen_a5.py). -/
import Derived.Test.YtkkhjlomicokgaaGreatDoorTpH
namespace Go.Proofs.YtkkhjlomicokgaaGreatDoor.al
open Go.RowKit
set_option linter.unusedVariables false
set_option linter.unusedSimpArgs false
structure Sil where
  rule : ByteArray
  fr : Int
  upto : Int
/-- The cells of a silence. -/
def Sil.cs (s : Sil) : List Value := [.string s.rule, .int .i64 s.fr, .int .i64 s.upto]
def momB (n : Int) : Bool := !outsideB n 0 3155759999
def silErr (s : Sil) : Int := if s.rule.size ≠ 0 ∧ nameB s.rule = false then 3 else if momB s.fr = false ∨ momB s.upto = false then 2 else if s.upto < s.fr then 5 else 0
def silErrAt (l : List Sil) (k : Nat) : Int := match l[k]? with
  | none => 0
  | some s => silErr s
def silsErr (l : List Sil) : Int := if 50 < l.length then 4 else firstErr (silErrAt l) l.length
theorem silErrAt_eq {l : List Sil} {k : Nat} {s : Sil} {e : Int} (h : l[k]? = some s) (he : silErr s = e) : silErrAt l k = e := by rw [silErrAt, h]; exact he
theorem silsErr_hit {l : List Sil} {k : Nat} (h : ¬ 50 < l.length) (h0 : ∀ j, j < k → silErrAt l j = 0) (hk : k < l.length) {v : Int} (hv : silErrAt l k = v) (hne : v ≠ 0) : silsErr l = v := by
  rw [silsErr, if_neg h, firstErr_hit h0 hk (by rw [hv]; exact hne), hv]
theorem silsErr_none {l : List Sil} (h : ¬ 50 < l.length) (h0 : ∀ j, j < l.length → silErrAt l j = 0) : silsErr l = 0 := by
  rw [silsErr, if_neg h, firstErr_zero h0]
def silHit (name : ByteArray) (t : Int) (s : Sil) : Bool := (decide (s.rule.size = 0) || beqS s.rule name) && decide (s.fr ≤ t) && decide (t ≤ s.upto)
def silB (name : ByteArray) (t : Int) (l : List Sil) : Bool := l.any (silHit name t)
def SilFit (l : List Sil) : Prop := ∀ s ∈ l, s.rule.size ≤ maxLen
set_option maxHeartbeats 4000000 in
theorem nSilC_any (cr nm : ByteArray) (cf ct t : Int) (b1 b2 : Nat) (w : World) (h01 : w.cell? ⟨b1, 0, none⟩ = some (.string nm)) (h02 : w.cell? ⟨b2, 0, none⟩ = some (.int .i64 t)) :
    Calls Tryz.prog 93 #[.agg #[.string cr, .int .i64 cf, .int .i64 ct], .pointer (some ⟨b1, 0, none⟩), .pointer (some ⟨b2, 0, none⟩)] w fun e w' => e = .returned (.bool (silHit nm t ⟨cr, cf, ct⟩)) ∧ Below w.heap.size w w' := by
  by_cases h3 : cr.size = 0
  · obtain rfl := s_empty h3
    by_cases h1 : cf ≤ t
    · by_cases h2 : t ≤ ct
      · skip
        have E := hide (show silHit nm t ⟨⟨#[]⟩, cf, ct⟩ = true by rw [silHit, decide_eq_true h1, decide_eq_true h2]; rfl)
        clear h3
        go_enter Tryz.func93, Tryz.ntmps93
        go_wp2_with (fail)
        go_ret
        exact ⟨by rw [E.out]; rfl, by go_grown⟩
      · have h2' : decide (t ≤ ct) = false := by simpa using h2
        have E := hide (show silHit nm t ⟨⟨#[]⟩, cf, ct⟩ = false by rw [silHit, decide_eq_false h2, Bool.and_false])
        clear h3
        go_enter Tryz.func93, Tryz.ntmps93
        go_wp2_with (fail)
        go_ret
        exact ⟨by rw [E.out]; rfl, by go_grown⟩
    · have h1' : decide (cf ≤ t) = false := by simpa using h1
      have E := hide (show silHit nm t ⟨⟨#[]⟩, cf, ct⟩ = false by rw [silHit, decide_eq_false h1, Bool.and_false, Bool.false_and])
      clear h3
      go_enter Tryz.func93, Tryz.ntmps93
      go_wp2_with (fail)
      go_ret
      exact ⟨by rw [E.out]; rfl, by go_grown⟩
  · obtain ⟨e1, e2, e3⟩ := s_full h3
    by_cases h4 : cr = nm
    · subst h4
      by_cases h1 : cf ≤ t
      · by_cases h2 : t ≤ ct
        · skip
          have E := hide (show silHit cr t ⟨cr, cf, ct⟩ = true by rw [silHit, decide_eq_true h1, decide_eq_true h2]; simp [beqS_self])
          clear h3
          go_enter Tryz.func93, Tryz.ntmps93
          go_wp2_with (fail)
          go_ret
          exact ⟨by rw [E.out]; rfl, by go_grown⟩
        · have h2' : decide (t ≤ ct) = false := by simpa using h2
          have E := hide (show silHit cr t ⟨cr, cf, ct⟩ = false by rw [silHit, decide_eq_false h2, Bool.and_false])
          clear h3
          go_enter Tryz.func93, Tryz.ntmps93
          go_wp2_with (fail)
          go_ret
          exact ⟨by rw [E.out]; rfl, by go_grown⟩
      · have h1' : decide (cf ≤ t) = false := by simpa using h1
        have E := hide (show silHit cr t ⟨cr, cf, ct⟩ = false by rw [silHit, decide_eq_false h1, Bool.and_false, Bool.false_and])
        clear h3
        go_enter Tryz.func93, Tryz.ntmps93
        go_wp2_with (fail)
        go_ret
        exact ⟨by rw [E.out]; rfl, by go_grown⟩
    · obtain ⟨e4, e5⟩ := str_ne h4
      have E := hide (show silHit nm t ⟨cr, cf, ct⟩ = false by rw [silHit, decide_eq_false h3, beqS_ne h4]; rfl)
      clear h3 h4
      go_enter Tryz.func93, Tryz.ntmps93
      go_wp2_with (fail)
      go_ret
      exact ⟨by rw [E.out]; rfl, by go_grown⟩
theorem nSilIdx_any (A : Option Addr) (n cap : Nat) (l : List Sil) (nm : ByteArray) (t : Int) (b1 b2 : Nat) (w : World) (hn : n ≤ maxLen) (hl : Sl w w.heap.size Sil.cs 3 A n l) (h01 : w.cell? ⟨b1, 0, none⟩ = some (.string nm)) (h02 : w.cell? ⟨b2, 0, none⟩ = some (.int .i64 t)) :
    Calls Tryz.prog 106 #[.slice A n cap, .func (.func 93) #[] #[.pointer (some ⟨b1, 0, none⟩), .pointer (some ⟨b2, 0, none⟩)]] w fun e w' => ∃ r : Int, e = .returned (.int .i64 r) ∧ (0 ≤ r ↔ silB nm t l = true) ∧ Below w.heap.size w w' := by
  unfold maxLen at hn
  have HL := hide hl.len
  have HSL := hide hl
  have hb1 : b1 < w.heap.size := World.block_lt_of_cell? w ⟨b1, 0, none⟩ h01
  have hb2 : b2 < w.heap.size := World.block_lt_of_cell? w ⟨b2, 0, none⟩ h02
  clear hl
  go_enter Tryz.func106, Tryz.ntmps106
  go_wp2_with (fail)
  go_loopw [8] (fun i wr => ∃ j : Nat, j ≤ n ∧ i = .int .i64 j ∧ silB nm t (l.take j) = false ∧ Below w.heap.size w wr) (fun i _ => n - (intOf i).toNat)
  case atStart => exact ⟨0, Nat.zero_le _, rfl, rfl, Below.refl _ _⟩
  case round =>
    obtain ⟨j, hj, rfl, hno, hB⟩ := hrel
    have HNO := hide hno
    clear hno
    by_cases hlt : j < n
    · obtain ⟨bb, oo, x, rfl, hbb, hx, hc⟩ := (HSL.out.below hB).at_ hlt
      obtain ⟨cr, cf, ct⟩ := x
      have c0 : wr.cell? ⟨bb, oo + j * 3, none⟩ = some (.string cr) := by simpa using hc 0 _ rfl
      have c1 : wr.cell? ⟨bb, oo + j * 3 + 1, none⟩ = some (.int .i64 cf) := hc 1 _ rfl
      have c2 : wr.cell? ⟨bb, oo + j * 3 + 2, none⟩ = some (.int .i64 ct) := hc 2 _ rfl
      have HX := hide hx
      have hz := hB.size
      have C := hide (nSilC_any cr nm cf ct t b1 b2 wr ((hB.cell (p := ⟨b1, 0, none⟩) hb1).trans h01) ((hB.cell (p := ⟨b2, 0, none⟩) hb2).trans h02))
      clear hc hx
      obtain ⟨y, hy⟩ : ∃ y, silHit nm t ⟨cr, cf, ct⟩ = y := ⟨_, rfl⟩
      rw [hy] at C
      have HY := hide hy
      clear hy
      cases y
      · go_wp2_with (go_at_call 93; refine C.out.mono ?_; rintro e w1 ⟨rfl, hw1⟩; have hB1 := hB.trans (hw1.mono hB.size))
        go_roundw
        case rel => exact ⟨j + 1, by omega, by go_num, by have h := HNO.out; rw [take_succ_get HX.out, silB, List.any_append]; rw [silB] at h; rw [h]; simp [HY.out], hB1⟩
        case measure => simp [intOf]; omega
      · go_wp2_with (go_at_call 93; refine C.out.mono ?_; rintro e w1 ⟨rfl, hw1⟩; have hB1 := hB.trans (hw1.mono hB.size))
        go_ret
        refine ⟨j, rfl, ?_, hB1⟩
        have : silB nm t l = true := by
          unfold silB; rw [List.any_eq_true]; exact ⟨_, List.mem_of_getElem? HX.out, HY.out⟩
        simp [this]
    · have E := hide (show silB nm t l = false by rw [← HNO.out, take_len l (by have := HL.out; omega)])
      go_wp2_with (fail)
      go_ret
      exact ⟨-1, rfl, by rw [E.out]; simp, hB⟩
theorem nSilCon_any (A : Option Addr) (n cap : Nat) (l : List Sil) (nm : ByteArray) (t : Int) (b1 b2 : Nat) (w : World) (hn : n ≤ maxLen) (hl : Sl w w.heap.size Sil.cs 3 A n l) (h01 : w.cell? ⟨b1, 0, none⟩ = some (.string nm)) (h02 : w.cell? ⟨b2, 0, none⟩ = some (.int .i64 t)) :
    Calls Tryz.prog 92 #[.slice A n cap, .func (.func 93) #[] #[.pointer (some ⟨b1, 0, none⟩), .pointer (some ⟨b2, 0, none⟩)]] w fun e w' => e = .returned (.bool (silB nm t l)) ∧ Below w.heap.size w w' := by
  have C := hide (nSilIdx_any A n cap l nm t b1 b2 w hn hl h01 h02)
  obtain ⟨y, hy⟩ : ∃ y, silB nm t l = y := ⟨_, rfl⟩
  rw [hy] at C ⊢
  clear hy hl h01 h02
  go_enter Tryz.func92, Tryz.ntmps92
  go_wp2_with (fail)
  refine C.out.mono ?_
  rintro e w1 ⟨r, rfl, hr, hB⟩
  cases y
  · have hr' : r < 0 := by simpa using hr
    clear hr
    go_wp2_with (fail)
    go_ret
    exact ⟨ret_bool (by first | (simp; done) | (simp; omega)), hB⟩
  · have hr' : 0 ≤ r := by simpa using hr
    clear hr
    go_wp2_with (fail)
    go_ret
    exact ⟨ret_bool (by first | (simp; done) | (simp; omega)), hB⟩
theorem nSilent_any (pw : Nat) (nm : ByteArray) (t : Int) (A : Option Addr) (n cap : Nat) (l : List Sil) (w : World) (hn : n ≤ maxLen) (hc0 : w.cell? ⟨pw, 2, none⟩ = some (.slice A n cap)) (hl : Sl w w.heap.size Sil.cs 3 A n l) :
    Calls Tryz.prog 66 #[.pointer (some ⟨pw, 0, none⟩), .string nm, .int .i64 t] w fun e w' => e = .returned (.bool (silB nm t l)) ∧ Below w.heap.size w w' := by
  have hb := (((Below.refl w.heap.size w).alloc (Nat.le_refl _) (.cells #[.string nm] 9)).alloc (by simp) (.cells #[.int .i64 t] 3))
  have HB := hide hb
  have HC := hide (nSilCon_any A n cap l nm t w.heap.size (w.heap.size + 1) ((w.alloc (.cells #[.string nm] 9)).alloc (.cells #[.int .i64 t] 3)) hn ((hl.below hb).more (by simp; omega)) (by
    have h := block_below (heap_alloc_new w (.cells #[.string nm] 9)) ((Below.refl _ _).alloc (Nat.le_refl _) (.cells #[.int .i64 t] 3))
    exact (block_cell h 0).trans rfl) (by
    have h := heap_alloc_new (w.alloc (.cells #[.string nm] 9)) (.cells #[.int .i64 t] 3)
    have e : (w.alloc (.cells #[.string nm] 9)).heap.size = w.heap.size + 1 := by simp
    rw [e] at h
    exact (block_cell h 0).trans rfl))
  have hpw := World.block_lt_of_cell? w _ hc0
  simp only at hpw
  clear hl hb
  go_enter Tryz.func66, Tryz.ntmps66
  go_wp2_with (go_at_call 92; refine HC.out.mono ?_; rintro e w1 ⟨rfl, hw1⟩; have hB1 := HB.out.trans (hw1.mono (by simp; omega)))
  go_ret
  exact ⟨rfl, hB1⟩
end Go.Proofs.YtkkhjlomicokgaaGreatDoor.al