/- A book in memory; Take. -/
import Derived.Test.YtapfcnfmonknjaaGreatDoorBkM
import Derived.Test.YtapfcnfmonknjaaGreatDoorNames
import Derived.Test.YtapfcnfmonknjaaGreatDoorKeepP
import Derived.Test.YtapfcnfmonknjaaGreatDoorRegChain
import Derived.Maps.OwnOps
import Derived.Sort.EncStr
namespace Go.Proofs.YtapfcnfmonknjaaGreatDoor.Bk
open Go.RowKit Go.Maps Go.Sort
set_option linter.unusedVariables false
set_option linter.unusedSimpArgs false
def outB (n lo hi : Int) : Bool := decide (n < lo) || decide (hi < n)
theorem outside_any (n lo hi : Int) (w : World) :
    Calls Tryz.prog 24 #[.int .i64 n, .int .i64 lo, .int .i64 hi] w fun e w' => e = .returned (.bool (outB n lo hi)) ∧ w = w' := by
  go_enter Tryz.func24, Tryz.ntmps24
  go_wp2
  all_goals go_ret
  all_goals (exact ⟨ret_bool (by simp [outB, *]), rfl⟩)
def hexC : ByteArray := ⟨#[48, 49, 50, 51, 52, 53, 54, 55, 56, 57, 97, 98, 99, 100, 101, 102]⟩
def isP (s : ByteArray) : Bool := decide (s.size = 16) && s.data.toList.all fun c => hexC.data.toList.contains c
theorem trimH (s : ByteArray) (w : World) (hs : s.size ≤ maxLen) :
    Calls Tryz.prog 23 #[.string s, .string hexC] w fun e w' => e = .returned (.string ⟨(Lib.trimS s.data.toList hexC.data.toList).toArray⟩) ∧ Below w.heap.size w w' :=
  Any.strings_Trim_laid Tryz.lays160 info_set s hexC w (by unfold maxLen at hs; omega) (by decide) (ascii_of_all (by decide +kernel))
/-- The error that Take answers ahead of the map. -/
def tkE (p : ByteArray) (at_ wt : Int) : Int := if isP p = false then 1 else if (outB at_ 0 3155759999 || outB wt 1 1000000) = true then 2 else 0
set_option maxRecDepth 100000 in
set_option maxHeartbeats 4000000 in
theorem Take_bad (b : Nat) (p : ByteArray) (at_ wt : Int) (w : World) (hp : p.size ≤ maxLen) (he : tkE p at_ wt ≠ 0) :
    Calls Tryz.prog 5 #[.pointer (some ⟨b, 0, none⟩), .string p, .int .i64 at_, .int .i64 wt] w fun e w' => e = .returned (.tuple #[.int .i64 0, .bool false, .int .i64 (tkE p at_ wt)]) ∧ Below w.heap.size w w' := by
  have HT := hide (fun W => trimH p W hp)
  unfold hexC at HT
  unfold maxLen at hp
  by_cases h1 : p.size = 16
  · have h1' : (p.size : Int) = 16 := by omega
    obtain ⟨t, ht⟩ : ∃ t : ByteArray, ⟨(Lib.trimS p.data.toList (⟨#[48, 49, 50, 51, 52, 53, 54, 55, 56, 57, 97, 98, 99, 100, 101, 102]⟩ : ByteArray).data.toList).toArray⟩ = t := ⟨_, rfl⟩
    have et : (t.toList = []) ↔ isP p = true := by
      rw [← ht, isP, decide_eq_true h1, Bool.true_and]
      have h9 := strnil (Lib.trimS p.data.toList hexC.data.toList)
      unfold hexC at h9
      rw [← trimS_nil]
      constructor
      · intro h; rw [h] at h9; exact of_decide_eq_true h9.symm
      · intro h
        unfold hexC at h
        rw [decide_eq_true h] at h9
        exact eq_of_beq h9
    rw [ht] at HT
    clear ht
    by_cases h2 : isP p = false
    · have et3 : ¬ t.toList = [] := fun e => by rw [et.1 e] at h2; cases h2
      have et2 : t.toList.isEmpty = false := by cases h : t.toList with
        | nil => exact absurd h et3
        | cons _ _ => rfl
      have E := hide (show tkE p at_ wt = 1 by rw [tkE, if_pos h2])
      clear et he h2
      go_enter Tryz.func5, Tryz.ntmps5
      go_wp2_with (first | (go_at_call 23; refine (HT.out _).mono ?_; rintro e w1 ⟨rfl, hw1⟩))
      refine bodyPost_ret (by simp [results, Tryz.results5, go_sem]; try rfl) rfl ?_
      exact ⟨by rw [E.out], hw1⟩
    · have h2' : isP p = true := by simpa using h2
      have et3 : t.toList = [] := et.2 h2'
      have et2 : t.toList.isEmpty = true := by rw [et3]; rfl
      have h3 : (outB at_ 0 3155759999 || outB wt 1 1000000) = true := by
        rw [tkE, if_neg h2] at he
        exact Decidable.byContradiction fun h => he (if_neg h)
      have E := hide (show tkE p at_ wt = 2 by rw [tkE, if_neg h2, if_pos h3])
      clear et he h2 h2'
      cases h4 : outB at_ 0 3155759999
      · rw [h4, Bool.false_or] at h3
        have O1 := hide (fun W => h4 ▸ outside_any at_ 0 3155759999 W)
        have O2 := hide (fun W => h3 ▸ outside_any wt 1 1000000 W)
        clear h3 h4
        go_enter Tryz.func5, Tryz.ntmps5
        go_wp2_with (first | (go_at_call 23; refine (HT.out _).mono ?_; rintro e w1 ⟨rfl, hw1⟩) | (go_at_call 24; with_reducible refine (O1.out _).mono ?_; rintro e w2 ⟨rfl, rfl⟩) | (go_at_call 24; with_reducible refine (O2.out _).mono ?_; rintro e w3 ⟨rfl, rfl⟩))
        refine bodyPost_ret (by simp [results, Tryz.results5, go_sem]; try rfl) rfl ?_
        exact ⟨by rw [E.out], hw1⟩
      · have O1 := hide (fun W => h4 ▸ outside_any at_ 0 3155759999 W)
        clear h3 h4
        go_enter Tryz.func5, Tryz.ntmps5
        go_wp2_with (first | (go_at_call 23; refine (HT.out _).mono ?_; rintro e w1 ⟨rfl, hw1⟩) | (go_at_call 24; with_reducible refine (O1.out _).mono ?_; rintro e w2 ⟨rfl, rfl⟩))
        refine bodyPost_ret (by simp [results, Tryz.results5, go_sem]; try rfl) rfl ?_
        exact ⟨by rw [E.out], hw1⟩
  · have h1' : ¬ (p.size : Int) = 16 := by omega
    have E := hide (show tkE p at_ wt = 1 by rw [tkE, if_pos (by rw [isP, decide_eq_false h1]; rfl)])
    clear he
    go_enter Tryz.func5, Tryz.ntmps5
    go_wp2_with (fail)
    refine bodyPost_ret (by simp [results, Tryz.results5, go_sem]; try rfl) rfl ?_
    exact ⟨by rw [E.out], Below.refl _ _⟩
theorem law_s : Keyed Tryz.prog 9 := string_keyed Tryz.underlying9
theorem key_s (s : ByteArray) (h : s.size ≤ maxLen) : keyOf Tryz.prog 9 (.string s) = some (.string s.data.toList) := Go.WideMaps.keyOf_string_mk Tryz.underlying9 h
theorem zero_c (w : World) : (zeroValue 58).run Tryz.prog w = .ok (.pointer none) w := by kernel_rfl
theorem grown_b {w w' : World} (h : Below w.heap.size w w') : w.grownBy w' none := ⟨h.os, h.tape, h.output, h.size, fun k hk _ => h.block k hk⟩
def Pr.cs (r : Pr) : List Value := [.int .i64 r.g, .int .i64 r.ev, .int .i64 r.wt, .int .i64 r.fi, .int .i64 r.la]
/-- The book over l lies in w. -/
structure BM (B : Nat) (w : World) (p mb mn : Nat) (last : Int) (sv : Value) (l : List Pr) (bk : List UInt8 → Nat) : Prop where
  box : w.heap[p]? = some (.cells #[.map (some mb), .int .i64 last, sv] 55 (0, 0))
  map : ∃ D, w.ownsMap Tryz.prog 9 ptE mb mn D ∧ MapK Lit.string (l.map Pr.p) bk D
  cell : ∀ r ∈ l, w.heap[bk r.p]? = some (.cells r.cs.toArray 60 (0, 0))
  inj : ∀ r ∈ l, ∀ s ∈ l, bk r.p = bk s.p → r = s
  lo : ∀ r ∈ l, B ≤ bk r.p
  pl : B ≤ p
  ml : B ≤ mb
/-- The blocks of a book. -/
def BB (p mb : Nat) (l : List Pr) (bk : List UInt8 → Nat) (k : Nat) : Prop := k = p ∨ k = mb ∨ ∃ r ∈ l, k = bk r.p
section
variable {B p mb mn : Nat} {last : Int} {sv : Value} {l : List Pr} {bk : List UInt8 → Nat} {w w' : World}
theorem owns_stay {k b n : Nat} {D : DataW Unit} {R : Value → Option (DataW Unit × List MemPlace)} (h : w.ownsMap Tryz.prog k R b n D) (e : ∀ o, w.heap[b]? = some o → w'.heap[b]? = some o) : w'.ownsMap Tryz.prog k R b n D := by
  obtain ⟨es, ck, h1, h2⟩ := h
  exact ⟨es, ck, e _ h1, h2⟩
theorem BM.keep (h : BM B w p mb mn last sv l bk) (hk : ∀ k o, BB p mb l bk k → w.heap[k]? = some o → w'.heap[k]? = some o) : BM B w' p mb mn last sv l bk := by
  obtain ⟨D, h1, h2⟩ := h.map
  exact ⟨hk p _ (.inl rfl) h.box, ⟨D, owns_stay h1 (fun o => hk mb o (.inr (.inl rfl))), h2⟩, fun r hr => hk _ _ (.inr (.inr ⟨r, hr, rfl⟩)) (h.cell r hr), h.inj, h.lo, h.pl, h.ml⟩
theorem BM.below (h : BM B w p mb mn last sv l bk) (hb : Below w.heap.size w w') : BM B w' p mb mn last sv l bk := h.keep fun k o _ e => block_below e hb
theorem BM.lt (h : BM B w p mb mn last sv l bk) {k : Nat} (hk : BB p mb l bk k) : k < w.heap.size := by
  obtain ⟨D, h1, h2⟩ := h.map
  rcases hk with rfl | rfl | ⟨r, hr, rfl⟩
  · exact lt_of_block h.box
  · exact h1.lt
  · exact lt_of_block (h.cell r hr)
theorem BM.ge (h : BM B w p mb mn last sv l bk) {k : Nat} (hk : BB p mb l bk k) : B ≤ k := by
  rcases hk with rfl | rfl | ⟨r, hr, rfl⟩
  · exact h.pl
  · exact h.ml
  · exact h.lo r hr
theorem BM.pm (h : BM B w p mb mn last sv l bk) : mb ≠ p := by
  obtain ⟨D, ⟨es, ck, h1, _⟩, h2⟩ := h.map
  exact fun e => by rw [e, h.box] at h1; cases h1
theorem BM.pc (h : BM B w p mb mn last sv l bk) {r : Pr} (hr : r ∈ l) : bk r.p ≠ p ∧ bk r.p ≠ mb := by
  obtain ⟨D, ⟨es, ck, h1, _⟩, h2⟩ := h.map
  have h3 := h.cell r hr
  exact ⟨fun e => (by rw [e, h.box] at h3; cases h3), fun e => (by rw [e, h1] at h3; cases h3)⟩
end
/-- One more event of a print that is known. -/
def upR (at_ wt : Int) (r : Pr) : Pr := { r with ev := r.ev + 1, wt := r.wt + wt, fi := min r.fi at_, la := max r.la at_ }
def upP (s : List UInt8) (at_ wt : Int) (l : List Pr) : List Pr := l.map fun r => if r.p = s then upR at_ wt r else r
theorem upP_keys (s : List UInt8) (at_ wt : Int) (l : List Pr) : (upP s at_ wt l).map Pr.p = l.map Pr.p := by
  rw [upP, List.map_map]
  refine List.map_congr_left fun r _ => ?_
  simp only [Function.comp_apply]
  split <;> rfl
theorem BM.old {B p mb mn : Nat} {last : Int} {sv : Value} {l : List Pr} {bk : List UInt8 → Nat} {w w' : World} (h : BM B w p mb mn last sv l bk) {r : Pr} (hr : r ∈ l) (at_ wt : Int)
    (hblk : w'.heap[bk r.p]? = some (.cells (upR at_ wt r).cs.toArray 60 (0, 0))) (ho : ∀ k o, w.heap[k]? = some o → k ≠ bk r.p → w'.heap[k]? = some o) : BM B w' p mb mn last sv (upP r.p at_ wt l) bk := by
  obtain ⟨D, h1, h2⟩ := h.map
  have hin : ∀ y ∈ upP r.p at_ wt l, ∃ x ∈ l, y.p = x.p ∧ ((x = r ∧ y = upR at_ wt r) ∨ (x.p ≠ r.p ∧ y = x)) := fun y hy => by
    obtain ⟨x, hx, rfl⟩ := List.mem_map.1 hy
    refine ⟨x, hx, by split <;> rfl, ?_⟩
    by_cases e : x.p = r.p
    · obtain rfl := h.inj x hx r hr (by rw [e])
      exact .inl ⟨rfl, by rw [if_pos rfl]⟩
    · exact .inr ⟨e, by rw [if_neg e]⟩
  refine ⟨ho p _ h.box (h.pc hr).1.symm, ⟨D, owns_stay h1 (fun o e => ho mb o e (h.pc hr).2.symm), by rw [upP_keys]; exact h2⟩, fun y hy => ?_, fun y hy z hz e => ?_, fun y hy => ?_, h.pl, h.ml⟩
  · obtain ⟨x, hx, e, c | c⟩ := hin y hy
    · rw [c.2]; exact hblk
    · rw [c.2]
      exact ho _ _ (h.cell x hx) (fun e2 => c.1 (by rw [h.inj x hx r hr e2]))
  · obtain ⟨x, hx, ex, cx⟩ := hin y hy
    obtain ⟨u, hu, eu, cu⟩ := hin z hz
    rw [ex, eu] at e
    have exu := h.inj x hx u hu e
    subst exu
    rcases cx with c | c
    · rcases cu with d | d
      · rw [c.2, d.2]
      · exact absurd (by rw [c.1]) d.1
    · rcases cu with d | d
      · exact absurd (by rw [d.1]) c.1
      · rw [c.2, d.2]
  · obtain ⟨x, hx, e, _⟩ := hin y hy
    rw [e]; exact h.lo x hx
theorem trim0 {s : ByteArray} (hp : s.size ≤ maxLen) (h : isP s = true) (W : World) :
    Calls Tryz.prog 23 #[.string s, .string ⟨#[48, 49, 50, 51, 52, 53, 54, 55, 56, 57, 97, 98, 99, 100, 101, 102]⟩] W fun e w' => e = .returned (.string ⟨#[]⟩) ∧ Below W.heap.size W w' := by
  have h1 := trimH s W hp
  have e : Lib.trimS s.data.toList hexC.data.toList = [] := by
    rw [trimS_nil]
    rw [isP, Bool.and_eq_true] at h
    exact h.2
  rw [e] at h1
  exact h1
theorem tkE_ok {s : ByteArray} {at_ wt : Int} (h : tkE s at_ wt = 0) : isP s = true ∧ outB at_ 0 3155759999 = false ∧ outB wt 1 1000000 = false := by
  unfold tkE at h
  split at h
  · cases h
  · rename_i h1
    split at h
    · cases h
    · rename_i h2
      rw [Bool.or_eq_true, not_or] at h2
      exact ⟨by simpa using h1, by simpa using h2.1, by simpa using h2.2⟩
theorem isP_size {s : ByteArray} (h : isP s = true) : s.size = 16 := by
  rw [isP, Bool.and_eq_true] at h
  exact of_decide_eq_true h.1
set_option maxRecDepth 100000 in
set_option maxHeartbeats 8000000 in
theorem Take_old {B p mb mn : Nat} {last : Int} {sv : Value} {l : List Pr} {bk : List UInt8 → Nat} {w : World} (h : BM B w p mb mn last sv l bk) (s : ByteArray) (at_ wt : Int) (hE : tkE s at_ wt = 0) (r : Pr) (hr : r ∈ l) (hrp : r.p = s.data.toList)
    (hb1 : 0 ≤ r.ev ∧ r.ev ≤ 1000000) (hb2 : 0 ≤ r.wt ∧ r.wt ≤ 1000000000000) (hBz : B ≤ w.heap.size) :
    Calls Tryz.prog 5 #[.pointer (some ⟨p, 0, none⟩), .string s, .int .i64 at_, .int .i64 wt] w fun e w' => e = .returned (.tuple #[.int .i64 r.g, .bool false, .int .i64 0]) ∧
      BM B w' p mb mn last sv (upP s.data.toList at_ wt l) bk ∧ Keep B (fun k => k = bk r.p) w w' := by
  obtain ⟨e1, e2, e3⟩ := tkE_ok hE
  have h16 := isP_size e1
  have h16' : (s.size : Int) = 16 := by omega
  have hsm : s.size ≤ maxLen := by rw [h16]; decide
  have HT := hide (fun W => trim0 hsm e1 W)
  have O1 := hide (fun W => e2 ▸ outside_any at_ 0 3155759999 W)
  have O2 := hide (fun W => e3 ▸ outside_any wt 1 1000000 W)
  have hwt : 1 ≤ wt ∧ wt ≤ 1000000 := by simp [outB] at e3; omega
  have HKY := hide (key_s s hsm)
  obtain ⟨k, hk⟩ : ∃ k, bk r.p = k := ⟨_, rfl⟩
  have HH := hide h
  have HR := hide hr
  have HRP := hide hrp
  have HK := hide hk
  obtain ⟨rp, rg, rv, rw_, rf, rl⟩ := r

  simp only at hb1 hb2
  clear h hE e1 e2 e3 hr hk h16 hrp
  go_enter Tryz.func5, Tryz.ntmps5
  go_wp2_with (first
    | (go_at_call 23; refine (HT.out _).mono ?_; rintro e w1 ⟨rfl, hw1⟩; have HB1 := hide hw1; have HM := hide (HH.out.below hw1); have x0 : w1.cell? ⟨p, 0, none⟩ = some (.map (some mb)) := (block_cell HM.out.box 0).trans rfl; have HMP := hide HM.out.map; have HC := hide (show w1.heap[k]? = some (.cells #[.int .i64 rg, .int .i64 rv, .int .i64 rw_, .int .i64 rf, .int .i64 rl] 60 (0, 0)) from HK.out ▸ HM.out.cell _ HR.out); have c0 : w1.cell? ⟨k, 0, none⟩ = some (.int .i64 rg) := (block_cell HC.out 0).trans rfl; have c1 : w1.cell? ⟨k, 1, none⟩ = some (.int .i64 rv) := (block_cell HC.out 1).trans rfl; have c2 : w1.cell? ⟨k, 2, none⟩ = some (.int .i64 rw_) := (block_cell HC.out 2).trans rfl; have c3 : w1.cell? ⟨k, 3, none⟩ = some (.int .i64 rf) := (block_cell HC.out 3).trans rfl; have c4 : w1.cell? ⟨k, 4, none⟩ = some (.int .i64 rl) := (block_cell HC.out 4).trans rfl; have f1 := block_free HC.out 1; have f2 := block_free HC.out 2; have f3 := block_free HC.out 3; have f4 := block_free HC.out 4; clear hw1)
    | (go_at_call 24; with_reducible refine (O1.out _).mono ?_; rintro e w2 ⟨rfl, rfl⟩) | (go_at_call 24; with_reducible refine (O2.out _).mono ?_; rintro e w3 ⟨rfl, rfl⟩)
    | (at_lookup; obtain ⟨D, hown, hmk⟩ := HMP.out; refine wpList_lookup_some _ rfl _ _ 53 rfl 9 58 law_s Tryz.underlying53 (zero_c _) mb mn D rfl hown (.string s) _ rfl HKY.out k (fun z => by rw [← HRP.out, hmk.in_ _ (List.mem_map.2 ⟨_, HR.out, rfl⟩), HK.out]) ?_; clear hown hmk))
  obtain ⟨w2, hw2⟩ : ∃ w2, (w1.setCell ⟨k, 1, none⟩ (.int .i64 (rv + 1))).setCell ⟨k, 2, none⟩ (.int .i64 (rw_ + wt)) = w2 := ⟨_, rfl⟩
  have HC2 := hide (show w2.heap[k]? = some (.cells #[.int .i64 rg, .int .i64 (rv + 1), .int .i64 (rw_ + wt), .int .i64 rf, .int .i64 rl] 60 (0, 0)) from hw2 ▸ block_set (block_set HC.out _) _)
  have HS0 := hide (show ∀ V, Below w2.heap.size w2 V → (fun V => V.cell? ⟨k, 3, none⟩ = some (.int .i64 rf) ∧ V.cell? ⟨k, 4, none⟩ = some (.int .i64 rl)) V from fun V hb => ⟨(block_cell (block_below HC2.out hb) 3).trans rfl, (block_cell (block_below HC2.out hb) 4).trans rfl⟩)
  refine wp_region_chain (fun V => V.cell? ⟨k, 3, none⟩ = some (.int .i64 rf) ∧ V.cell? ⟨k, 4, none⟩ = some (.int .i64 rl)) 14 (by as_aux_lemma => kernel_rfl) (N := 20) (by as_aux_lemma => kernel_rfl) ?_; intro hsh
  rw [hw2]
  have HS := HS0.out w2.drew (below_drewN (Below.refl _ _) 1)
  refine wpAnyC_take0 (i := 0) (k := 14) (v := ?_) (d := some 80) rfl (by rfl) (by as_aux_lemma => kernel_rfl) (by as_aux_lemma => kernel_rfl) (by as_aux_lemma => kernel_rfl) hsh (by decide) (by intro _ _ _ h; exact h) (by assumption) (Or.inl ⟨by rfl, ?hy⟩) ?_; (case hy => (intro W _; go_simp; (try with_reducible rfl))); clear hsh; intro hsh
  refine wpAnyC_take0 (i := 1) (k := 14) (v := ?_) (d := some 81) rfl (by rfl) (by as_aux_lemma => kernel_rfl) (by as_aux_lemma => kernel_rfl) (by as_aux_lemma => kernel_rfl) hsh (by decide) (by intro _ _ _ h; exact h) (by assumption) (Or.inl ⟨by rfl, ?hy⟩) ?_; (case hy => (intro W _; go_simp; (try with_reducible rfl))); clear hsh; intro hsh
  refine wpAnyC_take0 (i := 2) (k := 14) (v := ?_) (d := some 82) rfl (by rfl) (by as_aux_lemma => kernel_rfl) (by as_aux_lemma => kernel_rfl) (by as_aux_lemma => kernel_rfl) hsh (by decide) (by intro _ _ _ h; exact h) (by assumption) (Or.inl ⟨by rfl, ?hy⟩) ?_; (case hy => (intro W _; go_simp; (try with_reducible rfl))); clear hsh; intro hsh
  refine wpAnyC_take0 (i := 3) (k := 14) (v := ?_) (d := some 83) rfl (by rfl) (by as_aux_lemma => kernel_rfl) (by as_aux_lemma => kernel_rfl) (by as_aux_lemma => kernel_rfl) hsh (by decide) (by intro _ _ _ h; exact h) (by assumption) (Or.inl ⟨by rfl, ?hy⟩) ?_; (case hy => (intro W _; go_simp; (try with_reducible rfl))); clear hsh; intro hsh
  refine wpAnyC_take0 (i := 4) (k := 14) (v := ?_) (d := some 84) rfl (by rfl) (by as_aux_lemma => kernel_rfl) (by as_aux_lemma => kernel_rfl) (by as_aux_lemma => kernel_rfl) hsh (by decide) (by intro _ _ _ h; exact h) (by assumption) (Or.inl ⟨by rfl, ?hy⟩) ?_; (case hy => (intro W _; go_simp; (try with_reducible rfl))); clear hsh; intro hsh
  refine wpAnyC_take (i := 5) (k := 14) (f := 40) (v := ?_) (d := some 85) rfl (by rfl) (by as_aux_lemma => kernel_rfl) (by as_aux_lemma => kernel_rfl) (by as_aux_lemma => kernel_rfl) hsh (by decide) (by as_aux_lemma => kernel_rfl) (by intro _ _ _ h; exact h) (by assumption) (Or.inl ⟨by rfl, ?hy⟩) ?_; (case hy => (rintro W ⟨a3, a4⟩; go_simp; (try with_reducible rfl))); clear hsh; intro hsh
  refine wpAnyC_take0 (i := 6) (k := 14) (v := ?_) (d := some 86) rfl (by rfl) (by as_aux_lemma => kernel_rfl) (by as_aux_lemma => kernel_rfl) (by as_aux_lemma => kernel_rfl) hsh (by decide) (by intro _ _ _ h; exact h) (by assumption) (Or.inl ⟨by rfl, ?hy⟩) ?_; (case hy => (intro W _; go_simp; (try with_reducible rfl))); clear hsh; intro hsh
  refine wpAnyC_take0 (i := 7) (k := 14) (v := ?_) (d := some 87) rfl (by rfl) (by as_aux_lemma => kernel_rfl) (by as_aux_lemma => kernel_rfl) (by as_aux_lemma => kernel_rfl) hsh (by decide) (by intro _ _ _ h; exact h) (by assumption) (Or.inl ⟨by rfl, ?hy⟩) ?_; (case hy => (intro W _; go_simp; (try with_reducible rfl))); clear hsh; intro hsh
  refine wpAnyC_take0 (i := 8) (k := 14) (v := ?_) (d := some 88) rfl (by rfl) (by as_aux_lemma => kernel_rfl) (by as_aux_lemma => kernel_rfl) (by as_aux_lemma => kernel_rfl) hsh (by decide) (by intro _ _ _ h; exact h) (by assumption) (Or.inl ⟨by rfl, ?hy⟩) ?_; (case hy => (intro W _; go_simp; (try with_reducible rfl))); clear hsh; intro hsh
  refine wpAnyC_take0 (i := 9) (k := 14) (v := ?_) (d := some 89) rfl (by rfl) (by as_aux_lemma => kernel_rfl) (by as_aux_lemma => kernel_rfl) (by as_aux_lemma => kernel_rfl) hsh (by decide) (by intro _ _ _ h; exact h) (by assumption) (Or.inl ⟨by rfl, ?hy⟩) ?_; (case hy => (intro W _; go_simp; (try with_reducible rfl))); clear hsh; intro hsh
  refine wpAnyC_take0 (i := 10) (k := 14) (v := ?_) (d := some 90) rfl (by rfl) (by as_aux_lemma => kernel_rfl) (by as_aux_lemma => kernel_rfl) (by as_aux_lemma => kernel_rfl) hsh (by decide) (by intro _ _ _ h; exact h) (by assumption) (Or.inl ⟨by rfl, ?hy⟩) ?_; (case hy => (intro W _; go_simp; (try with_reducible rfl))); clear hsh; intro hsh
  refine wpAnyC_take (i := 11) (k := 14) (f := 40) (v := ?_) (d := some 91) rfl (by rfl) (by as_aux_lemma => kernel_rfl) (by as_aux_lemma => kernel_rfl) (by as_aux_lemma => kernel_rfl) hsh (by decide) (by as_aux_lemma => kernel_rfl) (by intro _ _ _ h; exact h) (by assumption) (Or.inl ⟨by rfl, ?hy⟩) ?_; (case hy => (rintro W ⟨a3, a4⟩; go_simp; (try with_reducible rfl))); clear hsh; intro hsh
  refine wpAnyC_take0 (i := 12) (k := 14) (v := ?_) (d := some 92) rfl (by rfl) (by as_aux_lemma => kernel_rfl) (by as_aux_lemma => kernel_rfl) (by as_aux_lemma => kernel_rfl) hsh (by decide) (by intro _ _ _ h; exact h) (by assumption) (Or.inl ⟨by rfl, ?hy⟩) ?_; (case hy => (intro W _; go_simp; (try with_reducible rfl))); clear hsh; intro hsh
  refine wpAnyC_take0 (i := 13) (k := 14) (v := ?_) (d := some 93) rfl (by rfl) (by as_aux_lemma => kernel_rfl) (by as_aux_lemma => kernel_rfl) (by as_aux_lemma => kernel_rfl) hsh (by decide) (by intro _ _ _ h; exact h) (by assumption) (Or.inl ⟨by rfl, ?hy⟩) ?_; (case hy => (intro W _; go_simp; (try with_reducible rfl))); clear hsh; intro hsh
  refine wpAnyC_tail (by as_aux_lemma => kernel_rfl) (by simp) (by as_aux_lemma => kernel_rfl) ?_; simp only [List.drop_succ_cons, List.drop_zero]; clear hsh
  go_simp
  have g3 : w2.frozen? ⟨k, 3, none⟩ = false := block_free HC2.out 3
  have g4 : w2.frozen? ⟨k, 4, none⟩ = false := block_free HC2.out 4
  have g0 : w2.cell? ⟨k, 0, none⟩ = some (.int .i64 rg) := (block_cell HC2.out 0).trans rfl
  have g5 : w2.cell? ⟨k, 3, none⟩ = some (.int .i64 rf) := (block_cell HC2.out 3).trans rfl
  have g6 : w2.cell? ⟨k, 4, none⟩ = some (.int .i64 rl) := (block_cell HC2.out 4).trans rfl
  go_wp2_with (fail)
  refine bodyPost_ret (by simp [results, Tryz.results5, go_sem]; try rfl) rfl ?_
  have hB2 := HB1.out
  have hko : ∀ i o, w1.heap[i]? = some o → i ≠ k → ((w2.setCell ⟨k, 3, none⟩ (.int .i64 (min rf at_))).setCell ⟨k, 4, none⟩ (.int .i64 (max rl at_))).drew.heap[i]? = some o := fun i o e ne => by
    rw [← hw2]
    exact block_set_other (block_set_other (block_set_other (block_set_other e _ _ ne) _ _ ne) _ _ ne) _ _ ne
  have hBk : B ≤ k := by have := HM.out.lo _ HR.out; rw [HK.out] at this; exact this
  have hfin : (((w2.setCell ⟨k, 3, none⟩ (.int .i64 (min rf at_))).setCell ⟨k, 4, none⟩ (.int .i64 (max rl at_))).drew).heap[k]? = some (.cells #[.int .i64 rg, .int .i64 (rv + 1), .int .i64 (rw_ + wt), .int .i64 (min rf at_), .int .i64 (max rl at_)] 60 (0, 0)) := block_set (block_set HC2.out _) _
  have hBM : BM B _ p mb mn last sv (upP rp at_ wt l) bk := BM.old HM.out HR.out at_ wt (by rw [HK.out]; exact hfin) (by rw [HK.out]; exact hko)
  rw [HRP.out] at hBM
  refine ⟨rfl, hBM, ?_⟩
  refine (Keep.of_below hB2 hBz).trans ⟨?_, fun i o e ne => hko i o e (fun e2 => ne (by rw [e2, HK.out]))⟩
  rw [← hw2]
  exact (((((Below.refl B w1).setCell (p := ⟨k, 1, none⟩) hBk _).setCell (p := ⟨k, 2, none⟩) hBk _).setCell (p := ⟨k, 3, none⟩) hBk _).setCell (p := ⟨k, 4, none⟩) hBk _).drew
def newR (s : List UInt8) (last at_ wt : Int) : Pr := ⟨s, last + 1, 1, wt, at_, at_⟩
theorem BM.new {B p mb mn : Nat} {last : Int} {sv : Value} {l : List Pr} {bk : List UInt8 → Nat} {w w' : World} (h : BM B w p mb mn last sv l bk) {s : List UInt8} (hs : s ∉ l.map Pr.p) (at_ wt : Int) {k : Nat} {D : DataW Unit}
    (hown : w.ownsMap Tryz.prog 9 ptE mb mn D) (hD : MapK Lit.string (l.map Pr.p) bk D) (hk : w.heap.size ≤ k) (hBk : B ≤ k)
    (hbox : w'.heap[p]? = some (.cells #[.map (some mb), .int .i64 (last + 1), sv] 55 (0, 0)))
    (hmap : w'.ownsMap Tryz.prog 9 ptE mb (mn + 1) (D.put (.string s) (.lit (.int .i64 (k : Int)))))
    (hblk : w'.heap[k]? = some (.cells (newR s last at_ wt).cs.toArray 60 (0, 0))) (ho : ∀ k o, w.heap[k]? = some o → k ≠ p → k ≠ mb → w'.heap[k]? = some o) :
    BM B w' p mb (mn + 1) (last + 1) sv (l ++ [newR s last at_ wt]) (fun y => if y = s then k else bk y) := by
  have hne : ∀ x ∈ l, x.p ≠ s := fun x hx e => hs (List.mem_map.2 ⟨x, hx, e⟩)
  have hbk : ∀ x ∈ l, (if x.p = s then k else bk x.p) = bk x.p := fun x hx => if_neg (hne x hx)
  have hlt : ∀ x ∈ l, bk x.p < k := fun x hx => Nat.lt_of_lt_of_le (lt_of_block (h.cell x hx)) hk
  refine ⟨hbox, ⟨_, hmap, ?_⟩, fun r hr => ?_, fun r hr x hx e => ?_, fun r hr => ?_, h.pl, h.ml⟩
  · rw [List.map_append]
    exact hD.put enc_str hs trivial (hown.tidy law_s) k
  · rcases List.mem_append.1 hr with hr | hr
    · try dsimp only
      rw [hbk r hr]
      exact ho _ _ (h.cell r hr) (h.pc hr).1 (h.pc hr).2
    · obtain rfl : r = newR s last at_ wt := by simpa using hr
      show w'.heap[if s = s then k else _]? = _
      rw [if_pos rfl]
      exact hblk
  · try dsimp only at e
    rcases List.mem_append.1 hr with hr | hr
    · rcases List.mem_append.1 hx with hx | hx
      · rw [hbk r hr, hbk x hx] at e
        exact h.inj r hr x hx e
      · obtain rfl : x = newR s last at_ wt := by simpa using hx
        rw [hbk r hr, show (newR s last at_ wt).p = s from rfl, if_pos rfl] at e
        have := hlt r hr
        omega
    · obtain rfl : r = newR s last at_ wt := by simpa using hr
      rcases List.mem_append.1 hx with hx | hx
      · rw [hbk x hx, show (newR s last at_ wt).p = s from rfl, if_pos rfl] at e
        have := hlt x hx
        omega
      · obtain rfl : x = newR s last at_ wt := by simpa using hx
        rfl
  · try dsimp only
    rcases List.mem_append.1 hr with hr | hr
    · rw [hbk r hr]; exact h.lo r hr
    · obtain rfl : r = newR s last at_ wt := by simpa using hr
      rw [show (newR s last at_ wt).p = s from rfl, if_pos rfl]
      exact hBk
set_option maxRecDepth 100000 in
set_option maxHeartbeats 8000000 in
theorem Take_new {B p mb mn : Nat} {last : Int} {sv : Value} {l : List Pr} {bk : List UInt8 → Nat} {w : World} (h : BM B w p mb mn last sv l bk) (s : ByteArray) (at_ wt : Int) (hE : tkE s at_ wt = 0) (hs : s.data.toList ∉ l.map Pr.p)
    (hl : l.length < 1000) (hmn : mn < 1000000) (hla : 0 ≤ last ∧ last ≤ 1000000) (hBz : B ≤ w.heap.size) :
    Calls Tryz.prog 5 #[.pointer (some ⟨p, 0, none⟩), .string s, .int .i64 at_, .int .i64 wt] w fun e w' => e = .returned (.tuple #[.int .i64 (last + 1), .bool true, .int .i64 0]) ∧
      (∃ k, w.heap.size ≤ k ∧ BM B w' p mb (mn + 1) (last + 1) sv (l ++ [newR s.data.toList last at_ wt]) (fun y => if y = s.data.toList then k else bk y)) ∧ Keep B (fun k => k = p ∨ k = mb) w w' := by
  obtain ⟨e1, e2, e3⟩ := tkE_ok hE
  have h16 := isP_size e1
  have h16' : (s.size : Int) = 16 := by omega
  have hsm : s.size ≤ maxLen := by rw [h16]; decide
  have HT := hide (fun W => trim0 hsm e1 W)
  have O1 := hide (fun W => e2 ▸ outside_any at_ 0 3155759999 W)
  have O2 := hide (fun W => e3 ▸ outside_any wt 1 1000000 W)
  have hwt : 1 ≤ wt ∧ wt ≤ 1000000 := by simp [outB] at e3; omega
  have HKY := hide (key_s s hsm)
  obtain ⟨D, hD1, hD2⟩ := h.map
  have HNO := hide (hD2.out _ hs)
  have HSZ := hide (show (Maps.size D : Int) = (l.length : Int) by rw [hD2.sz, List.length_map])
  have HD1 := hide hD1
  have HD2 := hide hD2
  have HH := hide h
  have HS := hide hs
  have hll : (l.length : Int) < 1000 := by omega
  have HPM := hide h.pm
  clear h hE e1 e2 e3 h16 hs hD1 hD2 hl
  go_enter Tryz.func5, Tryz.ntmps5
  go_wp2_with (first
    | (go_at_call 23; refine (HT.out _).mono ?_; rintro e w1 ⟨rfl, hw1⟩; have HB1 := hide hw1; have HM := hide (HH.out.below hw1); have x0 : w1.cell? ⟨p, 0, none⟩ = some (.map (some mb)) := (block_cell HM.out.box 0).trans rfl; have x1 : w1.cell? ⟨p, 1, none⟩ = some (.int .i64 last) := (block_cell HM.out.box 1).trans rfl; have xf := block_free HM.out.box 1; have HMP := hide (HD1.out.kept (grown_b hw1) (by simp)); clear hw1)
    | (go_at_call 24; with_reducible refine (O1.out _).mono ?_; rintro e w2 ⟨rfl, rfl⟩) | (go_at_call 24; with_reducible refine (O2.out _).mono ?_; rintro e w3 ⟨rfl, rfl⟩)
    | (at_lookup; refine wpList_lookup_none _ rfl _ _ 53 rfl 9 58 law_s Tryz.underlying53 (zero_c _) mb mn D rfl HMP.out (.string s) _ rfl HKY.out HNO.out ?_)
    | (at_len; refine wpList_len_own _ rfl _ 53 rfl 9 58 Tryz.underlying53 ptE mb mn D rfl HMP.out ?_; rw [HSZ.out])
    | (at_mapUpdate; refine wpList_mapUpdate_own _ rfl (.tmp 62) (.tmp 63) (.tmp 64) 53 rfl 9 58 law_s Tryz.underlying53 ptE mb mn D rfl ((HMP.out.setCell HPM.out _).alloc _) (by unfold maxLen; omega) (.string s) (.pointer (some ⟨w1.heap.size, 0, none⟩)) _ rfl rfl HKY.out _ [] (ptE_mk (some w1.heap.size)) ?_; intro w5 hown5 hg5
       obtain ⟨wa, hwa⟩ : ∃ wa, (w1.setCell ⟨p, 1, none⟩ (.int .i64 (last + 1))).alloc (.cells #[.int .i64 (last + 1), .int .i64 0, .int .i64 0, .int .i64 at_, .int .i64 at_] 60) = wa := ⟨_, rfl⟩
       rw [hwa] at hg5
       have hsz : w1.heap.size < wa.heap.size := by rw [← hwa]; simp
       have HOWN := hide hown5; have HG5 := hide hg5; have HWA := hide hwa
       clear hown5 x1 xf
       have hA : wa.heap[w1.heap.size]? = some (.cells #[.int .i64 (last + 1), .int .i64 0, .int .i64 0, .int .i64 at_, .int .i64 at_] 60 (0, 0)) := by
         rw [← hwa]
         have h9 := heap_alloc_new (w1.setCell ⟨p, 1, none⟩ (.int .i64 (last + 1))) (.cells #[.int .i64 (last + 1), .int .i64 0, .int .i64 0, .int .i64 at_, .int .i64 at_] 60)
         simpa using h9
       have HC := hide (show w5.heap[w1.heap.size]? = some (.cells #[.int .i64 (last + 1), .int .i64 0, .int .i64 0, .int .i64 at_, .int .i64 at_] 60 (0, 0)) from (hg5.block _ hsz (fun e => by have := HMP.out.lt; cases e; omega)).trans hA)
       have hz5 := hg5.size
       clear hg5 hwa hA
       obtain ⟨k, hk⟩ : ∃ k, w1.heap.size = k := ⟨_, rfl⟩
       rw [hk] at HC hsz ⊢
       have HK := hide hk
       clear hk
       have c0 : w5.cell? ⟨k, 0, none⟩ = some (.int .i64 (last + 1)) := (block_cell HC.out 0).trans rfl
       have c1 : w5.cell? ⟨k, 1, none⟩ = some (.int .i64 0) := (block_cell HC.out 1).trans rfl
       have c2 : w5.cell? ⟨k, 2, none⟩ = some (.int .i64 0) := (block_cell HC.out 2).trans rfl
       have c3 : w5.cell? ⟨k, 3, none⟩ = some (.int .i64 at_) := (block_cell HC.out 3).trans rfl
       have c4 : w5.cell? ⟨k, 4, none⟩ = some (.int .i64 at_) := (block_cell HC.out 4).trans rfl
       have f1 := block_free HC.out 1; have f2 := block_free HC.out 2; have f3 := block_free HC.out 3; have f4 := block_free HC.out 4))
  obtain ⟨w2, hw2⟩ : ∃ w2, (w5.setCell ⟨k, 1, none⟩ (.int .i64 1)).setCell ⟨k, 2, none⟩ (.int .i64 wt) = w2 := ⟨_, rfl⟩
  have HC2 := hide (show w2.heap[k]? = some (.cells #[.int .i64 (last + 1), .int .i64 1, .int .i64 wt, .int .i64 at_, .int .i64 at_] 60 (0, 0)) from hw2 ▸ block_set (block_set HC.out _) _)
  have HS0 := hide (show ∀ V, Below w2.heap.size w2 V → (fun V => V.cell? ⟨k, 3, none⟩ = some (.int .i64 at_) ∧ V.cell? ⟨k, 4, none⟩ = some (.int .i64 at_)) V from fun V hb => ⟨(block_cell (block_below HC2.out hb) 3).trans rfl, (block_cell (block_below HC2.out hb) 4).trans rfl⟩)
  refine wp_region_chain (fun V => V.cell? ⟨k, 3, none⟩ = some (.int .i64 at_) ∧ V.cell? ⟨k, 4, none⟩ = some (.int .i64 at_)) 14 (by as_aux_lemma => kernel_rfl) (N := 20) (by as_aux_lemma => kernel_rfl) ?_; intro hsh
  rw [hw2]
  have HS1 := HS0.out w2.drew (below_drewN (Below.refl _ _) 1)
  refine wpAnyC_take0 (i := 0) (k := 14) (v := ?_) (d := some 80) rfl (by rfl) (by as_aux_lemma => kernel_rfl) (by as_aux_lemma => kernel_rfl) (by as_aux_lemma => kernel_rfl) hsh (by decide) (by intro _ _ _ h; exact h) (by assumption) (Or.inl ⟨by rfl, ?hy⟩) ?_; (case hy => (intro W _; go_simp; (try with_reducible rfl))); clear hsh; intro hsh
  refine wpAnyC_take0 (i := 1) (k := 14) (v := ?_) (d := some 81) rfl (by rfl) (by as_aux_lemma => kernel_rfl) (by as_aux_lemma => kernel_rfl) (by as_aux_lemma => kernel_rfl) hsh (by decide) (by intro _ _ _ h; exact h) (by assumption) (Or.inl ⟨by rfl, ?hy⟩) ?_; (case hy => (intro W _; go_simp; (try with_reducible rfl))); clear hsh; intro hsh
  refine wpAnyC_take0 (i := 2) (k := 14) (v := ?_) (d := some 82) rfl (by rfl) (by as_aux_lemma => kernel_rfl) (by as_aux_lemma => kernel_rfl) (by as_aux_lemma => kernel_rfl) hsh (by decide) (by intro _ _ _ h; exact h) (by assumption) (Or.inl ⟨by rfl, ?hy⟩) ?_; (case hy => (intro W _; go_simp; (try with_reducible rfl))); clear hsh; intro hsh
  refine wpAnyC_take0 (i := 3) (k := 14) (v := ?_) (d := some 83) rfl (by rfl) (by as_aux_lemma => kernel_rfl) (by as_aux_lemma => kernel_rfl) (by as_aux_lemma => kernel_rfl) hsh (by decide) (by intro _ _ _ h; exact h) (by assumption) (Or.inl ⟨by rfl, ?hy⟩) ?_; (case hy => (intro W _; go_simp; (try with_reducible rfl))); clear hsh; intro hsh
  refine wpAnyC_take0 (i := 4) (k := 14) (v := ?_) (d := some 84) rfl (by rfl) (by as_aux_lemma => kernel_rfl) (by as_aux_lemma => kernel_rfl) (by as_aux_lemma => kernel_rfl) hsh (by decide) (by intro _ _ _ h; exact h) (by assumption) (Or.inl ⟨by rfl, ?hy⟩) ?_; (case hy => (intro W _; go_simp; (try with_reducible rfl))); clear hsh; intro hsh
  refine wpAnyC_take (i := 5) (k := 14) (f := 40) (v := ?_) (d := some 85) rfl (by rfl) (by as_aux_lemma => kernel_rfl) (by as_aux_lemma => kernel_rfl) (by as_aux_lemma => kernel_rfl) hsh (by decide) (by as_aux_lemma => kernel_rfl) (by intro _ _ _ h; exact h) (by assumption) (Or.inl ⟨by rfl, ?hy⟩) ?_; (case hy => (rintro W ⟨a3, a4⟩; go_simp; (try with_reducible rfl))); clear hsh; intro hsh
  refine wpAnyC_take0 (i := 6) (k := 14) (v := ?_) (d := some 86) rfl (by rfl) (by as_aux_lemma => kernel_rfl) (by as_aux_lemma => kernel_rfl) (by as_aux_lemma => kernel_rfl) hsh (by decide) (by intro _ _ _ h; exact h) (by assumption) (Or.inl ⟨by rfl, ?hy⟩) ?_; (case hy => (intro W _; go_simp; (try with_reducible rfl))); clear hsh; intro hsh
  refine wpAnyC_take0 (i := 7) (k := 14) (v := ?_) (d := some 87) rfl (by rfl) (by as_aux_lemma => kernel_rfl) (by as_aux_lemma => kernel_rfl) (by as_aux_lemma => kernel_rfl) hsh (by decide) (by intro _ _ _ h; exact h) (by assumption) (Or.inl ⟨by rfl, ?hy⟩) ?_; (case hy => (intro W _; go_simp; (try with_reducible rfl))); clear hsh; intro hsh
  refine wpAnyC_take0 (i := 8) (k := 14) (v := ?_) (d := some 88) rfl (by rfl) (by as_aux_lemma => kernel_rfl) (by as_aux_lemma => kernel_rfl) (by as_aux_lemma => kernel_rfl) hsh (by decide) (by intro _ _ _ h; exact h) (by assumption) (Or.inl ⟨by rfl, ?hy⟩) ?_; (case hy => (intro W _; go_simp; (try with_reducible rfl))); clear hsh; intro hsh
  refine wpAnyC_take0 (i := 9) (k := 14) (v := ?_) (d := some 89) rfl (by rfl) (by as_aux_lemma => kernel_rfl) (by as_aux_lemma => kernel_rfl) (by as_aux_lemma => kernel_rfl) hsh (by decide) (by intro _ _ _ h; exact h) (by assumption) (Or.inl ⟨by rfl, ?hy⟩) ?_; (case hy => (intro W _; go_simp; (try with_reducible rfl))); clear hsh; intro hsh
  refine wpAnyC_take0 (i := 10) (k := 14) (v := ?_) (d := some 90) rfl (by rfl) (by as_aux_lemma => kernel_rfl) (by as_aux_lemma => kernel_rfl) (by as_aux_lemma => kernel_rfl) hsh (by decide) (by intro _ _ _ h; exact h) (by assumption) (Or.inl ⟨by rfl, ?hy⟩) ?_; (case hy => (intro W _; go_simp; (try with_reducible rfl))); clear hsh; intro hsh
  refine wpAnyC_take (i := 11) (k := 14) (f := 40) (v := ?_) (d := some 91) rfl (by rfl) (by as_aux_lemma => kernel_rfl) (by as_aux_lemma => kernel_rfl) (by as_aux_lemma => kernel_rfl) hsh (by decide) (by as_aux_lemma => kernel_rfl) (by intro _ _ _ h; exact h) (by assumption) (Or.inl ⟨by rfl, ?hy⟩) ?_; (case hy => (rintro W ⟨a3, a4⟩; go_simp; (try with_reducible rfl))); clear hsh; intro hsh
  refine wpAnyC_take0 (i := 12) (k := 14) (v := ?_) (d := some 92) rfl (by rfl) (by as_aux_lemma => kernel_rfl) (by as_aux_lemma => kernel_rfl) (by as_aux_lemma => kernel_rfl) hsh (by decide) (by intro _ _ _ h; exact h) (by assumption) (Or.inl ⟨by rfl, ?hy⟩) ?_; (case hy => (intro W _; go_simp; (try with_reducible rfl))); clear hsh; intro hsh
  refine wpAnyC_take0 (i := 13) (k := 14) (v := ?_) (d := some 93) rfl (by rfl) (by as_aux_lemma => kernel_rfl) (by as_aux_lemma => kernel_rfl) (by as_aux_lemma => kernel_rfl) hsh (by decide) (by intro _ _ _ h; exact h) (by assumption) (Or.inl ⟨by rfl, ?hy⟩) ?_; (case hy => (intro W _; go_simp; (try with_reducible rfl))); clear hsh; intro hsh
  refine wpAnyC_tail (by as_aux_lemma => kernel_rfl) (by simp) (by as_aux_lemma => kernel_rfl) ?_; simp only [List.drop_succ_cons, List.drop_zero]; clear hsh
  go_simp
  have g3 : w2.frozen? ⟨k, 3, none⟩ = false := block_free HC2.out 3
  have g4 : w2.frozen? ⟨k, 4, none⟩ = false := block_free HC2.out 4
  have g0 : w2.cell? ⟨k, 0, none⟩ = some (.int .i64 (last + 1)) := (block_cell HC2.out 0).trans rfl
  have g5 : w2.cell? ⟨k, 3, none⟩ = some (.int .i64 at_) := (block_cell HC2.out 3).trans rfl
  have g6 : w2.cell? ⟨k, 4, none⟩ = some (.int .i64 at_) := (block_cell HC2.out 4).trans rfl
  go_wp2_with (fail)
  refine bodyPost_ret (by simp [results, Tryz.results5, go_sem]; try rfl) rfl ?_
  have hkm : mb < k := by have := HMP.out.lt; have := HK.out; omega
  have hkp : p < k := by have := lt_of_block HM.out.box; have := HK.out; omega
  have hBk : B ≤ k := by have := HB1.out.size; have := HK.out; omega
  have hst : ∀ i o, w5.heap[i]? = some o → i ≠ k → ((w2.setCell ⟨k, 3, none⟩ (.int .i64 at_)).setCell ⟨k, 4, none⟩ (.int .i64 at_)).drew.heap[i]? = some o := fun i o e ne => by
    rw [← hw2]
    exact block_set_other (block_set_other (block_set_other (block_set_other e _ _ ne) _ _ ne) _ _ ne) _ _ ne
  have h15 : ∀ i o, i < w1.heap.size → i ≠ mb → wa.heap[i]? = some o → w5.heap[i]? = some o := fun i o hi hm e => (HG5.out.block i (lt_of_block e) (fun e2 => hm (by cases e2; rfl))).trans e
  have hal : ∀ i o, i < w1.heap.size → (w1.setCell ⟨p, 1, none⟩ (.int .i64 (last + 1))).heap[i]? = some o → wa.heap[i]? = some o := fun i o hi e => by
    rw [← HWA.out]
    exact block_below e ((Below.refl _ _).alloc (Nat.le_refl _) _)
  have hp1 : p < w1.heap.size := lt_of_block HM.out.box
  have hbox := hst p _ (h15 p _ hp1 HPM.out.symm (hal p _ hp1 (block_set HM.out.box _))) (by omega)
  have hko : ∀ i o, w1.heap[i]? = some o → i ≠ p → i ≠ mb → ((w2.setCell ⟨k, 3, none⟩ (.int .i64 at_)).setCell ⟨k, 4, none⟩ (.int .i64 at_)).drew.heap[i]? = some o := fun i o e hp hm => by
    have hi := lt_of_block e
    exact hst i o (h15 i o hi hm (hal i o hi (block_set_other e _ _ hp))) (by have := HK.out; omega)
  have hmap := owns_stay (w' := ((w2.setCell ⟨k, 3, none⟩ (.int .i64 at_)).setCell ⟨k, 4, none⟩ (.int .i64 at_)).drew) HOWN.out (fun o e => hst mb o e (by omega))
  rw [show ptI (some w1.heap.size) = (k : Int) from by rw [HK.out]; rfl] at hmap
  have hblk : (((w2.setCell ⟨k, 3, none⟩ (.int .i64 at_)).setCell ⟨k, 4, none⟩ (.int .i64 at_)).drew).heap[k]? = some (.cells (newR s.data.toList last at_ wt).cs.toArray 60 (0, 0)) := block_set (block_set HC2.out _) _
  refine ⟨rfl, ⟨k, by have := HB1.out.size; have := HK.out; omega, BM.new HM.out HS.out at_ wt HMP.out HD2.out (by have := HK.out; omega) hBk hbox hmap hblk hko⟩, ?_⟩
  refine (Keep.of_below HB1.out hBz).trans ⟨?_, fun i o e ne => hko i o e (fun e2 => ne (.inl e2)) (fun e2 => ne (.inr e2))⟩
  rw [← hw2]
  have hb5 : Below B w1 w5 := ((((Below.refl B w1).setCell (p := ⟨p, 1, none⟩) HM.out.pl (.int .i64 (last + 1))).alloc (by have := HK.out; simp; omega) _).grown (HWA.out ▸ HG5.out) (by have := HK.out; simp; omega) (fun j hj => by cases hj; exact HM.out.ml))
  exact ((((hb5.setCell (p := ⟨k, 1, none⟩) hBk _).setCell (p := ⟨k, 2, none⟩) hBk _).setCell (p := ⟨k, 3, none⟩) hBk _).setCell (p := ⟨k, 4, none⟩) hBk _).drew
theorem map_madeB {H : Type} {P : Program} {k : TypeId} {R : Value → Option (DataW H × List MemPlace)} (w : World) (b : Nat) (D : DataW H) (hb : b = w.heap.size) (hD : D = .map [] := by rfl) : (w.alloc (.map #[] 0)).ownsMap P k R b 0 D := by
  subst hb; subst hD; exact World.ownsMap_made w P k R
set_option maxHeartbeats 4000000 in
theorem NewBook_ok (w : World) : Calls Tryz.prog 4 #[] w fun e w' => e = .returned (.pointer (some ⟨w.heap.size + 1, 0, none⟩)) ∧
    BM w.heap.size w' (w.heap.size + 1) w.heap.size 0 0 (.slice none 0 0) [] (fun _ => 0) ∧ Below w.heap.size w w' := by
  have hmm := @run_makeMap Tryz.prog
  go_enter Tryz.func4, Tryz.ntmps4
  go_wp2_with (fail)
  go_ret
  refine ⟨by simp, ⟨?_, ⟨.map [], ?_, MapK.empty _ _⟩, by simp, by simp, by simp, by omega, Nat.le_refl _⟩, ?_⟩
  · simpa using heap_alloc_new (w.alloc (.map #[] 0)) (.cells #[.map (some w.heap.size), .int .i64 0, .slice none 0 0] 55)
  · exact (map_madeB w w.heap.size _ rfl).alloc _
  · exact ((Below.refl _ _).alloc (Nat.le_refl _) _).alloc (by simp) _
end Go.Proofs.YtapfcnfmonknjaaGreatDoor.Bk
