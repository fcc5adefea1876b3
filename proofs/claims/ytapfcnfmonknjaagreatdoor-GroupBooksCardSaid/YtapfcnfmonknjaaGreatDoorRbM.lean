/- The reference's book in memory: find, Of. -/
import Derived.Test.YtapfcnfmonknjaaGreatDoorRbL
import Derived.Test.YtapfcnfmonknjaaGreatDoorBkSt
namespace Go.Proofs.YtapfcnfmonknjaaGreatDoor.Bk
open Go.RowKit Go.Maps Go.Sort
set_option linter.unusedVariables false
set_option linter.unusedSimpArgs false
def Rr (r : Pr) : List Value := [.string ⟨r.p.toArray⟩, .int .i64 r.ev, .int .i64 r.wt, .int .i64 r.fi, .int .i64 r.la, .int .i64 r.g]
/-- The reference's book over lr lies in w. -/
structure RM (B : Nat) (w : World) (q : Nat) (lv : Value) (given : Int) (sv : Value) (lr : List Pr) : Prop where
  box : w.heap[q]? = some (.cells #[lv, .int .i64 given, sv] 29 (0, 0))
  row : w.ownsRow B 64 6 lv lr.length (lr.flatMap Rr)
  lo : B ≤ q
theorem RM.keep {B : Nat} {w w' : World} {q : Nat} {lv : Value} {given : Int} {sv : Value} {lr : List Pr} (h : RM B w q lv given sv lr) (hk : ∀ k o, (k = q ∨ lv.ownBlock = some k) → w.heap[k]? = some o → w'.heap[k]? = some o) : RM B w' q lv given sv lr :=
  ⟨hk q _ (.inl rfl) h.box, own_stayB h.row fun k o e => hk k o (.inr e), h.lo⟩
theorem RM.below {B : Nat} {w w' : World} {q : Nat} {lv : Value} {given : Int} {sv : Value} {lr : List Pr} (h : RM B w q lv given sv lr) (hb : Below w.heap.size w w') : RM B w' q lv given sv lr := h.keep fun k o _ e => block_below e hb
theorem RM.ne {B : Nat} {w : World} {q : Nat} {lv : Value} {given : Int} {sv : Value} {lr : List Pr} (h : RM B w q lv given sv lr) {k : Nat} (hk : lv.ownBlock = some k) : k ≠ q := fun e => by
  obtain ⟨cur, hb⟩ := row_blkB h.row hk
  rw [e, h.box] at hb
  cases hb
set_option maxHeartbeats 4000000 in
theorem RcloF (r : Pr) (s : ByteArray) (b : Nat) (w : World) (hb : w.cell? ⟨b, 0, none⟩ = some (.string s)) :
    Calls Tryz.prog 52 #[.agg #[.string ⟨r.p.toArray⟩, .int .i64 r.ev, .int .i64 r.wt, .int .i64 r.fi, .int .i64 r.la, .int .i64 r.g], .pointer (some ⟨b, 0, none⟩)] w fun e w' => e = .returned (.bool (decide (r.p = s.data.toList))) ∧ Below w.heap.size w w' := by
  have E := hide (beq_str ⟨r.p.toArray⟩ s)
  have HB := hide ((Below.refl w.heap.size w).alloc (Nat.le_refl _) (.cells #[.string ⟨r.p.toArray⟩, .int .i64 r.ev, .int .i64 r.wt, .int .i64 r.fi, .int .i64 r.la, .int .i64 r.g] 64))
  go_enter Tryz.func52, Tryz.ntmps52
  go_wp2_with (fail)
  go_ret
  have e9 : (⟨r.p.toArray⟩ : ByteArray).toList = r.p := by rw [ByteArray.toList_eq]
  exact ⟨ret_bool (by rw [← E.out, e9]), HB.out⟩
/-- What find answers. -/
def FindR (lr : List Pr) (s : List UInt8) (z : Int) : Prop := (z < 0 ∧ s ∉ lr.map Pr.p) ∨ ∃ (k : Nat) (r : Pr), z = (k : Int) ∧ lr[k]? = some r ∧ r.p = s
set_option maxRecDepth 100000 in
set_option maxHeartbeats 4000000 in
theorem RIndex (A : Option Addr) (n c : Nat) (lr : List Pr) (s : ByteArray) (b : Nat) (w : World) (hs : Sl w w.heap.size Rr 6 A n lr) (hb : w.cell? ⟨b, 0, none⟩ = some (.string s)) (hbz : b < w.heap.size) (hn : n ≤ 100000) :
    Calls Tryz.prog 51 #[.slice A n c, .func (.func 52) #[] #[.pointer (some ⟨b, 0, none⟩)]] w fun e w' => ∃ z : Int, e = .returned (.int .i64 z) ∧ FindR lr s.data.toList z ∧ Below w.heap.size w w' := by
  have HS := hide hs
  have HC := hide hb
  have hnl : lr.length = n := hs.len
  clear hs hb
  go_enter Tryz.func51, Tryz.ntmps51
  go_wp2_with (fail)
  go_loopw [8] (fun ti wr => ∃ j : Nat, j ≤ n ∧ ti = .int .i64 (j : Int) ∧ s.data.toList ∉ (lr.take j).map Pr.p ∧ Below w.heap.size w wr) (fun ti _ => n - (intOf ti).toNat)
  case atStart => exact ⟨0, Nat.zero_le _, rfl, by simp, Below.refl _ _⟩
  case round =>
    obtain ⟨j, hj, rfl, hno, hB⟩ := hrel
    have HB := hide hB
    have hz := hB.size
    by_cases hjn : j < n
    · obtain ⟨bb, oo, r, hA, hbb, hx, hc⟩ := (HS.out.below hB).at_ hjn
      have c0 : wr.cell? ⟨bb, oo + j * 6, none⟩ = some (.string ⟨r.p.toArray⟩) := by simpa using hc 0 _ rfl
      have c1 : wr.cell? ⟨bb, oo + j * 6 + 1, none⟩ = some (.int .i64 r.ev) := hc 1 _ rfl
      have c2 : wr.cell? ⟨bb, oo + j * 6 + 2, none⟩ = some (.int .i64 r.wt) := hc 2 _ rfl
      have c3 : wr.cell? ⟨bb, oo + j * 6 + 3, none⟩ = some (.int .i64 r.fi) := hc 3 _ rfl
      have c4 : wr.cell? ⟨bb, oo + j * 6 + 4, none⟩ = some (.int .i64 r.la) := hc 4 _ rfl
      have c5 : wr.cell? ⟨bb, oo + j * 6 + 5, none⟩ = some (.int .i64 r.g) := hc 5 _ rfl
      have hjn' : (j : Int) < (n : Int) := by omega
      have HX := hide hx
      obtain ⟨q, hq⟩ : ∃ q, decide (r.p = s.data.toList) = q := ⟨_, rfl⟩
      have hbw : wr.cell? ⟨b, 0, none⟩ = some (.string s) := (hB.cell (p := ⟨b, 0, none⟩) hbz).trans HC.out
      have CF := hide (show Calls Tryz.prog 52 #[.agg #[.string ⟨r.p.toArray⟩, .int .i64 r.ev, .int .i64 r.wt, .int .i64 r.fi, .int .i64 r.la, .int .i64 r.g], .pointer (some ⟨b, 0, none⟩)] wr fun e w' => e = .returned (.bool q) ∧ Below wr.heap.size wr w' from hq ▸ RcloF r s b wr hbw)
      clear hc hx hB hbw
      subst hA
      subst hnl
      cases q
      · have HNO := hide (show s.data.toList ∉ (lr.take (j + 1)).map Pr.p by
          rw [take_succ_get HX.out, List.map_append, List.mem_append]
          rintro (h | h)
          · exact hno h
          · have h9 : s.data.toList = r.p := by simpa using h
            exact of_decide_eq_false hq h9.symm)
        clear hno hq
        go_wp2_with (go_at_call 52; refine CF.out.mono ?_; rintro e w1 ⟨rfl, hw1⟩; have HB1 := hide (HB.out.trans (hw1.mono hz)); clear hw1)
        go_roundw
        case rel => exact ⟨j + 1, by omega, by go_num, HNO.out, HB1.out⟩
        case measure => simp [intOf]; omega
      · have HE := hide (of_decide_eq_true hq)
        clear hno hq
        go_wp2_with (go_at_call 52; refine CF.out.mono ?_; rintro e w1 ⟨rfl, hw1⟩; have HB1 := hide (HB.out.trans (hw1.mono hz)); clear hw1)
        go_ret
        exact ⟨_, rfl, .inr ⟨j, r, rfl, HX.out, HE.out⟩, HB1.out⟩
    · have hje : j = n := by omega
      have HNO := hide (show s.data.toList ∉ lr.map Pr.p by rw [hje, ← hnl, List.take_length] at hno; exact hno)
      clear hno hB
      go_wp2_with (fail)
      go_ret
      exact ⟨_, rfl, .inl ⟨by decide, HNO.out⟩, HB.out⟩
set_option maxHeartbeats 4000000 in
theorem Rfind_any {B : Nat} {w : World} {q : Nat} {lv : Value} {given : Int} {sv : Value} {lr : List Pr} (h : RM B w q lv given sv lr) (hl : lr.length ≤ 1000) (s : ByteArray) :
    Calls Tryz.prog 27 #[.pointer (some ⟨q, 0, none⟩), .string s] w fun e w' => ∃ z : Int, e = .returned (.int .i64 z) ∧ FindR lr s.data.toList z ∧ Below w.heap.size w w' := by
  obtain ⟨A, c, rfl, hsl, _⟩ := sl_of_own (f := Rr) (sz := 6) (fun _ => rfl) rfl h.row
  have x0 : w.cell? ⟨q, 0, none⟩ = some (.slice A lr.length c) := (block_cell h.box 0).trans rfl
  have HB := hide ((Below.refl w.heap.size w).alloc (Nat.le_refl _) (.cells #[.string s] 9))
  have CI := hide (RIndex A lr.length c lr s w.heap.size (w.alloc (.cells #[.string s] 9)) (Sl.up hsl HB.out) (by rw [block_cell (heap_alloc_new w _) 0]; rfl) (by simp) (by omega))
  clear h hsl
  go_enter Tryz.func27, Tryz.ntmps27
  go_wp2_with (go_at_call 51; refine CI.out.mono ?_; rintro e w1 ⟨z, rfl, hz, hw1⟩; have HZ := hide hz; have HB1 := hide (HB.out.trans (hw1.mono (by simp))); clear hz hw1)
  go_ret
  exact ⟨z, rfl, HZ.out, HB1.out⟩
/-- Of, the way the program has it. -/
def ofE (l : List Pr) (s : List UInt8) (x e : Int) : Prop := (s ∉ l.map Pr.p ∧ x = 0 ∧ e = 7) ∨ ∃ r ∈ l, r.p = s ∧ x = r.g ∧ e = 0
set_option maxHeartbeats 4000000 in
theorem ROf_any {B : Nat} {w : World} {q : Nat} {lv : Value} {given : Int} {sv : Value} {lr : List Pr} (h : RM B w q lv given sv lr) (hl : lr.length ≤ 1000) (s : ByteArray) :
    Calls Tryz.prog 14 #[.pointer (some ⟨q, 0, none⟩), .string s] w fun e w' => ∃ x y : Int, e = .returned (.tuple #[.int .i64 x, .int .i64 y]) ∧ ofE lr s.data.toList x y ∧ Below w.heap.size w w' := by
  have CF := hide (Rfind_any h hl s)
  have HH := hide h
  clear h
  go_enter Tryz.func14, Tryz.ntmps14
  go_wp2_with (fail)
  refine CF.out.mono ?_
  rintro e w1 ⟨z, rfl, ⟨hz, hno⟩ | ⟨k, r, rfl, hk, hr⟩, hw1⟩
  · go_wp2_with (fail)
    refine bodyPost_ret (by simp [results, Tryz.results14, go_sem]; try rfl) rfl ?_
    exact ⟨_, _, rfl, .inl ⟨hno, rfl, rfl⟩, hw1⟩
  · have h1 := HH.out.below hw1
    obtain ⟨A, c, rfl, hsl, _⟩ := sl_of_own (f := Rr) (sz := 6) (fun _ => rfl) rfl h1.row
    have x0 : w1.cell? ⟨q, 0, none⟩ = some (.slice A lr.length c) := (block_cell h1.box 0).trans rfl
    have hkl := (List.getElem?_eq_some_iff.1 hk).1
    obtain ⟨bb, oo, r2, hA, hbb, hx, hc⟩ := hsl.at_ hkl
    rw [hk] at hx
    obtain rfl := Option.some.inj hx
    have c5 : w1.cell? ⟨bb, oo + k * 6 + 5, none⟩ = some (.int .i64 r.g) := hc 5 _ rfl
    subst hA
    have HB := hide hw1
    have HR := hide hr
    have HK := hide hk
    have hkl' : (k : Int) < (lr.length : Int) := by omega
    clear h1 hsl hc hx hw1 hr hk CF HH
    go_wp2_with (fail)
    refine bodyPost_ret (by simp [results, Tryz.results14, go_sem]; try rfl) rfl ?_
    exact ⟨_, _, rfl, .inr ⟨r, List.mem_of_getElem? HK.out, HR.out, rfl, rfl⟩, HB.out⟩
end Go.Proofs.YtapfcnfmonknjaaGreatDoor.Bk
