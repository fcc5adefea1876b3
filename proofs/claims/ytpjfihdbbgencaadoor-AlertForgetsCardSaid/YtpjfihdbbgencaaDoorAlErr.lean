/- Walk of AlertRulesError (printed by gen_a2.py). -/
import Derived.Test.YtpjfihdbbgencaaDoorAlChk
import Derived.Test.YtpjfihdbbgencaaDoorOwnMore
namespace Go.Proofs.YtpjfihdbbgencaaDoor
open Go.RowKit
set_option linter.unusedVariables false
set_option linter.unusedSimpArgs false
/-- '==' of two strings, as the walk has it. -/
def beqS (a b : ByteArray) : Bool := a.data.toList == b.data.toList
theorem beqS_toList (a b : ByteArray) : (a.toList == b.toList) = beqS a b := by rw [ByteArray.toList_eq, ByteArray.toList_eq]; rfl
def rlKeys (l : List Rl) : List (List UInt8) := l.map fun x => x.name.data.toList
/-- The error at place k of rules. -/
def rlErrAt (l : List Rl) (k : Nat) : Int :=
  match l[k]? with
  | none => 0
  | some x => if nameB x.name then (if (rlKeys (l.take k)).contains x.name.data.toList then 6 else ruleErr x) else 3
def rlErr (l : List Rl) : Int := if 50 < l.length then 4 else firstErr (rlErrAt l) l.length
def anyName (l : List Rl) (k : ByteArray) : Bool := l.any fun x => beqS x.name k
theorem anyName_keys (l : List Rl) (k : ByteArray) : anyName l k = (rlKeys l).contains k.data.toList := by
  unfold anyName rlKeys beqS
  induction l with
  | nil => rfl
  | cons x l ih => simp only [List.any_cons, List.map_cons, List.contains_cons, ih]; congr 1; rw [Bool.eq_iff_iff]; simp; exact ⟨Eq.symm, Eq.symm⟩
theorem anyName_snoc (l : List Rl) (x : Rl) (k : ByteArray) : anyName (l ++ [x]) k = (anyName l k || beqS x.name k) := by simp [anyName]
theorem rlErrAt_name {l : List Rl} {k : Nat} {x : Rl} (hx : l[k]? = some x) (h : nameB x.name = false) : rlErrAt l k = 3 := by
  rw [rlErrAt, hx]; simp only [h]; rfl
theorem rlErrAt_twice {l : List Rl} {k : Nat} {x : Rl} (hx : l[k]? = some x) (h : nameB x.name = true) (h2 : anyName (l.take k) x.name = true) : rlErrAt l k = 6 := by
  rw [anyName_keys] at h2; rw [rlErrAt, hx]; simp only [h, h2]; rfl
theorem rlErrAt_rule {l : List Rl} {k : Nat} {x : Rl} {e : Int} (hx : l[k]? = some x) (h : nameB x.name = true) (h2 : anyName (l.take k) x.name = false) (h3 : ruleErr x = e) : rlErrAt l k = e := by
  rw [anyName_keys] at h2; rw [rlErrAt, hx]; simp only [h, h2, h3]; rfl
theorem rlErr_hit {l : List Rl} {k : Nat} (h : ¬ 50 < l.length) (h0 : ∀ j, j < k → rlErrAt l j = 0) (hk : k < l.length) {v : Int} (hv : rlErrAt l k = v) (hne : v ≠ 0) : rlErr l = v := by
  rw [rlErr, if_neg h, firstErr_hit h0 hk (by rw [hv]; exact hne), hv]
theorem rlErr_none {l : List Rl} (h : ¬ 50 < l.length) (h0 : ∀ j, j < l.length → rlErrAt l j = 0) : rlErr l = 0 := by
  rw [rlErr, if_neg h, firstErr_zero h0]
/-- Names and keys that are not too long to be held at all. -/
def RlFit (l : List Rl) : Prop := ∀ x ∈ l, x.name.size ≤ maxLen ∧ x.key.size ≤ maxLen
theorem ErrC_any (x : Rl) (k : ByteArray) (b o : Nat) (w : World) (h0 : w.cell? ⟨b, o, none⟩ = some (.string k)) :
    Calls Tryd.prog 25 #[.agg #[.string x.name, .string x.key, .int .i64 x.ask, .int .i64 x.limit, .int .i64 x.window, .int .i64 x.hold, .int .i64 x.rest], .pointer (some ⟨b, o, none⟩)] w fun e w' => e = .returned (.bool (beqS x.name k)) ∧ Below w.heap.size w w' := by
  have E := hide (beqS_toList x.name k)
  go_enter Tryd.func25, Tryd.ntmps25
  go_wp2_with (fail)
  go_ret
  exact ⟨by rw [← E.out]; rfl, by go_grown⟩
set_option maxHeartbeats 1000000 in
theorem IndexFunc_rl (A : Option Addr) (n cap : Nat) (l : List Rl) (k : ByteArray) (b o : Nat) (w : World) (hn : n ≤ maxLen) (hl : Sl w w.heap.size Rl.cs 7 A n l) (h0 : w.cell? ⟨b, o, none⟩ = some (.string k)) :
    Calls Tryd.prog 45 #[.slice A n cap, .func (.func 25) #[] #[.pointer (some ⟨b, o, none⟩)]] w fun e w' => ∃ r : Int, e = .returned (.int .i64 r) ∧ (0 ≤ r ↔ anyName l k = true) ∧ Below w.heap.size w w' := by
  unfold maxLen at hn
  have HL := hide hl.len
  have HSL := hide hl
  have hb : b < w.heap.size := World.block_lt_of_cell? w ⟨b, o, none⟩ h0
  clear hl
  go_enter Tryd.func45, Tryd.ntmps45
  go_wp2_with (fail)
  go_loopw [8] (fun i wr => ∃ j : Nat, j ≤ n ∧ i = .int .i64 j ∧ anyName (l.take j) k = false ∧ Below w.heap.size w wr) (fun i _ => n - (intOf i).toNat)
  case atStart => exact ⟨0, Nat.zero_le _, rfl, rfl, Below.refl _ _⟩
  case round =>
    obtain ⟨j, hj, rfl, hno, hB⟩ := hrel
    have HNO := hide hno
    clear hno
    by_cases hlt : j < n
    · obtain ⟨bb, oo, x, rfl, hbb, hx, hc⟩ := (HSL.out.below hB).at_ hlt
      have c0 : wr.cell? ⟨bb, oo + j * 7, none⟩ = some (.string x.name) := by simpa using hc 0 _ rfl
      have c1 : wr.cell? ⟨bb, oo + j * 7 + 1, none⟩ = some (.string x.key) := by simpa using hc 1 _ rfl
      have c2 : wr.cell? ⟨bb, oo + j * 7 + 2, none⟩ = some (.int .i64 x.ask) := by simpa using hc 2 _ rfl
      have c3 : wr.cell? ⟨bb, oo + j * 7 + 3, none⟩ = some (.int .i64 x.limit) := by simpa using hc 3 _ rfl
      have c4 : wr.cell? ⟨bb, oo + j * 7 + 4, none⟩ = some (.int .i64 x.window) := by simpa using hc 4 _ rfl
      have c5 : wr.cell? ⟨bb, oo + j * 7 + 5, none⟩ = some (.int .i64 x.hold) := by simpa using hc 5 _ rfl
      have c6 : wr.cell? ⟨bb, oo + j * 7 + 6, none⟩ = some (.int .i64 x.rest) := by simpa using hc 6 _ rfl
      have hk : wr.cell? ⟨b, o, none⟩ = some (.string k) := (hB.cell (p := ⟨b, o, none⟩) hb).trans h0
      have HX := hide hx
      have hz := hB.size
      have C := hide (ErrC_any x k b o wr hk)
      clear hc hx
      obtain ⟨y, hy⟩ : ∃ y, beqS x.name k = y := ⟨_, rfl⟩
      rw [hy] at C
      have HY := hide hy
      clear hy
      cases y
      · go_wp2_with (go_at_call 25; refine C.out.mono ?_; rintro e w1 ⟨rfl, hw1⟩; have hB1 := hB.trans (hw1.mono hB.size))
        go_roundw
        case rel => exact ⟨j + 1, by omega, by go_num, by rw [take_succ_get HX.out, anyName_snoc, HNO.out, HY.out]; rfl, hB1⟩
        case measure => simp [intOf]; omega
      · go_wp2_with (go_at_call 25; refine C.out.mono ?_; rintro e w1 ⟨rfl, hw1⟩; have hB1 := hB.trans (hw1.mono hB.size))
        go_ret
        refine ⟨j, rfl, ?_, hB1⟩
        have : anyName l k = true := by
          unfold anyName; rw [List.any_eq_true]; exact ⟨x, List.mem_of_getElem? HX.out, HY.out⟩
        simp [this]
    · have E := hide (show anyName l k = false by rw [← HNO.out, take_len l (by have := HL.out; omega)])
      go_wp2_with (fail)
      go_ret
      exact ⟨-1, rfl, by rw [E.out]; simp, hB⟩
theorem ContainsFunc_rl (A : Option Addr) (n cap : Nat) (l : List Rl) (k : ByteArray) (b o : Nat) (w : World) (hn : n ≤ maxLen) (hl : Sl w w.heap.size Rl.cs 7 A n l) (h0 : w.cell? ⟨b, o, none⟩ = some (.string k)) :
    Calls Tryd.prog 24 #[.slice A n cap, .func (.func 25) #[] #[.pointer (some ⟨b, o, none⟩)]] w fun e w' => e = .returned (.bool (anyName l k)) ∧ Below w.heap.size w w' := by
  have C := hide (IndexFunc_rl A n cap l k b o w hn hl h0)
  obtain ⟨y, hy⟩ : ∃ y, anyName l k = y := ⟨_, rfl⟩
  rw [hy] at C ⊢
  clear hy hl h0
  go_enter Tryd.func24, Tryd.ntmps24
  go_wp2_with (fail)
  refine C.out.mono ?_
  rintro e w1 ⟨r, rfl, hr, hB⟩
  cases y
  · have hr' : r < 0 := by simpa using hr
    clear hr
    go_wp2_with (fail)
    go_ret
    exact ⟨ret_bool (by first | (simp; done) | (simp; omega)), hB⟩
  · have hr' : 0 ≤ r := by simpa using hr
    clear hr
    go_wp2_with (fail)
    go_ret
    exact ⟨ret_bool (by first | (simp; done) | (simp; omega)), hB⟩
set_option maxRecDepth 100000 in
set_option maxHeartbeats 8000000 in
theorem AlertRulesError_any (A : Option Addr) (n cap : Nat) (l : List Rl) (w : World) (hn : n ≤ maxLen) (hnc : n ≤ cap) (hl : Sl w w.heap.size Rl.cs 7 A n l) (hf : RlFit l) :
    Calls Tryd.prog 7 #[.slice A n cap] w fun e w' => e = .returned (.int .i64 (rlErr l)) ∧ Below w.heap.size w w' := by
  have hn' := hn
  unfold maxLen at hn
  have HL := hide hl.len
  have HSL := hide hl
  clear hl
  by_cases h : 50 < n
  · have E := hide (show rlErr l = 4 by rw [rlErr, if_pos (by rw [HL.out]; exact h)])
    go_enter Tryd.func7, Tryd.ntmps7
    go_wp2_with (fail)
    go_ret
    exact ⟨by rw [E.out]; rfl, Below.refl _ _⟩
  · have h50 : ¬ 50 < l.length := by rw [HL.out]; exact h
    have H50 := hide h50
    clear h50
    go_enter Tryd.func7, Tryd.ntmps7
    go_wp2_with (fail)
    go_loopw [11] (fun i wr => ∃ k : Nat, k ≤ n ∧ i = .int .i64 k ∧ (∀ j, j < k → rlErrAt l j = 0) ∧ Below w.heap.size w wr) (fun i _ => n - (intOf i).toNat)
    case atStart => exact ⟨0, Nat.zero_le _, rfl, fun j hj => absurd hj (by omega), Below.refl _ _⟩
    case round =>
      obtain ⟨k, hk, rfl, hno, hB⟩ := hrel
      have HNO := hide hno
      clear hno
      by_cases hlt : k < n
      · have hlr := HSL.out.below hB
        obtain ⟨bb, oo, x, rfl, hbb, hx, hc⟩ := hlr.at_ hlt
        have hz := hB.size
        have hkf := hf x (List.mem_of_getElem? hx)
        have hkl : k < l.length := by rw [HL.out]; exact hlt
        have c0 : wr.cell? ⟨bb, oo + k * 7, none⟩ = some (.string x.name) := by simpa using hc 0 _ rfl
        have c1 : wr.cell? ⟨bb, oo + k * 7 + 1, none⟩ = some (.string x.key) := by simpa using hc 1 _ rfl
        have c2 : wr.cell? ⟨bb, oo + k * 7 + 2, none⟩ = some (.int .i64 x.ask) := by simpa using hc 2 _ rfl
        have c3 : wr.cell? ⟨bb, oo + k * 7 + 3, none⟩ = some (.int .i64 x.limit) := by simpa using hc 3 _ rfl
        have c4 : wr.cell? ⟨bb, oo + k * 7 + 4, none⟩ = some (.int .i64 x.window) := by simpa using hc 4 _ rfl
        have c5 : wr.cell? ⟨bb, oo + k * 7 + 5, none⟩ = some (.int .i64 x.hold) := by simpa using hc 5 _ rfl
        have c6 : wr.cell? ⟨bb, oo + k * 7 + 6, none⟩ = some (.int .i64 x.rest) := by simpa using hc 6 _ rfl
        have HX := hide hx
        have HBX := hide (heap_alloc_new wr (.cells #[.string x.name, .string x.key, .int .i64 x.ask, .int .i64 x.limit, .int .i64 x.window, .int .i64 x.hold, .int .i64 x.rest] 56))
        have hst : Sl (wr.alloc (.cells #[.string x.name, .string x.key, .int .i64 x.ask, .int .i64 x.limit, .int .i64 x.window, .int .i64 x.hold, .int .i64 x.rest] 56)) (wr.alloc (.cells #[.string x.name, .string x.key, .int .i64 x.ask, .int .i64 x.limit, .int .i64 x.window, .int .i64 x.hold, .int .i64 x.rest] 56)).heap.size Rl.cs 7 (some ⟨bb, oo, none⟩) k (l.take k) :=
          ((hlr.below (B := w.heap.size) ((Below.refl _ _).alloc hz _)).more (by simp; omega)).first (by omega)
        have CN := hide (fun W => refName_any x.name W hkf.1)
        have CC := hide (ContainsFunc_rl (some ⟨bb, oo, none⟩) k cap (l.take k) x.name wr.heap.size 0 _ (by omega) hst (by simp))
        have CW := hide (fun W => WordError_any x.key W hkf.2)
        have CA := hide (fun W => in_any x.ask 1 4 W)
        have C0 := hide (fun W => in_any x.limit 0 1000000000 W)
        have C1 := hide (fun W => in_any x.window 1 604800 W)
        have C2 := hide (fun W => in_any x.hold 0 604800 W)
        have C3 := hide (fun W => in_any x.rest 0 604800 W)
        clear hc hx hst hlr hkf
        cases hnm : nameB x.name
        · rw [hnm] at CN
          have E := hide (rlErr_hit H50.out HNO.out hkl (rlErrAt_name HX.out hnm) (by first | decide | assumption))
          skip
          go_wp2_with (first | (go_at_call 23; refine (CN.out _).mono ?_; rintro e w' ⟨rfl, rfl⟩) | (go_at_call 24; refine CC.out.mono ?_; rintro r w1 ⟨rfl, hw1⟩; have hB1 : Below w.heap.size w w1 := hB.trans (((Below.refl _ _).alloc hz _).trans (hw1.mono (by simp; omega))); have HX1 := block_below HBX.out hw1; have y0 : w1.cell? ⟨wr.heap.size, 0, none⟩ = some (.string x.name) := (block_cell HX1 0).trans rfl; have y1 : w1.cell? ⟨wr.heap.size, 1, none⟩ = some (.string x.key) := (block_cell HX1 1).trans rfl; have y2 : w1.cell? ⟨wr.heap.size, 2, none⟩ = some (.int .i64 x.ask) := (block_cell HX1 2).trans rfl; have y3 : w1.cell? ⟨wr.heap.size, 3, none⟩ = some (.int .i64 x.limit) := (block_cell HX1 3).trans rfl; have y4 : w1.cell? ⟨wr.heap.size, 4, none⟩ = some (.int .i64 x.window) := (block_cell HX1 4).trans rfl; have y5 : w1.cell? ⟨wr.heap.size, 5, none⟩ = some (.int .i64 x.hold) := (block_cell HX1 5).trans rfl; have y6 : w1.cell? ⟨wr.heap.size, 6, none⟩ = some (.int .i64 x.rest) := (block_cell HX1 6).trans rfl; clear hw1 HX1) | (go_at_call 26; refine (CW.out _).mono ?_; rintro e w' ⟨rfl, rfl⟩))
          go_ret
          exact ⟨by rw [E.out]; rfl, hB.alloc hz _⟩
        rw [hnm] at CN
        cases hany : anyName (l.take k) x.name
        · rw [hany] at CC
          by_cases hke : keyErr x.key = 0
          · rw [hke] at CW
            cases ha : outsideB x.ask 1 4
            · rw [ha] at CA
              cases h0 : outsideB x.limit 0 1000000000
              · rw [h0] at C0
                cases h1 : outsideB x.window 1 604800
                · rw [h1] at C1
                  cases h2 : outsideB x.hold 0 604800
                  · rw [h2] at C2
                    cases h3 : outsideB x.rest 0 604800
                    · rw [h3] at C3
                      have hr : rangeB x = false := by rw [rangeB, h0, h1, h2, h3]; rfl
                      by_cases h4 : x.ask = 4
                      · by_cases h5 : x.limit = 0
                        · skip
                          have HK := hide (rlErrAt_rule HX.out hnm hany (ruleErr_none hke ha hr (fun h => h.2 h5)))
                          rw [h4] at CA CC HBX c2; rw [h5] at C0 CC HBX c3; clear hke ha h0 h1 h2 h3 hr hnm hany h4 h5
                          go_wp2_with (first | (go_at_call 23; refine (CN.out _).mono ?_; rintro e w' ⟨rfl, rfl⟩) | (go_at_call 24; refine CC.out.mono ?_; rintro r w1 ⟨rfl, hw1⟩; have hB1 : Below w.heap.size w w1 := hB.trans (((Below.refl _ _).alloc hz _).trans (hw1.mono (by simp; omega))); have HX1 := block_below HBX.out hw1; have y0 : w1.cell? ⟨wr.heap.size, 0, none⟩ = some (.string x.name) := (block_cell HX1 0).trans rfl; have y1 : w1.cell? ⟨wr.heap.size, 1, none⟩ = some (.string x.key) := (block_cell HX1 1).trans rfl; have y2 : w1.cell? ⟨wr.heap.size, 2, none⟩ = some (.int .i64 4) := (block_cell HX1 2).trans rfl; have y3 : w1.cell? ⟨wr.heap.size, 3, none⟩ = some (.int .i64 0) := (block_cell HX1 3).trans rfl; have y4 : w1.cell? ⟨wr.heap.size, 4, none⟩ = some (.int .i64 x.window) := (block_cell HX1 4).trans rfl; have y5 : w1.cell? ⟨wr.heap.size, 5, none⟩ = some (.int .i64 x.hold) := (block_cell HX1 5).trans rfl; have y6 : w1.cell? ⟨wr.heap.size, 6, none⟩ = some (.int .i64 x.rest) := (block_cell HX1 6).trans rfl; clear hw1 HX1) | (go_at_call 26; refine (CW.out _).mono ?_; rintro e w' ⟨rfl, rfl⟩) | (go_at_call 27; ((with_reducible refine (CA.out _).mono ?_)); rintro e w' ⟨rfl, rfl⟩) | (go_at_call 27; ((with_reducible refine (C0.out _).mono ?_)); rintro e w' ⟨rfl, rfl⟩) | (go_at_call 27; ((with_reducible refine (C1.out _).mono ?_)); rintro e w' ⟨rfl, rfl⟩) | (go_at_call 27; ((with_reducible refine (C2.out _).mono ?_)); rintro e w' ⟨rfl, rfl⟩) | (go_at_call 27; ((with_reducible refine (C3.out _).mono ?_)); rintro e w' ⟨rfl, rfl⟩))
                          go_roundw
                          case rel => exact ⟨k + 1, by omega, by go_num, fun j hj => by (by_cases e : j < k); exact HNO.out j e; (obtain rfl : j = k := by omega); exact HK.out, hB1⟩
                          case measure => simp [intOf]; omega
                        · have h5b : (x.limit == 0) = false := by simpa using h5
                          have E := hide (rlErr_hit H50.out HNO.out hkl (rlErrAt_rule HX.out hnm hany (ruleErr_form hke ha hr h4 h5)) (by first | decide | assumption))
                          rw [h4] at CA CC HBX c2; clear hke ha h0 h1 h2 h3 hr hnm hany h4
                          go_wp2_with (first | (go_at_call 23; refine (CN.out _).mono ?_; rintro e w' ⟨rfl, rfl⟩) | (go_at_call 24; refine CC.out.mono ?_; rintro r w1 ⟨rfl, hw1⟩; have hB1 : Below w.heap.size w w1 := hB.trans (((Below.refl _ _).alloc hz _).trans (hw1.mono (by simp; omega))); have HX1 := block_below HBX.out hw1; have y0 : w1.cell? ⟨wr.heap.size, 0, none⟩ = some (.string x.name) := (block_cell HX1 0).trans rfl; have y1 : w1.cell? ⟨wr.heap.size, 1, none⟩ = some (.string x.key) := (block_cell HX1 1).trans rfl; have y2 : w1.cell? ⟨wr.heap.size, 2, none⟩ = some (.int .i64 4) := (block_cell HX1 2).trans rfl; have y3 : w1.cell? ⟨wr.heap.size, 3, none⟩ = some (.int .i64 x.limit) := (block_cell HX1 3).trans rfl; have y4 : w1.cell? ⟨wr.heap.size, 4, none⟩ = some (.int .i64 x.window) := (block_cell HX1 4).trans rfl; have y5 : w1.cell? ⟨wr.heap.size, 5, none⟩ = some (.int .i64 x.hold) := (block_cell HX1 5).trans rfl; have y6 : w1.cell? ⟨wr.heap.size, 6, none⟩ = some (.int .i64 x.rest) := (block_cell HX1 6).trans rfl; clear hw1 HX1) | (go_at_call 26; refine (CW.out _).mono ?_; rintro e w' ⟨rfl, rfl⟩) | (go_at_call 27; ((with_reducible refine (CA.out _).mono ?_)); rintro e w' ⟨rfl, rfl⟩) | (go_at_call 27; ((with_reducible refine (C0.out _).mono ?_)); rintro e w' ⟨rfl, rfl⟩) | (go_at_call 27; ((with_reducible refine (C1.out _).mono ?_)); rintro e w' ⟨rfl, rfl⟩) | (go_at_call 27; ((with_reducible refine (C2.out _).mono ?_)); rintro e w' ⟨rfl, rfl⟩) | (go_at_call 27; ((with_reducible refine (C3.out _).mono ?_)); rintro e w' ⟨rfl, rfl⟩))
                          go_ret
                          exact ⟨by rw [E.out]; rfl, hB1⟩
                      · have h4b : (x.ask == 4) = false := by simpa using h4
                        have HK := hide (rlErrAt_rule HX.out hnm hany (ruleErr_none hke ha hr (fun h => h4 h.1)))
                        clear hke ha h0 h1 h2 h3 hr hnm hany
                        go_wp2_with (first | (go_at_call 23; refine (CN.out _).mono ?_; rintro e w' ⟨rfl, rfl⟩) | (go_at_call 24; refine CC.out.mono ?_; rintro r w1 ⟨rfl, hw1⟩; have hB1 : Below w.heap.size w w1 := hB.trans (((Below.refl _ _).alloc hz _).trans (hw1.mono (by simp; omega))); have HX1 := block_below HBX.out hw1; have y0 : w1.cell? ⟨wr.heap.size, 0, none⟩ = some (.string x.name) := (block_cell HX1 0).trans rfl; have y1 : w1.cell? ⟨wr.heap.size, 1, none⟩ = some (.string x.key) := (block_cell HX1 1).trans rfl; have y2 : w1.cell? ⟨wr.heap.size, 2, none⟩ = some (.int .i64 x.ask) := (block_cell HX1 2).trans rfl; have y3 : w1.cell? ⟨wr.heap.size, 3, none⟩ = some (.int .i64 x.limit) := (block_cell HX1 3).trans rfl; have y4 : w1.cell? ⟨wr.heap.size, 4, none⟩ = some (.int .i64 x.window) := (block_cell HX1 4).trans rfl; have y5 : w1.cell? ⟨wr.heap.size, 5, none⟩ = some (.int .i64 x.hold) := (block_cell HX1 5).trans rfl; have y6 : w1.cell? ⟨wr.heap.size, 6, none⟩ = some (.int .i64 x.rest) := (block_cell HX1 6).trans rfl; clear hw1 HX1) | (go_at_call 26; refine (CW.out _).mono ?_; rintro e w' ⟨rfl, rfl⟩) | (go_at_call 27; ((with_reducible refine (CA.out _).mono ?_)); rintro e w' ⟨rfl, rfl⟩) | (go_at_call 27; ((with_reducible refine (C0.out _).mono ?_)); rintro e w' ⟨rfl, rfl⟩) | (go_at_call 27; ((with_reducible refine (C1.out _).mono ?_)); rintro e w' ⟨rfl, rfl⟩) | (go_at_call 27; ((with_reducible refine (C2.out _).mono ?_)); rintro e w' ⟨rfl, rfl⟩) | (go_at_call 27; ((with_reducible refine (C3.out _).mono ?_)); rintro e w' ⟨rfl, rfl⟩))
                        go_roundw
                        case rel => exact ⟨k + 1, by omega, by go_num, fun j hj => by (by_cases e : j < k); exact HNO.out j e; (obtain rfl : j = k := by omega); exact HK.out, hB1⟩
                        case measure => simp [intOf]; omega
                    · rw [h3] at C3
                      have hr : rangeB x = true := by rw [rangeB, h0, h1, h2, h3]; simp
                      have E := hide (rlErr_hit H50.out HNO.out hkl (rlErrAt_rule HX.out hnm hany (ruleErr_range hke ha hr)) (by first | decide | assumption))
                      clear hke ha hr hnm hany h0 h1 h2 h3
                      go_wp2_with (first | (go_at_call 23; refine (CN.out _).mono ?_; rintro e w' ⟨rfl, rfl⟩) | (go_at_call 24; refine CC.out.mono ?_; rintro r w1 ⟨rfl, hw1⟩; have hB1 : Below w.heap.size w w1 := hB.trans (((Below.refl _ _).alloc hz _).trans (hw1.mono (by simp; omega))); have HX1 := block_below HBX.out hw1; have y0 : w1.cell? ⟨wr.heap.size, 0, none⟩ = some (.string x.name) := (block_cell HX1 0).trans rfl; have y1 : w1.cell? ⟨wr.heap.size, 1, none⟩ = some (.string x.key) := (block_cell HX1 1).trans rfl; have y2 : w1.cell? ⟨wr.heap.size, 2, none⟩ = some (.int .i64 x.ask) := (block_cell HX1 2).trans rfl; have y3 : w1.cell? ⟨wr.heap.size, 3, none⟩ = some (.int .i64 x.limit) := (block_cell HX1 3).trans rfl; have y4 : w1.cell? ⟨wr.heap.size, 4, none⟩ = some (.int .i64 x.window) := (block_cell HX1 4).trans rfl; have y5 : w1.cell? ⟨wr.heap.size, 5, none⟩ = some (.int .i64 x.hold) := (block_cell HX1 5).trans rfl; have y6 : w1.cell? ⟨wr.heap.size, 6, none⟩ = some (.int .i64 x.rest) := (block_cell HX1 6).trans rfl; clear hw1 HX1) | (go_at_call 26; refine (CW.out _).mono ?_; rintro e w' ⟨rfl, rfl⟩) | (go_at_call 27; ((with_reducible refine (CA.out _).mono ?_)); rintro e w' ⟨rfl, rfl⟩) | (go_at_call 27; ((with_reducible refine (C0.out _).mono ?_)); rintro e w' ⟨rfl, rfl⟩) | (go_at_call 27; ((with_reducible refine (C1.out _).mono ?_)); rintro e w' ⟨rfl, rfl⟩) | (go_at_call 27; ((with_reducible refine (C2.out _).mono ?_)); rintro e w' ⟨rfl, rfl⟩) | (go_at_call 27; ((with_reducible refine (C3.out _).mono ?_)); rintro e w' ⟨rfl, rfl⟩))
                      go_ret
                      exact ⟨by rw [E.out]; rfl, hB1⟩
                  · rw [h2] at C2
                    have hr : rangeB x = true := by rw [rangeB, h0, h1, h2]; simp
                    have E := hide (rlErr_hit H50.out HNO.out hkl (rlErrAt_rule HX.out hnm hany (ruleErr_range hke ha hr)) (by first | decide | assumption))
                    clear hke ha hr hnm hany h0 h1 h2
                    go_wp2_with (first | (go_at_call 23; refine (CN.out _).mono ?_; rintro e w' ⟨rfl, rfl⟩) | (go_at_call 24; refine CC.out.mono ?_; rintro r w1 ⟨rfl, hw1⟩; have hB1 : Below w.heap.size w w1 := hB.trans (((Below.refl _ _).alloc hz _).trans (hw1.mono (by simp; omega))); have HX1 := block_below HBX.out hw1; have y0 : w1.cell? ⟨wr.heap.size, 0, none⟩ = some (.string x.name) := (block_cell HX1 0).trans rfl; have y1 : w1.cell? ⟨wr.heap.size, 1, none⟩ = some (.string x.key) := (block_cell HX1 1).trans rfl; have y2 : w1.cell? ⟨wr.heap.size, 2, none⟩ = some (.int .i64 x.ask) := (block_cell HX1 2).trans rfl; have y3 : w1.cell? ⟨wr.heap.size, 3, none⟩ = some (.int .i64 x.limit) := (block_cell HX1 3).trans rfl; have y4 : w1.cell? ⟨wr.heap.size, 4, none⟩ = some (.int .i64 x.window) := (block_cell HX1 4).trans rfl; have y5 : w1.cell? ⟨wr.heap.size, 5, none⟩ = some (.int .i64 x.hold) := (block_cell HX1 5).trans rfl; have y6 : w1.cell? ⟨wr.heap.size, 6, none⟩ = some (.int .i64 x.rest) := (block_cell HX1 6).trans rfl; clear hw1 HX1) | (go_at_call 26; refine (CW.out _).mono ?_; rintro e w' ⟨rfl, rfl⟩) | (go_at_call 27; ((with_reducible refine (CA.out _).mono ?_)); rintro e w' ⟨rfl, rfl⟩) | (go_at_call 27; ((with_reducible refine (C0.out _).mono ?_)); rintro e w' ⟨rfl, rfl⟩) | (go_at_call 27; ((with_reducible refine (C1.out _).mono ?_)); rintro e w' ⟨rfl, rfl⟩) | (go_at_call 27; ((with_reducible refine (C2.out _).mono ?_)); rintro e w' ⟨rfl, rfl⟩))
                    go_ret
                    exact ⟨by rw [E.out]; rfl, hB1⟩
                · rw [h1] at C1
                  have hr : rangeB x = true := by rw [rangeB, h0, h1]; simp
                  have E := hide (rlErr_hit H50.out HNO.out hkl (rlErrAt_rule HX.out hnm hany (ruleErr_range hke ha hr)) (by first | decide | assumption))
                  clear hke ha hr hnm hany h0 h1
                  go_wp2_with (first | (go_at_call 23; refine (CN.out _).mono ?_; rintro e w' ⟨rfl, rfl⟩) | (go_at_call 24; refine CC.out.mono ?_; rintro r w1 ⟨rfl, hw1⟩; have hB1 : Below w.heap.size w w1 := hB.trans (((Below.refl _ _).alloc hz _).trans (hw1.mono (by simp; omega))); have HX1 := block_below HBX.out hw1; have y0 : w1.cell? ⟨wr.heap.size, 0, none⟩ = some (.string x.name) := (block_cell HX1 0).trans rfl; have y1 : w1.cell? ⟨wr.heap.size, 1, none⟩ = some (.string x.key) := (block_cell HX1 1).trans rfl; have y2 : w1.cell? ⟨wr.heap.size, 2, none⟩ = some (.int .i64 x.ask) := (block_cell HX1 2).trans rfl; have y3 : w1.cell? ⟨wr.heap.size, 3, none⟩ = some (.int .i64 x.limit) := (block_cell HX1 3).trans rfl; have y4 : w1.cell? ⟨wr.heap.size, 4, none⟩ = some (.int .i64 x.window) := (block_cell HX1 4).trans rfl; have y5 : w1.cell? ⟨wr.heap.size, 5, none⟩ = some (.int .i64 x.hold) := (block_cell HX1 5).trans rfl; have y6 : w1.cell? ⟨wr.heap.size, 6, none⟩ = some (.int .i64 x.rest) := (block_cell HX1 6).trans rfl; clear hw1 HX1) | (go_at_call 26; refine (CW.out _).mono ?_; rintro e w' ⟨rfl, rfl⟩) | (go_at_call 27; ((with_reducible refine (CA.out _).mono ?_)); rintro e w' ⟨rfl, rfl⟩) | (go_at_call 27; ((with_reducible refine (C0.out _).mono ?_)); rintro e w' ⟨rfl, rfl⟩) | (go_at_call 27; ((with_reducible refine (C1.out _).mono ?_)); rintro e w' ⟨rfl, rfl⟩))
                  go_ret
                  exact ⟨by rw [E.out]; rfl, hB1⟩
              · rw [h0] at C0
                have hr : rangeB x = true := by rw [rangeB, h0]; simp
                have E := hide (rlErr_hit H50.out HNO.out hkl (rlErrAt_rule HX.out hnm hany (ruleErr_range hke ha hr)) (by first | decide | assumption))
                clear hke ha hr hnm hany h0
                go_wp2_with (first | (go_at_call 23; refine (CN.out _).mono ?_; rintro e w' ⟨rfl, rfl⟩) | (go_at_call 24; refine CC.out.mono ?_; rintro r w1 ⟨rfl, hw1⟩; have hB1 : Below w.heap.size w w1 := hB.trans (((Below.refl _ _).alloc hz _).trans (hw1.mono (by simp; omega))); have HX1 := block_below HBX.out hw1; have y0 : w1.cell? ⟨wr.heap.size, 0, none⟩ = some (.string x.name) := (block_cell HX1 0).trans rfl; have y1 : w1.cell? ⟨wr.heap.size, 1, none⟩ = some (.string x.key) := (block_cell HX1 1).trans rfl; have y2 : w1.cell? ⟨wr.heap.size, 2, none⟩ = some (.int .i64 x.ask) := (block_cell HX1 2).trans rfl; have y3 : w1.cell? ⟨wr.heap.size, 3, none⟩ = some (.int .i64 x.limit) := (block_cell HX1 3).trans rfl; have y4 : w1.cell? ⟨wr.heap.size, 4, none⟩ = some (.int .i64 x.window) := (block_cell HX1 4).trans rfl; have y5 : w1.cell? ⟨wr.heap.size, 5, none⟩ = some (.int .i64 x.hold) := (block_cell HX1 5).trans rfl; have y6 : w1.cell? ⟨wr.heap.size, 6, none⟩ = some (.int .i64 x.rest) := (block_cell HX1 6).trans rfl; clear hw1 HX1) | (go_at_call 26; refine (CW.out _).mono ?_; rintro e w' ⟨rfl, rfl⟩) | (go_at_call 27; ((with_reducible refine (CA.out _).mono ?_)); rintro e w' ⟨rfl, rfl⟩) | (go_at_call 27; ((with_reducible refine (C0.out _).mono ?_)); rintro e w' ⟨rfl, rfl⟩))
                go_ret
                exact ⟨by rw [E.out]; rfl, hB1⟩
            · rw [ha] at CA
              have E := hide (rlErr_hit H50.out HNO.out hkl (rlErrAt_rule HX.out hnm hany (ruleErr_ask hke ha)) (by first | decide | assumption))
              clear hke ha hnm hany
              go_wp2_with (first | (go_at_call 23; refine (CN.out _).mono ?_; rintro e w' ⟨rfl, rfl⟩) | (go_at_call 24; refine CC.out.mono ?_; rintro r w1 ⟨rfl, hw1⟩; have hB1 : Below w.heap.size w w1 := hB.trans (((Below.refl _ _).alloc hz _).trans (hw1.mono (by simp; omega))); have HX1 := block_below HBX.out hw1; have y0 : w1.cell? ⟨wr.heap.size, 0, none⟩ = some (.string x.name) := (block_cell HX1 0).trans rfl; have y1 : w1.cell? ⟨wr.heap.size, 1, none⟩ = some (.string x.key) := (block_cell HX1 1).trans rfl; have y2 : w1.cell? ⟨wr.heap.size, 2, none⟩ = some (.int .i64 x.ask) := (block_cell HX1 2).trans rfl; have y3 : w1.cell? ⟨wr.heap.size, 3, none⟩ = some (.int .i64 x.limit) := (block_cell HX1 3).trans rfl; have y4 : w1.cell? ⟨wr.heap.size, 4, none⟩ = some (.int .i64 x.window) := (block_cell HX1 4).trans rfl; have y5 : w1.cell? ⟨wr.heap.size, 5, none⟩ = some (.int .i64 x.hold) := (block_cell HX1 5).trans rfl; have y6 : w1.cell? ⟨wr.heap.size, 6, none⟩ = some (.int .i64 x.rest) := (block_cell HX1 6).trans rfl; clear hw1 HX1) | (go_at_call 26; refine (CW.out _).mono ?_; rintro e w' ⟨rfl, rfl⟩) | (go_at_call 27; ((with_reducible refine (CA.out _).mono ?_)); rintro e w' ⟨rfl, rfl⟩))
              go_ret
              exact ⟨by rw [E.out]; rfl, hB1⟩
          · have hne : (keyErr x.key == 0) = false := by simpa using hke
            have E := hide (rlErr_hit H50.out HNO.out hkl (rlErrAt_rule HX.out hnm hany (ruleErr_key hke)) (by first | decide | assumption))
            clear hnm hany
            go_wp2_with (first | (go_at_call 23; refine (CN.out _).mono ?_; rintro e w' ⟨rfl, rfl⟩) | (go_at_call 24; refine CC.out.mono ?_; rintro r w1 ⟨rfl, hw1⟩; have hB1 : Below w.heap.size w w1 := hB.trans (((Below.refl _ _).alloc hz _).trans (hw1.mono (by simp; omega))); have HX1 := block_below HBX.out hw1; have y0 : w1.cell? ⟨wr.heap.size, 0, none⟩ = some (.string x.name) := (block_cell HX1 0).trans rfl; have y1 : w1.cell? ⟨wr.heap.size, 1, none⟩ = some (.string x.key) := (block_cell HX1 1).trans rfl; have y2 : w1.cell? ⟨wr.heap.size, 2, none⟩ = some (.int .i64 x.ask) := (block_cell HX1 2).trans rfl; have y3 : w1.cell? ⟨wr.heap.size, 3, none⟩ = some (.int .i64 x.limit) := (block_cell HX1 3).trans rfl; have y4 : w1.cell? ⟨wr.heap.size, 4, none⟩ = some (.int .i64 x.window) := (block_cell HX1 4).trans rfl; have y5 : w1.cell? ⟨wr.heap.size, 5, none⟩ = some (.int .i64 x.hold) := (block_cell HX1 5).trans rfl; have y6 : w1.cell? ⟨wr.heap.size, 6, none⟩ = some (.int .i64 x.rest) := (block_cell HX1 6).trans rfl; clear hw1 HX1) | (go_at_call 26; refine (CW.out _).mono ?_; rintro e w' ⟨rfl, rfl⟩))
            go_ret
            exact ⟨by rw [E.out]; rfl, hB1⟩
        · rw [hany] at CC
          have E := hide (rlErr_hit H50.out HNO.out hkl (rlErrAt_twice HX.out hnm hany) (by first | decide | assumption))
          clear hnm hany
          go_wp2_with (first | (go_at_call 23; refine (CN.out _).mono ?_; rintro e w' ⟨rfl, rfl⟩) | (go_at_call 24; refine CC.out.mono ?_; rintro r w1 ⟨rfl, hw1⟩; have hB1 : Below w.heap.size w w1 := hB.trans (((Below.refl _ _).alloc hz _).trans (hw1.mono (by simp; omega))); have HX1 := block_below HBX.out hw1; have y0 : w1.cell? ⟨wr.heap.size, 0, none⟩ = some (.string x.name) := (block_cell HX1 0).trans rfl; have y1 : w1.cell? ⟨wr.heap.size, 1, none⟩ = some (.string x.key) := (block_cell HX1 1).trans rfl; have y2 : w1.cell? ⟨wr.heap.size, 2, none⟩ = some (.int .i64 x.ask) := (block_cell HX1 2).trans rfl; have y3 : w1.cell? ⟨wr.heap.size, 3, none⟩ = some (.int .i64 x.limit) := (block_cell HX1 3).trans rfl; have y4 : w1.cell? ⟨wr.heap.size, 4, none⟩ = some (.int .i64 x.window) := (block_cell HX1 4).trans rfl; have y5 : w1.cell? ⟨wr.heap.size, 5, none⟩ = some (.int .i64 x.hold) := (block_cell HX1 5).trans rfl; have y6 : w1.cell? ⟨wr.heap.size, 6, none⟩ = some (.int .i64 x.rest) := (block_cell HX1 6).trans rfl; clear hw1 HX1) | (go_at_call 26; refine (CW.out _).mono ?_; rintro e w' ⟨rfl, rfl⟩))
          go_ret
          exact ⟨by rw [E.out]; rfl, hB1⟩
      · have E := hide (show rlErr l = 0 from rlErr_none H50.out fun j hj => HNO.out j (by have := HL.out; omega))
        go_wp2_with (fail)
        go_ret
        exact ⟨by rw [E.out]; rfl, hB⟩
end Go.Proofs.YtpjfihdbbgencaaDoor
