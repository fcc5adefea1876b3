/- The quotas of a gate: QuotasError, CheckQuotas (printed by gen_gt2.py). -/
import Derived.Test.YtkoijhecahebgaaDoorGtRt
import Derived.Test.YtkoijhecahebgaaDoorRowSet
namespace Go.Proofs.YtkoijhecahebgaaDoor
open Go.RowKit Go.Maps
set_option linter.unusedVariables false
set_option linter.unusedSimpArgs false
structure Qt where
  name : ByteArray
  key : ByteArray
  s : Int
  a : Int
  e : Int
  deriving DecidableEq
def Qt.cs (x : Qt) : List Value := [.string x.name, .string x.key, .int .i64 x.s, .int .i64 x.a, .int .i64 x.e]
def qkOf (l : List Qt) : List (List UInt8) := l.map fun x => x.name.data.toList
/-- The error at place k of quotas. -/
def qtErrAt (l : List Qt) (k : Nat) : Int :=
  match l[k]? with
  | none => 0
  | some x => if nameB x.name then (if (qkOf (l.take k)).contains x.name.data.toList then 6 else if keyErr x.key = 0 then bkErr x.s x.a x.e else keyErr x.key) else 3
def qtErr (l : List Qt) : Int := if 50 < l.length then 4 else firstErr (qtErrAt l) l.length
def anyQt (l : List Qt) (k : ByteArray) : Bool := l.any fun x => beqT x.name k
theorem anyQt_keys (l : List Qt) (k : ByteArray) : anyQt l k = (qkOf l).contains k.data.toList := by
  unfold anyQt qkOf beqT
  induction l with
  | nil => rfl
  | cons x l ih => simp only [List.any_cons, List.map_cons, List.contains_cons, ih]; congr 1; rw [Bool.eq_iff_iff]; simp; exact ⟨Eq.symm, Eq.symm⟩
theorem anyQt_snoc (l : List Qt) (x : Qt) (k : ByteArray) : anyQt (l ++ [x]) k = (anyQt l k || beqT x.name k) := by simp [anyQt]
section
variable {l : List Qt} {k : Nat} {x : Qt}
theorem qtErrAt_name (hx : l[k]? = some x) (h : nameB x.name = false) : qtErrAt l k = 3 := by rw [qtErrAt, hx]; simp [h]
theorem qtErrAt_twice (hx : l[k]? = some x) (h : nameB x.name = true) (h2 : anyQt (l.take k) x.name = true) : qtErrAt l k = 6 := by
  rw [anyQt_keys] at h2; rw [qtErrAt, hx]; simp only [h, h2]; rfl
theorem qtErrAt_key (hx : l[k]? = some x) (h : nameB x.name = true) (h2 : anyQt (l.take k) x.name = false) (h3 : keyErr x.key ≠ 0) : qtErrAt l k = keyErr x.key := by
  rw [anyQt_keys] at h2; rw [qtErrAt, hx]; simp only [h, h2, if_true, Bool.false_eq_true, if_false]; rw [if_neg h3]
theorem qtErrAt_bkt (hx : l[k]? = some x) (h : nameB x.name = true) (h2 : anyQt (l.take k) x.name = false) (h3 : keyErr x.key = 0) : qtErrAt l k = bkErr x.s x.a x.e := by
  rw [anyQt_keys] at h2; rw [qtErrAt, hx]; simp only [h, h2, if_true, Bool.false_eq_true, if_false]; rw [if_pos h3]
theorem qtErr_hit (h : ¬ 50 < l.length) (h0 : ∀ j, j < k → qtErrAt l j = 0) (hk : k < l.length) {v : Int} (hv : qtErrAt l k = v) (hne : v ≠ 0) : qtErr l = v := by
  rw [qtErr, if_neg h, firstErr_hit h0 hk (by rw [hv]; exact hne), hv]
theorem qtErr_none (h : ¬ 50 < l.length) (h0 : ∀ j, j < l.length → qtErrAt l j = 0) : qtErr l = 0 := by
  rw [qtErr, if_neg h, firstErr_zero h0]
theorem qtErr_len (h : qtErr l = 0) : l.length ≤ 50 := by
  unfold qtErr at h
  split at h
  · cases h
  · omega
theorem qtErr_bkt (h : qtErr l = 0) (hx : l[k]? = some x) : bkErr x.s x.a x.e = 0 := by
  have hl := qtErr_len h
  rw [qtErr, if_neg (by omega)] at h
  have h2 := firstErr_all h k (List.getElem?_eq_some_iff.1 hx).1
  unfold qtErrAt at h2
  rw [hx] at h2
  simp only at h2
  split at h2
  · split at h2
    · cases h2
    · split at h2
      · exact h2
      · rename_i hk; exact absurd h2 hk
  · cases h2
end
/-- The strings that are not too long to be held at all. -/
def QtFit (l : List Qt) : Prop := ∀ x ∈ l, x.name.size ≤ maxLen ∧ x.key.size ≤ maxLen
theorem QuotasErr1_any (x : Qt) (k : ByteArray) (b o : Nat) (w : World) (h0 : w.cell? ⟨b, o, none⟩ = some (.string k)) :
    Calls Tryd.prog 26 #[.agg #[.string x.name, .string x.key, .int .i64 x.s, .int .i64 x.a, .int .i64 x.e], .pointer (some ⟨b, o, none⟩)] w fun e w' => e = .returned (.bool (beqT x.name k)) ∧ Below w.heap.size w w' := by
  have E := hide (beqT_toList x.name k)
  go_enter Tryd.func26, Tryd.ntmps26
  go_wp2
  go_ret
  exact ⟨by rw [← E.out]; rfl, by go_grown⟩
set_option maxRecDepth 100000 in
set_option maxHeartbeats 1000000 in
theorem IndexFunc_quota (A : Option Addr) (n cap : Nat) (l : List Qt) (k : ByteArray) (b o : Nat) (w : World) (hn : n ≤ maxLen) (hl : Sl w w.heap.size Qt.cs 5 A n l) (h0 : w.cell? ⟨b, o, none⟩ = some (.string k)) :
    Calls Tryd.prog 52 #[.slice A n cap, .func (.func 26) #[] #[.pointer (some ⟨b, o, none⟩)]] w (FoundInt (anyQt l k) w w) := by
  unfold maxLen at hn
  have HL := hide hl.len
  have hb : b < w.heap.size := World.block_lt_of_cell? w ⟨b, o, none⟩ h0
  go_enter Tryd.func52, Tryd.ntmps52
  go_wp2_with (fail)
  go_loopw [8] (fun i wr => ∃ j : Nat, j ≤ n ∧ i = .int .i64 j ∧ anyQt (l.take j) k = false ∧ Below w.heap.size w wr) (fun i _ => n - (intOf i).toNat)
  case atStart => exact ⟨0, Nat.zero_le _, rfl, rfl, Below.refl _ _⟩
  case round =>
    obtain ⟨j, hj, rfl, hno, hB⟩ := hrel
    have HNO := hide hno
    clear hno
    by_cases hlt : j < n
    · obtain ⟨bb, oo, x, rfl, hbb, hx, hc⟩ := (hl.below hB).at_ hlt
      have c0 : wr.cell? ⟨bb, oo + j * 5, none⟩ = some (.string x.name) := by simpa using hc 0 _ rfl
      have c1 : wr.cell? ⟨bb, oo + j * 5 + 1, none⟩ = some (.string x.key) := by simpa using hc 1 _ rfl
      have c2 : wr.cell? ⟨bb, oo + j * 5 + 2, none⟩ = some (.int .i64 x.s) := by simpa using hc 2 _ rfl
      have c3 : wr.cell? ⟨bb, oo + j * 5 + 3, none⟩ = some (.int .i64 x.a) := by simpa using hc 3 _ rfl
      have c4 : wr.cell? ⟨bb, oo + j * 5 + 4, none⟩ = some (.int .i64 x.e) := by simpa using hc 4 _ rfl
      have hk : wr.cell? ⟨b, o, none⟩ = some (.string k) := (hB.cell (p := ⟨b, o, none⟩) hb).trans h0
      have HX := hide hx
      have hz := hB.size
      have C := hide (QuotasErr1_any x k b o wr hk)
      clear hc hx
      obtain ⟨y, hy⟩ : ∃ y, beqT x.name k = y := ⟨_, rfl⟩
      rw [hy] at C
      have HY := hide hy
      clear hy
      cases y
      · go_wp2_with (go_at_call 26; refine C.out.mono ?_; rintro e w1 ⟨rfl, hw1⟩; have hB1 := hB.trans (hw1.mono hB.size))
        go_roundw
        case rel => exact ⟨j + 1, by omega, by go_num, by rw [take_succ_get HX.out, anyQt_snoc, HNO.out, HY.out]; rfl, hB1⟩
        case measure => simp [intOf]; omega
      · go_wp2_with (go_at_call 26; refine C.out.mono ?_; rintro e w1 ⟨rfl, hw1⟩; have hB1 := hB.trans (hw1.mono hB.size))
        go_ret
        refine ⟨j, rfl, ?_, hB1, rfl⟩
        have : anyQt l k = true := by
          unfold anyQt; rw [List.any_eq_true]; exact ⟨x, List.mem_of_getElem? HX.out, HY.out⟩
        simp [this]
    · have E := hide (show anyQt l k = false by rw [← HNO.out, take_len l (by have := HL.out; omega)])
      go_wp2_with (fail)
      go_ret
      exact ⟨-1, rfl, by rw [E.out]; simp, hB, rfl⟩
theorem ContainsFunc_quota (A : Option Addr) (n cap : Nat) (l : List Qt) (k : ByteArray) (b o : Nat) (w : World) (hn : n ≤ maxLen) (hl : Sl w w.heap.size Qt.cs 5 A n l) (h0 : w.cell? ⟨b, o, none⟩ = some (.string k)) :
    Calls Tryd.prog 25 #[.slice A n cap, .func (.func 26) #[] #[.pointer (some ⟨b, o, none⟩)]] w fun e w' => e = .returned (.bool (anyQt l k)) ∧ Below w.heap.size w w' := by
  have C := hide (IndexFunc_quota A n cap l k b o w hn hl h0)
  obtain ⟨y, hy⟩ : ∃ y, anyQt l k = y := ⟨_, rfl⟩
  rw [hy] at C ⊢
  clear hy hl h0
  go_enter Tryd.func25, Tryd.ntmps25
  go_wp2_with (fail)
  refine C.out.mono ?_
  rintro e w1 ⟨r, rfl, hr, hB, _⟩
  cases y
  · have hr' : r < 0 := by simpa using hr
    clear hr
    go_wp2_with (fail)
    go_ret
    exact ⟨ret_bool (by first | (simp; done) | (simp; omega)), hB⟩
  · have hr' : 0 ≤ r := by simpa using hr
    clear hr
    go_wp2_with (fail)
    go_ret
    exact ⟨ret_bool (by first | (simp; done) | (simp; omega)), hB⟩
set_option maxRecDepth 100000 in
set_option maxHeartbeats 8000000 in
theorem QuotasError_any (A : Option Addr) (n cap : Nat) (l : List Qt) (w : World) (hn : n ≤ maxLen) (hnc : n ≤ cap) (hl : Sl w w.heap.size Qt.cs 5 A n l) (hf : QtFit l) :
    Calls Tryd.prog 6 #[.slice A n cap] w fun e w' => e = .returned (.int .i64 (qtErr l)) ∧ Below w.heap.size w w' := by
  have hn' := hn
  unfold maxLen at hn
  have HL := hide hl.len
  have HSL := hide hl
  clear hl
  by_cases h : 50 < n
  · have E := hide (show qtErr l = 4 by rw [qtErr, if_pos (by rw [HL.out]; exact h)])
    go_enter Tryd.func6, Tryd.ntmps6
    go_wp2_with (fail)
    go_ret
    exact ⟨by rw [E.out]; rfl, Below.refl _ _⟩
  · have h50 : ¬ 50 < l.length := by rw [HL.out]; exact h
    have H50 := hide h50
    clear h50
    go_enter Tryd.func6, Tryd.ntmps6
    go_wp2_with (fail)
    go_loopw [12] (fun i wr => ∃ k : Nat, k ≤ n ∧ i = .int .i64 k ∧ (∀ j, j < k → qtErrAt l j = 0) ∧ Below w.heap.size w wr) (fun i _ => n - (intOf i).toNat)
    case atStart => exact ⟨0, Nat.zero_le _, rfl, fun j hj => absurd hj (by omega), Below.refl _ _⟩
    case round =>
      obtain ⟨k, hk, rfl, hno, hB⟩ := hrel
      have HNO := hide hno
      clear hno
      by_cases hlt : k < n
      · obtain ⟨bb, oo, x, rfl, hbb, hx, hc⟩ := (HSL.out.below hB).at_ hlt
        have hz := hB.size
        have hkf := hf x (List.mem_of_getElem? hx)
        have hkl : k < l.length := by rw [HL.out]; exact hlt
        have c0 : wr.cell? ⟨bb, oo + k * 5, none⟩ = some (.string x.name) := by simpa using hc 0 _ rfl
        have c1 : wr.cell? ⟨bb, oo + k * 5 + 1, none⟩ = some (.string x.key) := by simpa using hc 1 _ rfl
        have c2 : wr.cell? ⟨bb, oo + k * 5 + 2, none⟩ = some (.int .i64 x.s) := by simpa using hc 2 _ rfl
        have c3 : wr.cell? ⟨bb, oo + k * 5 + 3, none⟩ = some (.int .i64 x.a) := by simpa using hc 3 _ rfl
        have c4 : wr.cell? ⟨bb, oo + k * 5 + 4, none⟩ = some (.int .i64 x.e) := by simpa using hc 4 _ rfl
        have HX := hide hx
        have HBX := hide (heap_alloc_new wr (.cells #[.string x.name, .string x.key, .int .i64 x.s, .int .i64 x.a, .int .i64 x.e] 58))
        have hst : Sl (wr.alloc (.cells #[.string x.name, .string x.key, .int .i64 x.s, .int .i64 x.a, .int .i64 x.e] 58)) (wr.alloc (.cells #[.string x.name, .string x.key, .int .i64 x.s, .int .i64 x.a, .int .i64 x.e] 58)).heap.size Qt.cs 5 (some ⟨bb, oo, none⟩) k (l.take k) :=
          (((HSL.out.below hB).below (B := w.heap.size) ((Below.refl _ _).alloc hz _)).more (by simp; omega)).take (by omega)
        have CN := hide (fun W => refName_any x.name W hkf.1)
        have CW := hide (fun W => WordError_any x.key W hkf.2)
        have CC := hide (ContainsFunc_quota (some ⟨bb, oo, none⟩) k cap (l.take k) x.name wr.heap.size 0 _ (by omega) hst (by simp))
        have CB := hide (fun W => BucketError_any x.s x.a x.e W)
        unfold v3 at CB
        clear hc hx hst
        cases hnm : nameB x.name
        · rw [hnm] at CN
          have E := hide (qtErr_hit H50.out HNO.out hkl (qtErrAt_name HX.out hnm) (by decide))
          clear hnm
          go_wp2_with (first | (go_at_call 24; refine (CN.out _).mono ?_; rintro e w' ⟨rfl, rfl⟩))
          go_ret
          exact ⟨by rw [E.out]; rfl, hB.alloc hz _⟩
        rw [hnm] at CN
        cases hany : anyQt (l.take k) x.name
        · skip
          rw [hany] at CC
          by_cases hke : keyErr x.key = 0
          · rw [hke] at CW
            by_cases hbk : bkErr x.s x.a x.e = 0
            · rw [hbk] at CB
              have HK := hide ((qtErrAt_bkt HX.out hnm hany hke).trans hbk)
              clear hnm hany hke hbk
              go_wp2_with (first | (go_at_call 24; refine (CN.out _).mono ?_; rintro e w' ⟨rfl, rfl⟩) | (go_at_call 25; refine CC.out.mono ?_; rintro r w1 ⟨rfl, hw1⟩; have hB1 : Below w.heap.size w w1 := hB.trans (((Below.refl _ _).alloc hz _).trans (hw1.mono (by simp; omega))); have HX1 := block_below HBX.out hw1; have hz1 := hB1.size; have y0 : w1.cell? ⟨wr.heap.size, 0, none⟩ = some (.string x.name) := (block_cell HX1 0).trans rfl; have y1 : w1.cell? ⟨wr.heap.size, 1, none⟩ = some (.string x.key) := (block_cell HX1 1).trans rfl; have y2 : w1.cell? ⟨wr.heap.size, 2, none⟩ = some (.int .i64 x.s) := (block_cell HX1 2).trans rfl; have y3 : w1.cell? ⟨wr.heap.size, 3, none⟩ = some (.int .i64 x.a) := (block_cell HX1 3).trans rfl; have y4 : w1.cell? ⟨wr.heap.size, 4, none⟩ = some (.int .i64 x.e) := (block_cell HX1 4).trans rfl; clear hw1 HX1) | (go_at_call 27; refine (CW.out _).mono ?_; rintro e w' ⟨rfl, rfl⟩) | (go_at_call 28; refine (CB.out _).mono ?_; rintro r w3 ⟨rfl, hw3⟩; have hB3 : Below w.heap.size w w3 := hB1.trans (hw3.mono hz1); clear hw3))
              go_roundw
              case rel => exact ⟨k + 1, by omega, by go_num, fun j hj => by (by_cases e : j < k); exact HNO.out j e; (obtain rfl : j = k := by omega); exact HK.out, hB3⟩
              case measure => simp [intOf]; omega
            · have hne : (bkErr x.s x.a x.e == 0) = false := by simpa using hbk
              have E := hide (qtErr_hit H50.out HNO.out hkl (qtErrAt_bkt HX.out hnm hany hke) hbk)
              clear hnm hany hke
              go_wp2_with (first | (go_at_call 24; refine (CN.out _).mono ?_; rintro e w' ⟨rfl, rfl⟩) | (go_at_call 25; refine CC.out.mono ?_; rintro r w1 ⟨rfl, hw1⟩; have hB1 : Below w.heap.size w w1 := hB.trans (((Below.refl _ _).alloc hz _).trans (hw1.mono (by simp; omega))); have HX1 := block_below HBX.out hw1; have hz1 := hB1.size; have y0 : w1.cell? ⟨wr.heap.size, 0, none⟩ = some (.string x.name) := (block_cell HX1 0).trans rfl; have y1 : w1.cell? ⟨wr.heap.size, 1, none⟩ = some (.string x.key) := (block_cell HX1 1).trans rfl; have y2 : w1.cell? ⟨wr.heap.size, 2, none⟩ = some (.int .i64 x.s) := (block_cell HX1 2).trans rfl; have y3 : w1.cell? ⟨wr.heap.size, 3, none⟩ = some (.int .i64 x.a) := (block_cell HX1 3).trans rfl; have y4 : w1.cell? ⟨wr.heap.size, 4, none⟩ = some (.int .i64 x.e) := (block_cell HX1 4).trans rfl; clear hw1 HX1) | (go_at_call 27; refine (CW.out _).mono ?_; rintro e w' ⟨rfl, rfl⟩) | (go_at_call 28; refine (CB.out _).mono ?_; rintro r w3 ⟨rfl, hw3⟩; have hB3 : Below w.heap.size w w3 := hB1.trans (hw3.mono hz1); clear hw3))
              go_ret
              exact ⟨by rw [E.out]; rfl, hB3⟩
          · have hne : (keyErr x.key == 0) = false := by simpa using hke
            have E := hide (qtErr_hit H50.out HNO.out hkl (qtErrAt_key HX.out hnm hany hke) hke)
            clear hnm hany
            go_wp2_with (first | (go_at_call 24; refine (CN.out _).mono ?_; rintro e w' ⟨rfl, rfl⟩) | (go_at_call 25; refine CC.out.mono ?_; rintro r w1 ⟨rfl, hw1⟩; have hB1 : Below w.heap.size w w1 := hB.trans (((Below.refl _ _).alloc hz _).trans (hw1.mono (by simp; omega))); have HX1 := block_below HBX.out hw1; have hz1 := hB1.size; have y0 : w1.cell? ⟨wr.heap.size, 0, none⟩ = some (.string x.name) := (block_cell HX1 0).trans rfl; have y1 : w1.cell? ⟨wr.heap.size, 1, none⟩ = some (.string x.key) := (block_cell HX1 1).trans rfl; have y2 : w1.cell? ⟨wr.heap.size, 2, none⟩ = some (.int .i64 x.s) := (block_cell HX1 2).trans rfl; have y3 : w1.cell? ⟨wr.heap.size, 3, none⟩ = some (.int .i64 x.a) := (block_cell HX1 3).trans rfl; have y4 : w1.cell? ⟨wr.heap.size, 4, none⟩ = some (.int .i64 x.e) := (block_cell HX1 4).trans rfl; clear hw1 HX1) | (go_at_call 27; refine (CW.out _).mono ?_; rintro e w' ⟨rfl, rfl⟩))
            go_ret
            exact ⟨by rw [E.out]; rfl, hB1⟩
        · skip
          rw [hany] at CC
          have E := hide (qtErr_hit H50.out HNO.out hkl (qtErrAt_twice HX.out hnm hany) (by decide))
          clear hnm hany
          go_wp2_with (first | (go_at_call 24; refine (CN.out _).mono ?_; rintro e w' ⟨rfl, rfl⟩) | (go_at_call 25; refine CC.out.mono ?_; rintro r w1 ⟨rfl, hw1⟩; have hB1 : Below w.heap.size w w1 := hB.trans (((Below.refl _ _).alloc hz _).trans (hw1.mono (by simp; omega))); have HX1 := block_below HBX.out hw1; have hz1 := hB1.size; have y0 : w1.cell? ⟨wr.heap.size, 0, none⟩ = some (.string x.name) := (block_cell HX1 0).trans rfl; have y1 : w1.cell? ⟨wr.heap.size, 1, none⟩ = some (.string x.key) := (block_cell HX1 1).trans rfl; have y2 : w1.cell? ⟨wr.heap.size, 2, none⟩ = some (.int .i64 x.s) := (block_cell HX1 2).trans rfl; have y3 : w1.cell? ⟨wr.heap.size, 3, none⟩ = some (.int .i64 x.a) := (block_cell HX1 3).trans rfl; have y4 : w1.cell? ⟨wr.heap.size, 4, none⟩ = some (.int .i64 x.e) := (block_cell HX1 4).trans rfl; clear hw1 HX1))
          go_ret
          exact ⟨by rw [E.out]; rfl, hB1⟩
      · have E := hide (show qtErr l = 0 from qtErr_none H50.out fun j hj => HNO.out j (by have := HL.out; omega))
        go_wp2_with (fail)
        go_ret
        exact ⟨by rw [E.out]; rfl, hB⟩
/-- The first k names lie in the map at block B. -/
def HasQts (w : World) (B : Nat) (l : List Qt) (k : Nat) : Prop := w.ownsMap (H := Unit) Tryd.prog 9 (plainElem Tryd.prog 4) B k (seenD (qkOf (l.take k)))
theorem qkOf_snoc {l : List Qt} {k : Nat} {x : Qt} (hx : l[k]? = some x) : qkOf (l.take (k + 1)) = qkOf (l.take k) ++ [x.name.data.toList] := by
  rw [take_succ_get hx]; simp [qkOf]
theorem grown_of_below {w w' : World} (h : Below w.heap.size w w') : w.grownBy w' none := ⟨h.os, h.tape, h.output, h.size, fun k hk _ => h.block k hk⟩
set_option maxRecDepth 100000 in
set_option maxHeartbeats 8000000 in
theorem CheckQuotas_any (A : Option Addr) (n cap : Nat) (l : List Qt) (w : World) (hn : n ≤ maxLen) (hl : Sl w w.heap.size Qt.cs 5 A n l) (hf : QtFit l) :
    Calls Tryd.prog 7 #[.slice A n cap] w fun e w' => e = .returned (.int .i64 (qtErr l)) ∧ Below w.heap.size w w' := by
  have hn' := hn
  unfold maxLen at hn
  have HL := hide hl.len
  have HSL := hide hl
  clear hl
  by_cases h : 50 < n
  · have E := hide (show qtErr l = 4 by rw [qtErr, if_pos (by rw [HL.out]; exact h)])
    go_enter Tryd.func7, Tryd.ntmps7
    go_wp2_with (fail)
    go_ret
    exact ⟨by rw [E.out]; rfl, Below.refl _ _⟩
  · have h50 : ¬ 50 < l.length := by rw [HL.out]; exact h
    have H50 := hide h50
    clear h50
    have hmm := @run_makeMap Tryd.prog
    go_enter Tryd.func7, Tryd.ntmps7
    go_wp2_with (fail)
    clear hmm
    go_loopw [14] (fun i wr => ∃ k : Nat, k ≤ n ∧ i = .int .i64 k ∧ (∀ j, j < k → qtErrAt l j = 0) ∧ HasQts wr w.heap.size l k ∧ Below w.heap.size w wr) (fun i _ => n - (intOf i).toNat)
    case atStart => exact ⟨0, Nat.zero_le _, rfl, fun j hj => absurd hj (by omega), World.ownsMap_made _ _ _ _, (Below.refl _ _).alloc (Nat.le_refl _) _⟩
    case round =>
      obtain ⟨k, hk, rfl, hno, hM, hB⟩ := hrel
      have HNO := hide hno
      clear hno
      by_cases hlt : k < n
      · obtain ⟨bb, oo, x, rfl, hbb, hx, hc⟩ := (HSL.out.below hB).at_ hlt
        have hz := hB.size
        have hkf := hf x (List.mem_of_getElem? hx)
        have hkl : k < l.length := by rw [HL.out]; exact hlt
        have c0 : wr.cell? ⟨bb, oo + k * 5, none⟩ = some (.string x.name) := by simpa using hc 0 _ rfl
        have c1 : wr.cell? ⟨bb, oo + k * 5 + 1, none⟩ = some (.string x.key) := by simpa using hc 1 _ rfl
        have c2 : wr.cell? ⟨bb, oo + k * 5 + 2, none⟩ = some (.int .i64 x.s) := by simpa using hc 2 _ rfl
        have c3 : wr.cell? ⟨bb, oo + k * 5 + 3, none⟩ = some (.int .i64 x.a) := by simpa using hc 3 _ rfl
        have c4 : wr.cell? ⟨bb, oo + k * 5 + 4, none⟩ = some (.int .i64 x.e) := by simpa using hc 4 _ rfl
        have HX := hide hx
        have HBX := hide (heap_alloc_new wr (.cells #[.string x.name, .string x.key, .int .i64 x.s, .int .i64 x.a, .int .i64 x.e] 58))
        have HM := hide hM
        have HKF := hide hkf.1
        have hbm : w.heap.size < wr.heap.size := World.ownsMap.lt hM
        have CN := hide (fun W => evName_any x.name W hkf.1)
        have CW := hide (fun W => checkKey_any x.key W hkf.2)
        have CB := hide (fun W => CheckBucket_any x.s x.a x.e W)
        unfold v3 at CB
        clear hc hx hM hkf
        cases hnm : nameB x.name
        · rw [hnm] at CN
          have E := hide (qtErr_hit H50.out HNO.out hkl (qtErrAt_name HX.out hnm) (by decide))
          clear hnm
          go_wp2_with (first | (go_at_call 29; refine (CN.out _).mono ?_; rintro r w1 ⟨rfl, hw1⟩; have hB1 : Below w.heap.size w w1 := hB.trans (((Below.refl _ _).alloc hz _).trans (hw1.mono (by simp; omega))); have HX1 := hide (block_below HBX.out hw1); have HM1 := hide ((HM.out.alloc (.cells #[.string x.name, .string x.key, .int .i64 x.s, .int .i64 x.a, .int .i64 x.e] 58)).kept (grown_of_below hw1) (by simp)); have hz1 := hB1.size; have y0 : w1.cell? ⟨wr.heap.size, 0, none⟩ = some (.string x.name) := (block_cell HX1.out 0).trans rfl; have y1 : w1.cell? ⟨wr.heap.size, 1, none⟩ = some (.string x.key) := (block_cell HX1.out 1).trans rfl; have y2 : w1.cell? ⟨wr.heap.size, 2, none⟩ = some (.int .i64 x.s) := (block_cell HX1.out 2).trans rfl; have y3 : w1.cell? ⟨wr.heap.size, 3, none⟩ = some (.int .i64 x.a) := (block_cell HX1.out 3).trans rfl; have y4 : w1.cell? ⟨wr.heap.size, 4, none⟩ = some (.int .i64 x.e) := (block_cell HX1.out 4).trans rfl; clear hw1))
          go_ret
          exact ⟨by rw [E.out]; rfl, hB1⟩
        rw [hnm] at CN
        cases hany : anyQt (l.take k) x.name
        · skip
          have HC := hide (show (qkOf (l.take k)).contains x.name.data.toList = false by rw [← anyQt_keys]; exact hany)
          by_cases hke : keyErr x.key = 0
          · rw [hke] at CW
            by_cases hbk : bkErr x.s x.a x.e = 0
            · rw [hbk] at CB
              have HK := hide ((qtErrAt_bkt HX.out hnm hany hke).trans hbk)
              clear hnm hany hke hbk
              go_wp2_with (first | (go_at_call 29; refine (CN.out _).mono ?_; rintro r w1 ⟨rfl, hw1⟩; have hB1 : Below w.heap.size w w1 := hB.trans (((Below.refl _ _).alloc hz _).trans (hw1.mono (by simp; omega))); have HX1 := hide (block_below HBX.out hw1); have HM1 := hide ((HM.out.alloc (.cells #[.string x.name, .string x.key, .int .i64 x.s, .int .i64 x.a, .int .i64 x.e] 58)).kept (grown_of_below hw1) (by simp)); have hz1 := hB1.size; have y0 : w1.cell? ⟨wr.heap.size, 0, none⟩ = some (.string x.name) := (block_cell HX1.out 0).trans rfl; have y1 : w1.cell? ⟨wr.heap.size, 1, none⟩ = some (.string x.key) := (block_cell HX1.out 1).trans rfl; have y2 : w1.cell? ⟨wr.heap.size, 2, none⟩ = some (.int .i64 x.s) := (block_cell HX1.out 2).trans rfl; have y3 : w1.cell? ⟨wr.heap.size, 3, none⟩ = some (.int .i64 x.a) := (block_cell HX1.out 3).trans rfl; have y4 : w1.cell? ⟨wr.heap.size, 4, none⟩ = some (.int .i64 x.e) := (block_cell HX1.out 4).trans rfl; clear hw1) | (at_lookup; refine wpList_lookup_seen _ rfl _ _ 71 rfl 9 4 law_str Tryd.underlying71 Tryd.underlying4 (zero_bool _) w.heap.size k _ rfl HM1.out x.name rfl (key_of _ HKF.out) ?_; rw [HC.out]) | (at_mapUpdate; refine wpList_mapUpdate_own _ rfl _ _ _ 71 rfl 9 4 law_str Tryd.underlying71 _ w.heap.size k _ rfl HM1.out (by unfold maxLen; omega) _ _ _ rfl rfl (key_of _ HKF.out) _ [] (plainElem_bool Tryd.underlying4 true) ?_; intro w2 hown2 hg2; have HM2 := hide hown2; have hB2 : Below w.heap.size w w2 := hB1.grown hg2 hz1 (fun j hj => by cases hj; exact Nat.le_refl _); have HX2 := (hg2.block wr.heap.size (lt_of_block HX1.out) (by simp; omega)).trans HX1.out; have hz2 := hB2.size; have y0 : w2.cell? ⟨wr.heap.size, 0, none⟩ = some (.string x.name) := (block_cell HX2 0).trans rfl; have y1 : w2.cell? ⟨wr.heap.size, 1, none⟩ = some (.string x.key) := (block_cell HX2 1).trans rfl; have y2 : w2.cell? ⟨wr.heap.size, 2, none⟩ = some (.int .i64 x.s) := (block_cell HX2 2).trans rfl; have y3 : w2.cell? ⟨wr.heap.size, 3, none⟩ = some (.int .i64 x.a) := (block_cell HX2 3).trans rfl; have y4 : w2.cell? ⟨wr.heap.size, 4, none⟩ = some (.int .i64 x.e) := (block_cell HX2 4).trans rfl; clear hg2 hown2 HX2) | (go_at_call 30; refine (CW.out _).mono ?_; rintro e w' ⟨rfl, rfl⟩) | (go_at_call 31; refine (CB.out _).mono ?_; rintro r w3 ⟨rfl, hw3⟩; have hB3 : Below w.heap.size w w3 := hB2.trans (hw3.mono hz2); have HM3 := hide (HM2.out.kept (grown_of_below hw3) (by simp)); clear hw3))
              go_roundw
              case rel => exact ⟨k + 1, by omega, by go_num, fun j hj => by (by_cases e : j < k); exact HNO.out j e; (obtain rfl : j = k := by omega); exact HK.out, by rw [HasQts, qkOf_snoc HX.out, seenD_snoc]; exact HM3.out, hB3⟩
              case measure => simp [intOf]; omega
            · have hne : (bkErr x.s x.a x.e == 0) = false := by simpa using hbk
              have E := hide (qtErr_hit H50.out HNO.out hkl (qtErrAt_bkt HX.out hnm hany hke) hbk)
              clear hnm hany hke
              go_wp2_with (first | (go_at_call 29; refine (CN.out _).mono ?_; rintro r w1 ⟨rfl, hw1⟩; have hB1 : Below w.heap.size w w1 := hB.trans (((Below.refl _ _).alloc hz _).trans (hw1.mono (by simp; omega))); have HX1 := hide (block_below HBX.out hw1); have HM1 := hide ((HM.out.alloc (.cells #[.string x.name, .string x.key, .int .i64 x.s, .int .i64 x.a, .int .i64 x.e] 58)).kept (grown_of_below hw1) (by simp)); have hz1 := hB1.size; have y0 : w1.cell? ⟨wr.heap.size, 0, none⟩ = some (.string x.name) := (block_cell HX1.out 0).trans rfl; have y1 : w1.cell? ⟨wr.heap.size, 1, none⟩ = some (.string x.key) := (block_cell HX1.out 1).trans rfl; have y2 : w1.cell? ⟨wr.heap.size, 2, none⟩ = some (.int .i64 x.s) := (block_cell HX1.out 2).trans rfl; have y3 : w1.cell? ⟨wr.heap.size, 3, none⟩ = some (.int .i64 x.a) := (block_cell HX1.out 3).trans rfl; have y4 : w1.cell? ⟨wr.heap.size, 4, none⟩ = some (.int .i64 x.e) := (block_cell HX1.out 4).trans rfl; clear hw1) | (at_lookup; refine wpList_lookup_seen _ rfl _ _ 71 rfl 9 4 law_str Tryd.underlying71 Tryd.underlying4 (zero_bool _) w.heap.size k _ rfl HM1.out x.name rfl (key_of _ HKF.out) ?_; rw [HC.out]) | (at_mapUpdate; refine wpList_mapUpdate_own _ rfl _ _ _ 71 rfl 9 4 law_str Tryd.underlying71 _ w.heap.size k _ rfl HM1.out (by unfold maxLen; omega) _ _ _ rfl rfl (key_of _ HKF.out) _ [] (plainElem_bool Tryd.underlying4 true) ?_; intro w2 hown2 hg2; have HM2 := hide hown2; have hB2 : Below w.heap.size w w2 := hB1.grown hg2 hz1 (fun j hj => by cases hj; exact Nat.le_refl _); have HX2 := (hg2.block wr.heap.size (lt_of_block HX1.out) (by simp; omega)).trans HX1.out; have hz2 := hB2.size; have y0 : w2.cell? ⟨wr.heap.size, 0, none⟩ = some (.string x.name) := (block_cell HX2 0).trans rfl; have y1 : w2.cell? ⟨wr.heap.size, 1, none⟩ = some (.string x.key) := (block_cell HX2 1).trans rfl; have y2 : w2.cell? ⟨wr.heap.size, 2, none⟩ = some (.int .i64 x.s) := (block_cell HX2 2).trans rfl; have y3 : w2.cell? ⟨wr.heap.size, 3, none⟩ = some (.int .i64 x.a) := (block_cell HX2 3).trans rfl; have y4 : w2.cell? ⟨wr.heap.size, 4, none⟩ = some (.int .i64 x.e) := (block_cell HX2 4).trans rfl; clear hg2 hown2 HX2) | (go_at_call 30; refine (CW.out _).mono ?_; rintro e w' ⟨rfl, rfl⟩) | (go_at_call 31; refine (CB.out _).mono ?_; rintro r w3 ⟨rfl, hw3⟩; have hB3 : Below w.heap.size w w3 := hB2.trans (hw3.mono hz2); have HM3 := hide (HM2.out.kept (grown_of_below hw3) (by simp)); clear hw3))
              go_ret
              exact ⟨by rw [E.out]; rfl, hB3⟩
          · have hne : (keyErr x.key == 0) = false := by simpa using hke
            have E := hide (qtErr_hit H50.out HNO.out hkl (qtErrAt_key HX.out hnm hany hke) hke)
            clear hnm hany
            go_wp2_with (first | (go_at_call 29; refine (CN.out _).mono ?_; rintro r w1 ⟨rfl, hw1⟩; have hB1 : Below w.heap.size w w1 := hB.trans (((Below.refl _ _).alloc hz _).trans (hw1.mono (by simp; omega))); have HX1 := hide (block_below HBX.out hw1); have HM1 := hide ((HM.out.alloc (.cells #[.string x.name, .string x.key, .int .i64 x.s, .int .i64 x.a, .int .i64 x.e] 58)).kept (grown_of_below hw1) (by simp)); have hz1 := hB1.size; have y0 : w1.cell? ⟨wr.heap.size, 0, none⟩ = some (.string x.name) := (block_cell HX1.out 0).trans rfl; have y1 : w1.cell? ⟨wr.heap.size, 1, none⟩ = some (.string x.key) := (block_cell HX1.out 1).trans rfl; have y2 : w1.cell? ⟨wr.heap.size, 2, none⟩ = some (.int .i64 x.s) := (block_cell HX1.out 2).trans rfl; have y3 : w1.cell? ⟨wr.heap.size, 3, none⟩ = some (.int .i64 x.a) := (block_cell HX1.out 3).trans rfl; have y4 : w1.cell? ⟨wr.heap.size, 4, none⟩ = some (.int .i64 x.e) := (block_cell HX1.out 4).trans rfl; clear hw1) | (at_lookup; refine wpList_lookup_seen _ rfl _ _ 71 rfl 9 4 law_str Tryd.underlying71 Tryd.underlying4 (zero_bool _) w.heap.size k _ rfl HM1.out x.name rfl (key_of _ HKF.out) ?_; rw [HC.out]) | (at_mapUpdate; refine wpList_mapUpdate_own _ rfl _ _ _ 71 rfl 9 4 law_str Tryd.underlying71 _ w.heap.size k _ rfl HM1.out (by unfold maxLen; omega) _ _ _ rfl rfl (key_of _ HKF.out) _ [] (plainElem_bool Tryd.underlying4 true) ?_; intro w2 hown2 hg2; have HM2 := hide hown2; have hB2 : Below w.heap.size w w2 := hB1.grown hg2 hz1 (fun j hj => by cases hj; exact Nat.le_refl _); have HX2 := (hg2.block wr.heap.size (lt_of_block HX1.out) (by simp; omega)).trans HX1.out; have hz2 := hB2.size; have y0 : w2.cell? ⟨wr.heap.size, 0, none⟩ = some (.string x.name) := (block_cell HX2 0).trans rfl; have y1 : w2.cell? ⟨wr.heap.size, 1, none⟩ = some (.string x.key) := (block_cell HX2 1).trans rfl; have y2 : w2.cell? ⟨wr.heap.size, 2, none⟩ = some (.int .i64 x.s) := (block_cell HX2 2).trans rfl; have y3 : w2.cell? ⟨wr.heap.size, 3, none⟩ = some (.int .i64 x.a) := (block_cell HX2 3).trans rfl; have y4 : w2.cell? ⟨wr.heap.size, 4, none⟩ = some (.int .i64 x.e) := (block_cell HX2 4).trans rfl; clear hg2 hown2 HX2) | (go_at_call 30; refine (CW.out _).mono ?_; rintro e w' ⟨rfl, rfl⟩))
            go_ret
            exact ⟨by rw [E.out]; rfl, hB2⟩
        · skip
          have HC := hide (show (qkOf (l.take k)).contains x.name.data.toList = true by rw [← anyQt_keys]; exact hany)
          have E := hide (qtErr_hit H50.out HNO.out hkl (qtErrAt_twice HX.out hnm hany) (by decide))
          clear hnm hany
          go_wp2_with (first | (go_at_call 29; refine (CN.out _).mono ?_; rintro r w1 ⟨rfl, hw1⟩; have hB1 : Below w.heap.size w w1 := hB.trans (((Below.refl _ _).alloc hz _).trans (hw1.mono (by simp; omega))); have HX1 := hide (block_below HBX.out hw1); have HM1 := hide ((HM.out.alloc (.cells #[.string x.name, .string x.key, .int .i64 x.s, .int .i64 x.a, .int .i64 x.e] 58)).kept (grown_of_below hw1) (by simp)); have hz1 := hB1.size; have y0 : w1.cell? ⟨wr.heap.size, 0, none⟩ = some (.string x.name) := (block_cell HX1.out 0).trans rfl; have y1 : w1.cell? ⟨wr.heap.size, 1, none⟩ = some (.string x.key) := (block_cell HX1.out 1).trans rfl; have y2 : w1.cell? ⟨wr.heap.size, 2, none⟩ = some (.int .i64 x.s) := (block_cell HX1.out 2).trans rfl; have y3 : w1.cell? ⟨wr.heap.size, 3, none⟩ = some (.int .i64 x.a) := (block_cell HX1.out 3).trans rfl; have y4 : w1.cell? ⟨wr.heap.size, 4, none⟩ = some (.int .i64 x.e) := (block_cell HX1.out 4).trans rfl; clear hw1) | (at_lookup; refine wpList_lookup_seen _ rfl _ _ 71 rfl 9 4 law_str Tryd.underlying71 Tryd.underlying4 (zero_bool _) w.heap.size k _ rfl HM1.out x.name rfl (key_of _ HKF.out) ?_; rw [HC.out]) | (at_mapUpdate; refine wpList_mapUpdate_own _ rfl _ _ _ 71 rfl 9 4 law_str Tryd.underlying71 _ w.heap.size k _ rfl HM1.out (by unfold maxLen; omega) _ _ _ rfl rfl (key_of _ HKF.out) _ [] (plainElem_bool Tryd.underlying4 true) ?_; intro w2 hown2 hg2; have HM2 := hide hown2; have hB2 : Below w.heap.size w w2 := hB1.grown hg2 hz1 (fun j hj => by cases hj; exact Nat.le_refl _); have HX2 := (hg2.block wr.heap.size (lt_of_block HX1.out) (by simp; omega)).trans HX1.out; have hz2 := hB2.size; have y0 : w2.cell? ⟨wr.heap.size, 0, none⟩ = some (.string x.name) := (block_cell HX2 0).trans rfl; have y1 : w2.cell? ⟨wr.heap.size, 1, none⟩ = some (.string x.key) := (block_cell HX2 1).trans rfl; have y2 : w2.cell? ⟨wr.heap.size, 2, none⟩ = some (.int .i64 x.s) := (block_cell HX2 2).trans rfl; have y3 : w2.cell? ⟨wr.heap.size, 3, none⟩ = some (.int .i64 x.a) := (block_cell HX2 3).trans rfl; have y4 : w2.cell? ⟨wr.heap.size, 4, none⟩ = some (.int .i64 x.e) := (block_cell HX2 4).trans rfl; clear hg2 hown2 HX2))
          go_ret
          exact ⟨by rw [E.out]; rfl, hB1⟩
      · have E := hide (show qtErr l = 0 from qtErr_none H50.out fun j hj => HNO.out j (by have := HL.out; omega))
        go_wp2_with (fail)
        go_ret
        exact ⟨by rw [E.out]; rfl, hB⟩
end Go.Proofs.YtkoijhecahebgaaDoor
