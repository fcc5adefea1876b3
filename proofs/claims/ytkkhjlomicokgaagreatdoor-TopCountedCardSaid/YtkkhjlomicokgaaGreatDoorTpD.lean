/- GtSmp, GtStd, GtBkt, GtBk2, GtKey, GtRt, GtQt, GtL: texts of one's own, in one file. -/
import Derived.Test.YtkkhjlomicokgaaGreatDoorTpC
import Derived.Test.YtkkhjlomicokgaaGreatDoorTpA
import Derived.RegionTactic
import Derived.BigRegion
import Derived.BigQuiet
/- GtSmp: RateSamples over Names (printed by gen_gt0.py). -/
namespace Go.Proofs.YtkkhjlomicokgaaGreatDoor
open Go.RowKit
theorem outside_any (n lo hi : Int) (w : World) :
    Calls Tryz.prog 48 #[.int .i64 n, .int .i64 lo, .int .i64 hi] w fun e w' => e = .returned (.bool (outsideB n lo hi)) ∧ w = w' := by
  go_enter Tryz.func48, Tryz.ntmps48
  go_wp2
  all_goals go_ret
  all_goals (exact ⟨by simp [outsideB, *], rfl⟩)
def fnvStep (h : Int) (c : UInt8) : Int := IntKind.u64.wrap (bits .xor .u64 h (IntKind.u64.wrap (c.toNat : Int)) * 1099511628211)
def fnv (h : Int) (l : List UInt8) : Int := l.foldl fnvStep h
theorem fnv_snoc (h : Int) (l : List UInt8) (c : UInt8) : fnv h (l ++ [c]) = fnvStep (fnv h l) c := by simp [fnv]
def fnvS (s : ByteArray) : Int := fnv 14695981039346656037 s.data.toList
theorem u64_range (x : Int) : 0 ≤ IntKind.u64.wrap x ∧ IntKind.u64.wrap x < 4294967296 * 4294967296 := by rw [IntKind.wrap_u64]; omega
theorem fnv_range (h : Int) (l : List UInt8) (h0 : 0 ≤ h ∧ h < 4294967296 * 4294967296) : 0 ≤ fnv h l ∧ fnv h l < 4294967296 * 4294967296 := by
  induction l generalizing h with
  | nil => exact h0
  | cons c l ih => exact ih _ (u64_range _)
theorem fnvS_range (s : ByteArray) : 0 ≤ fnvS s ∧ fnvS s < 4294967296 * 4294967296 := fnv_range _ _ (by omega)
set_option maxHeartbeats 400000 in
theorem digest_any (s : ByteArray) (w : World) (hs : s.size ≤ maxLen) :
    Calls Tryz.prog 50 #[.string s] w fun e w' => e = .returned (.int .u64 (fnvS s)) ∧ w = w' := by
  unfold maxLen at hs
  go_enter Tryz.func50, Tryz.ntmps50
  go_wp2
  go_loop [3, 7] (fun v i => ∃ k : Nat, k ≤ s.size ∧ i = .int .i64 k ∧ v = .int .u64 (fnv 14695981039346656037 (s.data.toList.take k))) (fun _ i => s.size - (intOf i).toNat)
  case atStart => exact ⟨0, Nat.zero_le _, rfl, rfl⟩
  case round =>
    obtain ⟨k, hk, rfl, rfl⟩ := hrel
    by_cases hlt : k < s.size
    · go_wp2
      all_goals
        go_round
        case rel => exact ⟨k + 1, by omega, by go_num, by rw [take_snoc s k hlt, fnv_snoc, fnvStep]⟩
        case measure => simp [intOf]; omega
    · go_wp2
      go_ret
      exact ⟨by rw [take_all s k hlt]; rfl, rfl⟩
/-- What both sides compute. -/
def sampledB (s : ByteArray) (r : Int) : Bool := decide (fnvS s / 4294967296 * 1000000 < r * 4294967296)
theorem sampled_any (s : ByteArray) (r : Int) (w : World) (hs : s.size ≤ maxLen) (h0 : 0 ≤ r) (h1 : r ≤ 1000000) :
    Calls Tryz.prog 29 #[.string s, .int .i64 r] w fun e w' => e = .returned (.bool (sampledB s r)) ∧ w = w' := by
  have E : Hid (IntKind.u64.wrap (fnvS s / 4294967296 * 1000000) = fnvS s / 4294967296 * 1000000) := by
    have := fnvS_range s; rw [IntKind.wrap_u64]; show _ = _; omega
  go_enter Tryz.func29, Tryz.ntmps29
  go_wp2_with (go_at_call 50; refine (digest_any _ _ hs).mono ?_; rintro e w' ⟨rfl, rfl⟩)
  go_ret
  exact ⟨ret_bool (by rw [E.out]; rfl), rfl⟩
namespace rateSamples
end rateSamples
end Go.Proofs.YtkkhjlomicokgaaGreatDoor

/- GtStd: RateStands over Names (printed by gen_gt0.py). -/
namespace Go.Proofs.YtkkhjlomicokgaaGreatDoor
open Go.RowKit
def rateOk (r : Int) : Bool := !outsideB r 1 1000000
def standSum (l : List Int) : Int := (l.map fun r => 1000000000000 / r).sum
theorem standSum_snoc (l : List Int) (a : Int) : standSum (l ++ [a]) = standSum l + 1000000000000 / a := by simp [standSum]
theorem standSum_bd (l : List Int) (h : ∀ r ∈ l, rateOk r = true) : 0 ≤ standSum l ∧ standSum l ≤ 1000000000000 * l.length := by
  induction l with
  | nil => simp [standSum]
  | cons a l ih =>
    have h1 := ih (fun r hr => h r (List.mem_cons_of_mem _ hr))
    have h2 := h a (List.mem_cons_self ..)
    simp [rateOk, outsideB] at h2
    have h3 : 0 ≤ 1000000000000 / a := Int.ediv_nonneg (by omega) (by omega)
    have h4 : 1000000000000 / a ≤ 1000000000000 := Int.ediv_le_self _ (by omega)
    have h5 : standSum (a :: l) = 1000000000000 / a + standSum l := by simp [standSum]
    rw [h5, List.length_cons]
    omega
/-- What Stands returns: the number, and the error. -/
def standsM (l : List Int) : Int × Int := if 1000 < l.length then (0, 4) else if l.all rateOk then ((standSum l + 500000) / 1000000, 0) else (0, 2)
theorem rateOk_iff (r : Int) : rateOk r = true ↔ 1 ≤ r ∧ r ≤ 1000000 := by simp [rateOk, outsideB]
theorem rateOk_no (r : Int) (h : rateOk r = false) : outsideB r 1 1000000 = true := by simpa [rateOk] using h
theorem rateOk_yes (r : Int) (h : rateOk r = true) : outsideB r 1 1000000 = false := by simpa [rateOk] using h
theorem all_false_of {l : List Int} {k : Nat} {a : Int} (h : l[k]? = some a) (hf : rateOk a = false) : l.all rateOk = false := by
  rw [List.all_eq_false]; exact ⟨a, List.mem_of_getElem? h, by simp [hf]⟩
theorem sl_one_int (w : World) (n : Int) (ty : TypeId) : Sl (w.alloc (.cells #[.int .i64 n] ty)) (w.alloc (.cells #[.int .i64 n] ty)).heap.size ci 1 (some ⟨w.heap.size, 0, none⟩) 1 [n] := by
  refine ⟨rfl, fun _ => ⟨w.heap.size, 0, rfl, by simp, fun i a ha j v hv => ?_⟩⟩
  match i, j, ha, hv with
  | 0, 0, ha, hv =>
    simp at ha hv
    subst ha
    simp [ci] at hv
    subst hv
    simp
  | 0, j + 1, ha, hv => simp [ci] at hv
  | i + 1, _, ha, _ => simp at ha
end Go.Proofs.YtkkhjlomicokgaaGreatDoor

/- GtBkt: RateBkt over Names (printed by gen_gt0.py). -/
namespace Go.Proofs.YtkkhjlomicokgaaGreatDoor
open Go.RowKit
/-- A value of three integers. -/
def v3 (a b c : Int) : Value := .agg #[.int .i64 a, .int .i64 b, .int .i64 c]
theorem isMoment_any (n : Int) (w : World) :
    Calls Tryz.prog 19 #[.int .i64 n] w fun e w' => e = .returned (.bool (!outsideB n 0 3155759999)) ∧ w = w' := by
  go_enter Tryz.func19, Tryz.ntmps19
  go_wp2_with (go_at_call 48; refine (outside_any _ _ _ _).mono ?_; rintro e w' ⟨rfl, rfl⟩)
  go_ret
  exact ⟨rfl, rfl⟩
def bkErr (s a e : Int) : Int := if outsideB s 1 1000000000 || outsideB a 1 1000000000 || outsideB e 1 86400 then 2 else 0
set_option maxHeartbeats 400000 in
theorem CheckBucket_any (s a e : Int) (w : World) :
    Calls Tryz.prog 46 #[v3 s a e] w fun r w' => r = .returned (.int .i64 (bkErr s a e)) ∧ Below w.heap.size w w' := by
  unfold v3
  go_enter Tryz.func46, Tryz.ntmps46
  go_wp2_with (go_at_call 48; refine (outside_any _ _ _ _).mono ?_; rintro r w' ⟨rfl, rfl⟩)
  all_goals go_ret
  all_goals (exact ⟨by simp [bkErr, *], by go_grown⟩)
/-- The error of a bucket and a level. -/
def lvErr (s a e h t r : Int) : Int := if bkErr s a e = 0 then (if outsideB h 0 s || outsideB t 0 3155759999 || outsideB r 0 (e - 1) then 1 else 0) else bkErr s a e
theorem bkOk {s a e : Int} (h : bkErr s a e = 0) : 1 ≤ s ∧ s ≤ 1000000000 ∧ 1 ≤ a ∧ a ≤ 1000000000 ∧ 1 ≤ e ∧ e ≤ 86400 := by
  unfold bkErr outsideB at h; split at h
  · omega
  · rename_i h2; simp at h2; omega
theorem lvOk {s a e h t r : Int} (H : lvErr s a e h t r = 0) : bkErr s a e = 0 ∧ 0 ≤ h ∧ h ≤ s ∧ 0 ≤ t ∧ t ≤ 3155759999 ∧ 0 ≤ r ∧ r ≤ e - 1 := by
  unfold lvErr at H
  split at H
  · rename_i hb
    split at H
    · omega
    · rename_i h2
      simp [outsideB] at h2
      exact ⟨hb, by omega, by omega, by omega, by omega, by omega, by omega⟩
  · omega
/-- The numbers of a level that is poured. -/
def pH (s a e h t r at_ : Int) : Int := if h + (at_ - t + r) / e * a < s then h + (at_ - t + r) / e * a else s
def pR (e t r at_ : Int) : Int := (at_ - t + r) % e
def pourV (s a e h t r at_ : Int) : Value := v3 (pH s a e h t r at_) at_ (pR e t r at_)
theorem mul_bd (x a e : Int) (h0 : 0 ≤ x) (h1 : x ≤ 3155846399) (he : 1 ≤ e) (ha : 0 ≤ a) (ha1 : a ≤ 1000000000) : 0 ≤ x / e * a ∧ x / e * a ≤ 3155846399000000000 := by
  have q0 : 0 ≤ x / e := Int.ediv_nonneg h0 (by omega)
  have q1 : x / e ≤ x := Int.ediv_le_self _ h0
  refine ⟨Int.mul_nonneg q0 ha, ?_⟩
  calc x / e * a ≤ 3155846399 * a := Int.mul_le_mul_of_nonneg_right (by omega) ha
    _ ≤ 3155846399 * 1000000000 := Int.mul_le_mul_of_nonneg_left ha1 (by omega)
    _ = 3155846399000000000 := by decide
set_option maxHeartbeats 1000000 in
theorem pour_any (s a e h t r at_ : Int) (w : World) (H : lvErr s a e h t r = 0) (hx : t ≤ at_) (hx1 : at_ ≤ 3155759999) :
    Calls Tryz.prog 52 #[v3 s a e, v3 h t r, .int .i64 at_] w fun x w' => x = .returned (pourV s a e h t r at_) ∧ Below w.heap.size w w' := by
  obtain ⟨hb, l1, l2, l3, l4, l5, l6⟩ := lvOk H
  obtain ⟨b1, b2, b3, b4, b5, b6⟩ := bkOk hb
  obtain ⟨m1, m2⟩ := mul_bd (at_ - t + r) a e (by omega) (by omega) b5 (by omega) b4
  have E := hide (show pourV s a e h t r at_ = v3 (if h + (at_ - t + r) / e * a < s then h + (at_ - t + r) / e * a else s) at_ ((at_ - t + r) % e) from rfl)
  unfold v3 at E ⊢
  clear H hb
  by_cases hlt : h + (at_ - t + r) / e * a < s
  all_goals
    go_enter Tryz.func52, Tryz.ntmps52
    go_wp2
    go_region
    all_goals go_wp2
    all_goals go_returns
    all_goals (exact ⟨by rw [E.out]; simp; omega, by go_grown⟩)
end Go.Proofs.YtkkhjlomicokgaaGreatDoor

/- GtBk2: RateBkt2 over Names (printed by gen_gt0.py). -/
namespace Go.Proofs.YtkkhjlomicokgaaGreatDoor
open Go.RowKit
def fullE (s a e at_ : Int) : Int := if bkErr s a e = 0 then (if outsideB at_ 0 3155759999 then 2 else 0) else bkErr s a e
def fullA (s a e at_ x : Int) : Int := if fullE s a e at_ = 0 then x else 0
theorem full_any (s a e at_ : Int) (w : World) :
    Calls Tryz.prog 20 #[v3 s a e, .int .i64 at_] w fun x w' => x = .returned (v3 s at_ 0) ∧ Below w.heap.size w w' := by
  unfold v3
  go_enter Tryz.func20, Tryz.ntmps20
  go_wp2
  go_returns
  exact ⟨rfl, by go_grown⟩
/-- The error of Pour. -/
def pourE (s a e h t r at_ : Int) : Int := if lvErr s a e h t r = 0 then (if outsideB at_ 0 3155759999 then 2 else if at_ < t then 5 else 0) else lvErr s a e h t r
def pour1 (s a e h t r at_ : Int) : Int := if pourE s a e h t r at_ = 0 then pH s a e h t r at_ else 0
def pour2 (s a e h t r at_ : Int) : Int := if pourE s a e h t r at_ = 0 then at_ else 0
def pour3 (s a e h t r at_ : Int) : Int := if pourE s a e h t r at_ = 0 then pR e t r at_ else 0
theorem pour_vals {s a e h t r at_ : Int} (H : pourE s a e h t r at_ = 0) : pour1 s a e h t r at_ = pH s a e h t r at_ ∧ pour2 s a e h t r at_ = at_ ∧ pour3 s a e h t r at_ = pR e t r at_ :=
  ⟨by rw [pour1, if_pos H], by rw [pour2, if_pos H], by rw [pour3, if_pos H]⟩
theorem pour_zeros {s a e h t r at_ : Int} (H : pourE s a e h t r at_ ≠ 0) : pour1 s a e h t r at_ = 0 ∧ pour2 s a e h t r at_ = 0 ∧ pour3 s a e h t r at_ = 0 :=
  ⟨by rw [pour1, if_neg H], by rw [pour2, if_neg H], by rw [pour3, if_neg H]⟩
theorem pourOk {s a e h t r at_ : Int} (H : pourE s a e h t r at_ = 0) : lvErr s a e h t r = 0 ∧ 0 ≤ at_ ∧ at_ ≤ 3155759999 ∧ t ≤ at_ := by
  unfold pourE at H
  split at H
  · rename_i hl
    split at H
    · omega
    · rename_i h2
      simp [outsideB] at h2
      split at H
      · omega
      · exact ⟨hl, by omega, by omega, by omega⟩
  · omega
end Go.Proofs.YtkkhjlomicokgaaGreatDoor

/- GtKey: RateKey over Names (printed by gen_gt0.py). -/
namespace Go.Proofs.YtkkhjlomicokgaaGreatDoor
open Go.RowKit
set_option maxHeartbeats 400000 in
theorem checkKey_any (s : ByteArray) (w : World) (hs : s.size ≤ maxLen) :
    Calls Tryz.prog 27 #[.string s] w fun e w' => e = .returned (.int .i64 (keyErr s)) ∧ w = w' := by
  unfold maxLen at hs
  by_cases h : 200 < s.size
  · have E := hide (show keyErr s = 4 by rw [keyErr, if_pos h])
    go_enter Tryz.func27, Tryz.ntmps27
    go_wp2
    go_ret
    exact ⟨by rw [E.out]; rfl, rfl⟩
  · go_enter Tryz.func27, Tryz.ntmps27
    go_wp2
    go_loop [9] (fun i => ∃ k : Nat, k ≤ s.size ∧ i = .int .i64 k ∧ (s.data.toList.take k).all byteOk = true) (fun i => s.size - (intOf i).toNat)
    case atStart => exact ⟨0, Nat.zero_le _, rfl, rfl⟩
    case round =>
      obtain ⟨k, hk, rfl, hall⟩ := hrel
      have HALL := hide hall
      clear hall
      by_cases hlt : k < s.size
      · obtain ⟨c, hc⟩ : ∃ c, s[k] = c := ⟨_, rfl⟩
        by_cases h1 : c.toNat < 32
        · have E := hide (show keyErr s = 9 by rw [keyErr, if_neg h, all_take_false s byteOk k hlt (by rw [hc]; simp [byteOk]; omega)]; rfl)
          have h1' : ((s[k].toNat : Int)) < 32 := by rw [hc]; omega
          clear hc
          go_wp2
          go_ret
          exact ⟨by rw [E.out]; rfl, rfl⟩
        · by_cases h2 : 126 < c.toNat
          · have E := hide (show keyErr s = 9 by rw [keyErr, if_neg h, all_take_false s byteOk k hlt (by rw [hc]; simp [byteOk]; omega)]; rfl)
            have h1' : (32 : Int) ≤ (s[k].toNat : Int) := by rw [hc]; omega
            have h2' : (126 : Int) < (s[k].toNat : Int) := by rw [hc]; omega
            clear hc
            go_wp2
            go_ret
            exact ⟨by rw [E.out]; rfl, rfl⟩
          · have E := hide (show byteOk s[k] = true by rw [hc]; simp [byteOk]; omega)
            have h1' : (32 : Int) ≤ (s[k].toNat : Int) := by rw [hc]; omega
            have h2' : (s[k].toNat : Int) ≤ 126 := by rw [hc]; omega
            clear hc
            go_wp2
            go_round
            case rel => exact ⟨k + 1, by omega, by go_num, by rw [all_take_snoc s byteOk k hlt, HALL.out, E.out]; rfl⟩
            case measure => simp [intOf]; omega
      · have E := hide (show keyErr s = 0 by rw [keyErr, if_neg h, ← take_all s k hlt, HALL.out]; rfl)
        go_wp2
        go_ret
        exact ⟨by rw [E.out]; rfl, rfl⟩
end Go.Proofs.YtkkhjlomicokgaaGreatDoor

/- The rates of a gate: RatesError, checkRates (printed by gen_gt1.py out of the texts of shares). -/
namespace Go.Proofs.YtkkhjlomicokgaaGreatDoor
open Go.RowKit Go.Maps
structure RtK where
  key : ByteArray
  keep : Int
  deriving DecidableEq
def RtK.cs (x : RtK) : List Value := [.string x.key, .int .i64 x.keep]
def rkOf (l : List RtK) : List (List UInt8) := l.map fun x => x.key.data.toList
/-- The error at place k of rates. -/
def rtErrAt (l : List RtK) (k : Nat) : Int :=
  match l[k]? with
  | none => 0
  | some x => if keyErr x.key = 0 then (if (rkOf (l.take k)).contains x.key.data.toList then 6 else if outsideB x.keep 0 1000000 then 2 else 0) else keyErr x.key
def rtErr (l : List RtK) : Int := if 200 < l.length then 4 else firstErr (rtErrAt l) l.length
/-- '==' of two strings, as the walk has it. -/
def beqT (a b : ByteArray) : Bool := a.data.toList == b.data.toList
theorem beqT_toList (a b : ByteArray) : (a.toList == b.toList) = beqT a b := by rw [ByteArray.toList_eq, ByteArray.toList_eq]; rfl
theorem beqT_comm (a b : ByteArray) : beqT a b = beqT b a := by unfold beqT; rw [Bool.eq_iff_iff]; simp; exact ⟨Eq.symm, Eq.symm⟩
def anyRk (l : List RtK) (k : ByteArray) : Bool := l.any fun x => beqT x.key k
theorem anyRk_keys (l : List RtK) (k : ByteArray) : anyRk l k = (rkOf l).contains k.data.toList := by
  unfold anyRk rkOf beqT
  induction l with
  | nil => rfl
  | cons x l ih => simp only [List.any_cons, List.map_cons, List.contains_cons, ih]; congr 1; rw [Bool.eq_iff_iff]; simp; exact ⟨Eq.symm, Eq.symm⟩
theorem anyRk_snoc (l : List RtK) (x : RtK) (k : ByteArray) : anyRk (l ++ [x]) k = (anyRk l k || beqT x.key k) := by simp [anyRk]
/-- The search says whether there is one (a number from 0 on, or -1). -/
def FoundInt (P : Bool) (W w : World) (e : Ending) (w' : World) : Prop := ∃ r : Int, e = .returned (.int .i64 r) ∧ (0 ≤ r ↔ P = true) ∧ Below W.heap.size W w' ∧ W = w
theorem Sl.take {α : Type} {w : World} {B sz n k : Nat} {f : α → List Value} {A : Option Addr} {l : List α} (h : Sl w B f sz A n l) (hk : k ≤ n) : Sl w B f sz A k (l.take k) := by
  refine ⟨by rw [List.length_take, h.len]; omega, fun h0 => ?_⟩
  obtain ⟨b, o, e, hlt, hc⟩ := h.cells (by omega)
  refine ⟨b, o, e, hlt, fun i a ha j v hv => hc i a ?_ j v hv⟩
  rw [List.getElem?_take] at ha
  split at ha
  · exact ha
  · cases ha
/-- The error at place k, by its parts. -/
theorem rtErrAt_key {l : List RtK} {k : Nat} {x : RtK} (hx : l[k]? = some x) (h : keyErr x.key ≠ 0) : rtErrAt l k = keyErr x.key := by
  rw [rtErrAt, hx]; simp [h]
theorem rtErrAt_twice {l : List RtK} {k : Nat} {x : RtK} (hx : l[k]? = some x) (h : keyErr x.key = 0) (h2 : anyRk (l.take k) x.key = true) : rtErrAt l k = 6 := by
  rw [anyRk_keys] at h2; rw [rtErrAt, hx]; simp only [h, h2]; rfl
theorem rtErrAt_range {l : List RtK} {k : Nat} {x : RtK} (hx : l[k]? = some x) (h : keyErr x.key = 0) (h2 : anyRk (l.take k) x.key = false) (h3 : outsideB x.keep 0 1000000 = true) : rtErrAt l k = 2 := by
  rw [anyRk_keys] at h2; rw [rtErrAt, hx]; simp only [h, h2, h3]; rfl
theorem rtErrAt_none {l : List RtK} {k : Nat} {x : RtK} (hx : l[k]? = some x) (h : keyErr x.key = 0) (h2 : anyRk (l.take k) x.key = false) (h3 : outsideB x.keep 0 1000000 = false) : rtErrAt l k = 0 := by
  rw [anyRk_keys] at h2; rw [rtErrAt, hx]; simp only [h, h2, h3]; rfl
theorem rtErr_hit {l : List RtK} {k : Nat} (h : ¬ 200 < l.length) (h0 : ∀ j, j < k → rtErrAt l j = 0) (hk : k < l.length) {v : Int} (hv : rtErrAt l k = v) (hne : v ≠ 0) : rtErr l = v := by
  rw [rtErr, if_neg h, firstErr_hit h0 hk (by rw [hv]; exact hne), hv]
theorem rtErr_none {l : List RtK} (h : ¬ 200 < l.length) (h0 : ∀ j, j < l.length → rtErrAt l j = 0) : rtErr l = 0 := by
  rw [rtErr, if_neg h, firstErr_zero h0]
/-- The keys that are not too long to be held at all. -/
def RkFit (l : List RtK) : Prop := ∀ x ∈ l, x.key.size ≤ maxLen
theorem law_str : Keyed Tryz.prog 9 := string_keyed Tryz.underlying9
theorem zero_bool (w : World) : (zeroValue 4).run Tryz.prog w = .ok (.bool false) w := by kernel_rfl
/-- The first k keys lie in the map at block B. -/
def HasRk (w : World) (B : Nat) (l : List RtK) (k : Nat) : Prop := w.ownsMap (H := Unit) Tryz.prog 9 (plainElem Tryz.prog 4) B k (seenD (rkOf (l.take k)))
theorem rkOf_snoc {l : List RtK} {k : Nat} {x : RtK} (hx : l[k]? = some x) : rkOf (l.take (k + 1)) = rkOf (l.take k) ++ [x.key.data.toList] := by
  rw [take_succ_get hx]; simp [rkOf]
theorem key_of (s : ByteArray) (h : s.size ≤ maxLen) : keyOf Tryz.prog 9 (.string s) = some (.string s.data.toList) := Go.WideMaps.keyOf_string_mk Tryz.underlying9 h
theorem HasRk.look {w : World} {B k : Nat} {l : List RtK} (h : HasRk w B l k) : w.ownsMap (H := Unit) Tryz.prog 9 (plainElem Tryz.prog 4) B k (seenD (rkOf (l.take k))) := h
set_option maxRecDepth 100000 in
set_option maxHeartbeats 2000000 in
theorem checkRates_any (A : Option Addr) (n cap : Nat) (l : List RtK) (w : World) (hn : n ≤ maxLen) (hl : Sl w w.heap.size RtK.cs 2 A n l) (hf : RkFit l) :
    Calls Tryz.prog 47 #[.slice A n cap] w fun e w' => e = .returned (.int .i64 (rtErr l)) ∧ Below w.heap.size w w' := by
  unfold maxLen at hn
  have HL := hide hl.len
  by_cases h : 200 < n
  · have E := hide (show rtErr l = 4 by rw [rtErr, if_pos (by rw [HL.out]; exact h)])
    go_enter Tryz.func47, Tryz.ntmps47
    go_wp2_with (fail)
    go_ret
    exact ⟨by rw [E.out]; rfl, Below.refl _ _⟩
  · have h200 : ¬ 200 < l.length := by rw [HL.out]; exact h
    have H200 := hide h200
    clear h200
    have hmm := @run_makeMap Tryz.prog
    go_enter Tryz.func47, Tryz.ntmps47
    go_wp2_with (fail)
    clear hmm
    go_loopw [13] (fun i wr => ∃ k : Nat, k ≤ n ∧ i = .int .i64 k ∧ (∀ j, j < k → rtErrAt l j = 0) ∧ HasRk wr w.heap.size l k ∧ Below w.heap.size w wr) (fun i _ => n - (intOf i).toNat)
    case atStart => exact ⟨0, Nat.zero_le _, rfl, fun j hj => absurd hj (by omega), World.ownsMap_made _ _ _ _, (Below.refl _ _).alloc (Nat.le_refl _) _⟩
    case round =>
      obtain ⟨k, hk, rfl, hno, hM, hB⟩ := hrel
      have HNO := hide hno
      clear hno
      by_cases hlt : k < n
      · have hlr := hl.below hB
        obtain ⟨bb, oo, x, rfl, hbb, hx, hc⟩ := hlr.at_ hlt
        have c0 := hc 0 _ rfl
        have c1 := hc 1 _ rfl
        simp only [Nat.add_zero] at c0
        have HX := hide hx
        have hz := hB.size
        have hkf : x.key.size ≤ maxLen := hf x (List.mem_of_getElem? hx)
        have hkl : k < l.length := by rw [HL.out]; exact hlt
        have CW := hide (fun W => checkKey_any x.key W hkf)
        have HM := hide hM
        have HKF := hide hkf
        have hbm : w.heap.size < wr.heap.size := World.ownsMap.lt hM
        clear hc hx hlr hM hkf
        by_cases hke : keyErr x.key = 0
        · rw [hke] at CW
          cases hany : anyRk (l.take k) x.key
          · have hcon : (rkOf (l.take k)).contains x.key.data.toList = false := by rw [← anyRk_keys]; exact hany
            have HC := hide hcon
            cases hout : outsideB x.keep 0 1000000
            · have HK := hide (rtErrAt_none HX.out hke hany hout)
              clear hany hke hcon
              go_wp2_with (first | (go_at_call 27; refine (CW.out _).mono ?_; rintro e w' ⟨rfl, rfl⟩) | (go_at_call 48; refine (outside_any _ _ _ _).mono ?_; rintro e w' ⟨rfl, rfl⟩) | (at_lookup; go_must (refine wpList_lookup_seen _ rfl _ _ 124 rfl 9 4 law_str Tryz.underlying124 Tryz.underlying4 (zero_bool _) w.heap.size k _ rfl (HM.out.alloc _) x.key rfl (key_of _ HKF.out) ?_; rw [HC.out])) | (at_mapUpdate; go_must (refine wpList_mapUpdate_own _ rfl _ _ _ 124 rfl 9 4 law_str Tryz.underlying124 _ w.heap.size k _ rfl (HM.out.alloc _) (by unfold maxLen; omega) _ _ _ rfl rfl (key_of _ HKF.out) _ [] (plainElem_bool Tryz.underlying4 true) ?_; intro w1 hown1 hg1; have hB1 : Below w.heap.size w w1 := (hB.alloc hz _).grown hg1 (by simp; omega) (fun j hj => by cases hj; exact Nat.le_refl _); have y1 : w1.cell? ⟨wr.heap.size, 1, none⟩ = some (.int .i64 x.keep) := (World.cell?_of_block (w := wr.alloc _) (hg1.block wr.heap.size (by simp) (by simp; omega))).trans (by simp); clear hg1)))
              go_roundw
              case rel => exact ⟨k + 1, by omega, by go_num, fun j hj => by (by_cases e : j < k); exact HNO.out j e; (obtain rfl : j = k := by omega); exact HK.out, by rw [HasRk, rkOf_snoc HX.out, seenD_snoc]; exact hown1, hB1⟩
              case measure => simp [intOf]; omega
            · have E := hide (show rtErr l = 2 from rtErr_hit H200.out HNO.out hkl (rtErrAt_range HX.out hke hany hout) (by decide))
              clear hany hke hcon
              go_wp2_with (first | (go_at_call 27; refine (CW.out _).mono ?_; rintro e w' ⟨rfl, rfl⟩) | (go_at_call 48; refine (outside_any _ _ _ _).mono ?_; rintro e w' ⟨rfl, rfl⟩) | (at_lookup; go_must (refine wpList_lookup_seen _ rfl _ _ 124 rfl 9 4 law_str Tryz.underlying124 Tryz.underlying4 (zero_bool _) w.heap.size k _ rfl (HM.out.alloc _) x.key rfl (key_of _ HKF.out) ?_; rw [HC.out])) | (at_mapUpdate; go_must (refine wpList_mapUpdate_own _ rfl _ _ _ 124 rfl 9 4 law_str Tryz.underlying124 _ w.heap.size k _ rfl (HM.out.alloc _) (by unfold maxLen; omega) _ _ _ rfl rfl (key_of _ HKF.out) _ [] (plainElem_bool Tryz.underlying4 true) ?_; intro w1 hown1 hg1; have hB1 : Below w.heap.size w w1 := (hB.alloc hz _).grown hg1 (by simp; omega) (fun j hj => by cases hj; exact Nat.le_refl _); have y1 : w1.cell? ⟨wr.heap.size, 1, none⟩ = some (.int .i64 x.keep) := (World.cell?_of_block (w := wr.alloc _) (hg1.block wr.heap.size (by simp) (by simp; omega))).trans (by simp); clear hg1)))
              go_ret
              exact ⟨by rw [E.out]; rfl, hB1⟩
          · have hcon : (rkOf (l.take k)).contains x.key.data.toList = true := by rw [← anyRk_keys]; exact hany
            have HC := hide hcon
            have E := hide (show rtErr l = 6 from rtErr_hit H200.out HNO.out hkl (rtErrAt_twice HX.out hke hany) (by decide))
            clear hany hke hcon
            go_wp2_with (first | (go_at_call 27; refine (CW.out _).mono ?_; rintro e w' ⟨rfl, rfl⟩) | (at_lookup; go_must (refine wpList_lookup_seen _ rfl _ _ 124 rfl 9 4 law_str Tryz.underlying124 Tryz.underlying4 (zero_bool _) w.heap.size k _ rfl (HM.out.alloc _) x.key rfl (key_of _ HKF.out) ?_; rw [HC.out])))
            go_ret
            exact ⟨by rw [E.out]; rfl, hB.alloc hz _⟩
        · have E := hide (show rtErr l = keyErr x.key from rtErr_hit H200.out HNO.out hkl (rtErrAt_key HX.out hke) hke)
          go_wp2_with (first | (go_at_call 27; refine (CW.out _).mono ?_; rintro e w' ⟨rfl, rfl⟩))
          go_ret
          exact ⟨by rw [E.out]; rfl, hB.alloc hz _⟩
      · have E := hide (show rtErr l = 0 from rtErr_none H200.out fun j hj => HNO.out j (by have := HL.out; omega))
        go_wp2_with (fail)
        go_ret
        exact ⟨by rw [E.out]; rfl, hB⟩
end Go.Proofs.YtkkhjlomicokgaaGreatDoor

/- The quotas of a gate: QuotasError, CheckQuotas (printed by gen_gt2.py). -/
namespace Go.Proofs.YtkkhjlomicokgaaGreatDoor
open Go.RowKit Go.Maps
set_option linter.unusedVariables false
set_option linter.unusedSimpArgs false
structure Qt where
  name : ByteArray
  key : ByteArray
  s : Int
  a : Int
  e : Int
  deriving DecidableEq
def Qt.cs (x : Qt) : List Value := [.string x.name, .string x.key, .int .i64 x.s, .int .i64 x.a, .int .i64 x.e]
def qkOf (l : List Qt) : List (List UInt8) := l.map fun x => x.name.data.toList
/-- The error at place k of quotas. -/
def qtErrAt (l : List Qt) (k : Nat) : Int :=
  match l[k]? with
  | none => 0
  | some x => if nameB x.name then (if (qkOf (l.take k)).contains x.name.data.toList then 6 else if keyErr x.key = 0 then bkErr x.s x.a x.e else keyErr x.key) else 3
def qtErr (l : List Qt) : Int := if 50 < l.length then 4 else firstErr (qtErrAt l) l.length
def anyQt (l : List Qt) (k : ByteArray) : Bool := l.any fun x => beqT x.name k
theorem anyQt_keys (l : List Qt) (k : ByteArray) : anyQt l k = (qkOf l).contains k.data.toList := by
  unfold anyQt qkOf beqT
  induction l with
  | nil => rfl
  | cons x l ih => simp only [List.any_cons, List.map_cons, List.contains_cons, ih]; congr 1; rw [Bool.eq_iff_iff]; simp; exact ⟨Eq.symm, Eq.symm⟩
theorem anyQt_snoc (l : List Qt) (x : Qt) (k : ByteArray) : anyQt (l ++ [x]) k = (anyQt l k || beqT x.name k) := by simp [anyQt]
section
variable {l : List Qt} {k : Nat} {x : Qt}
theorem qtErrAt_name (hx : l[k]? = some x) (h : nameB x.name = false) : qtErrAt l k = 3 := by rw [qtErrAt, hx]; simp [h]
theorem qtErrAt_twice (hx : l[k]? = some x) (h : nameB x.name = true) (h2 : anyQt (l.take k) x.name = true) : qtErrAt l k = 6 := by
  rw [anyQt_keys] at h2; rw [qtErrAt, hx]; simp only [h, h2]; rfl
theorem qtErrAt_key (hx : l[k]? = some x) (h : nameB x.name = true) (h2 : anyQt (l.take k) x.name = false) (h3 : keyErr x.key ≠ 0) : qtErrAt l k = keyErr x.key := by
  rw [anyQt_keys] at h2; rw [qtErrAt, hx]; simp only [h, h2, if_true, Bool.false_eq_true, if_false]; rw [if_neg h3]
theorem qtErrAt_bkt (hx : l[k]? = some x) (h : nameB x.name = true) (h2 : anyQt (l.take k) x.name = false) (h3 : keyErr x.key = 0) : qtErrAt l k = bkErr x.s x.a x.e := by
  rw [anyQt_keys] at h2; rw [qtErrAt, hx]; simp only [h, h2, if_true, Bool.false_eq_true, if_false]; rw [if_pos h3]
theorem qtErr_hit (h : ¬ 50 < l.length) (h0 : ∀ j, j < k → qtErrAt l j = 0) (hk : k < l.length) {v : Int} (hv : qtErrAt l k = v) (hne : v ≠ 0) : qtErr l = v := by
  rw [qtErr, if_neg h, firstErr_hit h0 hk (by rw [hv]; exact hne), hv]
theorem qtErr_none (h : ¬ 50 < l.length) (h0 : ∀ j, j < l.length → qtErrAt l j = 0) : qtErr l = 0 := by
  rw [qtErr, if_neg h, firstErr_zero h0]
theorem qtErr_len (h : qtErr l = 0) : l.length ≤ 50 := by
  unfold qtErr at h
  split at h
  · cases h
  · omega
theorem qtErr_bkt (h : qtErr l = 0) (hx : l[k]? = some x) : bkErr x.s x.a x.e = 0 := by
  have hl := qtErr_len h
  rw [qtErr, if_neg (by omega)] at h
  have h2 := firstErr_all h k (List.getElem?_eq_some_iff.1 hx).1
  unfold qtErrAt at h2
  rw [hx] at h2
  simp only at h2
  split at h2
  · split at h2
    · cases h2
    · split at h2
      · exact h2
      · rename_i hk; exact absurd h2 hk
  · cases h2
end
/-- The strings that are not too long to be held at all. -/
def QtFit (l : List Qt) : Prop := ∀ x ∈ l, x.name.size ≤ maxLen ∧ x.key.size ≤ maxLen
/-- The first k names lie in the map at block B. -/
def HasQts (w : World) (B : Nat) (l : List Qt) (k : Nat) : Prop := w.ownsMap (H := Unit) Tryz.prog 9 (plainElem Tryz.prog 4) B k (seenD (qkOf (l.take k)))
theorem qkOf_snoc {l : List Qt} {k : Nat} {x : Qt} (hx : l[k]? = some x) : qkOf (l.take (k + 1)) = qkOf (l.take k) ++ [x.name.data.toList] := by
  rw [take_succ_get hx]; simp [qkOf]
theorem grown_of_below {w w' : World} (h : Below w.heap.size w w') : w.grownBy w' none := ⟨h.os, h.tape, h.output, h.size, fun k hk _ => h.block k hk⟩
set_option maxRecDepth 100000 in
set_option maxHeartbeats 8000000 in
theorem CheckQuotas_any (A : Option Addr) (n cap : Nat) (l : List Qt) (w : World) (hn : n ≤ maxLen) (hl : Sl w w.heap.size Qt.cs 5 A n l) (hf : QtFit l) :
    Calls Tryz.prog 16 #[.slice A n cap] w fun e w' => e = .returned (.int .i64 (qtErr l)) ∧ Below w.heap.size w w' := by
  have hn' := hn
  unfold maxLen at hn
  have HL := hide hl.len
  have HSL := hide hl
  clear hl
  by_cases h : 50 < n
  · have E := hide (show qtErr l = 4 by rw [qtErr, if_pos (by rw [HL.out]; exact h)])
    go_enter Tryz.func16, Tryz.ntmps16
    go_wp2_with (fail)
    go_ret
    exact ⟨by rw [E.out]; rfl, Below.refl _ _⟩
  · have h50 : ¬ 50 < l.length := by rw [HL.out]; exact h
    have H50 := hide h50
    clear h50
    have hmm := @run_makeMap Tryz.prog
    go_enter Tryz.func16, Tryz.ntmps16
    go_wp2_with (fail)
    clear hmm
    go_loopw [14] (fun i wr => ∃ k : Nat, k ≤ n ∧ i = .int .i64 k ∧ (∀ j, j < k → qtErrAt l j = 0) ∧ HasQts wr w.heap.size l k ∧ Below w.heap.size w wr) (fun i _ => n - (intOf i).toNat)
    case atStart => exact ⟨0, Nat.zero_le _, rfl, fun j hj => absurd hj (by omega), World.ownsMap_made _ _ _ _, (Below.refl _ _).alloc (Nat.le_refl _) _⟩
    case round =>
      obtain ⟨k, hk, rfl, hno, hM, hB⟩ := hrel
      have HNO := hide hno
      clear hno
      by_cases hlt : k < n
      · obtain ⟨bb, oo, x, rfl, hbb, hx, hc⟩ := (HSL.out.below hB).at_ hlt
        have hz := hB.size
        have hkf := hf x (List.mem_of_getElem? hx)
        have hkl : k < l.length := by rw [HL.out]; exact hlt
        have c0 : wr.cell? ⟨bb, oo + k * 5, none⟩ = some (.string x.name) := by simpa using hc 0 _ rfl
        have c1 : wr.cell? ⟨bb, oo + k * 5 + 1, none⟩ = some (.string x.key) := by simpa using hc 1 _ rfl
        have c2 : wr.cell? ⟨bb, oo + k * 5 + 2, none⟩ = some (.int .i64 x.s) := by simpa using hc 2 _ rfl
        have c3 : wr.cell? ⟨bb, oo + k * 5 + 3, none⟩ = some (.int .i64 x.a) := by simpa using hc 3 _ rfl
        have c4 : wr.cell? ⟨bb, oo + k * 5 + 4, none⟩ = some (.int .i64 x.e) := by simpa using hc 4 _ rfl
        have HX := hide hx
        have HBX := hide (heap_alloc_new wr (.cells #[.string x.name, .string x.key, .int .i64 x.s, .int .i64 x.a, .int .i64 x.e] 67))
        have HM := hide hM
        have HKF := hide hkf.1
        have hbm : w.heap.size < wr.heap.size := World.ownsMap.lt hM
        have CN := hide (fun W => evName_any x.name W hkf.1)
        have CW := hide (fun W => checkKey_any x.key W hkf.2)
        have CB := hide (fun W => CheckBucket_any x.s x.a x.e W)
        unfold v3 at CB
        clear hc hx hM hkf
        cases hnm : nameB x.name
        · rw [hnm] at CN
          have E := hide (qtErr_hit H50.out HNO.out hkl (qtErrAt_name HX.out hnm) (by decide))
          clear hnm
          go_wp2_with (first | (go_at_call 45; refine (CN.out _).mono ?_; rintro r w1 ⟨rfl, hw1⟩; have hB1 : Below w.heap.size w w1 := hB.trans (((Below.refl _ _).alloc hz _).trans (hw1.mono (by simp; omega))); have HX1 := hide (block_below HBX.out hw1); have HM1 := hide ((HM.out.alloc (.cells #[.string x.name, .string x.key, .int .i64 x.s, .int .i64 x.a, .int .i64 x.e] 67)).kept (grown_of_below hw1) (by simp)); have hz1 := hB1.size; have y0 : w1.cell? ⟨wr.heap.size, 0, none⟩ = some (.string x.name) := (block_cell HX1.out 0).trans rfl; have y1 : w1.cell? ⟨wr.heap.size, 1, none⟩ = some (.string x.key) := (block_cell HX1.out 1).trans rfl; have y2 : w1.cell? ⟨wr.heap.size, 2, none⟩ = some (.int .i64 x.s) := (block_cell HX1.out 2).trans rfl; have y3 : w1.cell? ⟨wr.heap.size, 3, none⟩ = some (.int .i64 x.a) := (block_cell HX1.out 3).trans rfl; have y4 : w1.cell? ⟨wr.heap.size, 4, none⟩ = some (.int .i64 x.e) := (block_cell HX1.out 4).trans rfl; clear hw1))
          go_ret
          exact ⟨by rw [E.out]; rfl, hB1⟩
        rw [hnm] at CN
        cases hany : anyQt (l.take k) x.name
        · skip
          have HC := hide (show (qkOf (l.take k)).contains x.name.data.toList = false by rw [← anyQt_keys]; exact hany)
          by_cases hke : keyErr x.key = 0
          · rw [hke] at CW
            by_cases hbk : bkErr x.s x.a x.e = 0
            · rw [hbk] at CB
              have HK := hide ((qtErrAt_bkt HX.out hnm hany hke).trans hbk)
              clear hnm hany hke hbk
              go_wp2_with (first | (go_at_call 45; refine (CN.out _).mono ?_; rintro r w1 ⟨rfl, hw1⟩; have hB1 : Below w.heap.size w w1 := hB.trans (((Below.refl _ _).alloc hz _).trans (hw1.mono (by simp; omega))); have HX1 := hide (block_below HBX.out hw1); have HM1 := hide ((HM.out.alloc (.cells #[.string x.name, .string x.key, .int .i64 x.s, .int .i64 x.a, .int .i64 x.e] 67)).kept (grown_of_below hw1) (by simp)); have hz1 := hB1.size; have y0 : w1.cell? ⟨wr.heap.size, 0, none⟩ = some (.string x.name) := (block_cell HX1.out 0).trans rfl; have y1 : w1.cell? ⟨wr.heap.size, 1, none⟩ = some (.string x.key) := (block_cell HX1.out 1).trans rfl; have y2 : w1.cell? ⟨wr.heap.size, 2, none⟩ = some (.int .i64 x.s) := (block_cell HX1.out 2).trans rfl; have y3 : w1.cell? ⟨wr.heap.size, 3, none⟩ = some (.int .i64 x.a) := (block_cell HX1.out 3).trans rfl; have y4 : w1.cell? ⟨wr.heap.size, 4, none⟩ = some (.int .i64 x.e) := (block_cell HX1.out 4).trans rfl; clear hw1) | (at_lookup; refine wpList_lookup_seen _ rfl _ _ 124 rfl 9 4 law_str Tryz.underlying124 Tryz.underlying4 (zero_bool _) w.heap.size k _ rfl HM1.out x.name rfl (key_of _ HKF.out) ?_; rw [HC.out]) | (at_mapUpdate; refine wpList_mapUpdate_own _ rfl _ _ _ 124 rfl 9 4 law_str Tryz.underlying124 _ w.heap.size k _ rfl HM1.out (by unfold maxLen; omega) _ _ _ rfl rfl (key_of _ HKF.out) _ [] (plainElem_bool Tryz.underlying4 true) ?_; intro w2 hown2 hg2; have HM2 := hide hown2; have hB2 : Below w.heap.size w w2 := hB1.grown hg2 hz1 (fun j hj => by cases hj; exact Nat.le_refl _); have HX2 := (hg2.block wr.heap.size (lt_of_block HX1.out) (by simp; omega)).trans HX1.out; have hz2 := hB2.size; have y0 : w2.cell? ⟨wr.heap.size, 0, none⟩ = some (.string x.name) := (block_cell HX2 0).trans rfl; have y1 : w2.cell? ⟨wr.heap.size, 1, none⟩ = some (.string x.key) := (block_cell HX2 1).trans rfl; have y2 : w2.cell? ⟨wr.heap.size, 2, none⟩ = some (.int .i64 x.s) := (block_cell HX2 2).trans rfl; have y3 : w2.cell? ⟨wr.heap.size, 3, none⟩ = some (.int .i64 x.a) := (block_cell HX2 3).trans rfl; have y4 : w2.cell? ⟨wr.heap.size, 4, none⟩ = some (.int .i64 x.e) := (block_cell HX2 4).trans rfl; clear hg2 hown2 HX2) | (go_at_call 27; refine (CW.out _).mono ?_; rintro e w' ⟨rfl, rfl⟩) | (go_at_call 46; refine (CB.out _).mono ?_; rintro r w3 ⟨rfl, hw3⟩; have hB3 : Below w.heap.size w w3 := hB2.trans (hw3.mono hz2); have HM3 := hide (HM2.out.kept (grown_of_below hw3) (by simp)); clear hw3))
              go_roundw
              case rel => exact ⟨k + 1, by omega, by go_num, fun j hj => by (by_cases e : j < k); exact HNO.out j e; (obtain rfl : j = k := by omega); exact HK.out, by rw [HasQts, qkOf_snoc HX.out, seenD_snoc]; exact HM3.out, hB3⟩
              case measure => simp [intOf]; omega
            · have hne : (bkErr x.s x.a x.e == 0) = false := by simpa using hbk
              have E := hide (qtErr_hit H50.out HNO.out hkl (qtErrAt_bkt HX.out hnm hany hke) hbk)
              clear hnm hany hke
              go_wp2_with (first | (go_at_call 45; refine (CN.out _).mono ?_; rintro r w1 ⟨rfl, hw1⟩; have hB1 : Below w.heap.size w w1 := hB.trans (((Below.refl _ _).alloc hz _).trans (hw1.mono (by simp; omega))); have HX1 := hide (block_below HBX.out hw1); have HM1 := hide ((HM.out.alloc (.cells #[.string x.name, .string x.key, .int .i64 x.s, .int .i64 x.a, .int .i64 x.e] 67)).kept (grown_of_below hw1) (by simp)); have hz1 := hB1.size; have y0 : w1.cell? ⟨wr.heap.size, 0, none⟩ = some (.string x.name) := (block_cell HX1.out 0).trans rfl; have y1 : w1.cell? ⟨wr.heap.size, 1, none⟩ = some (.string x.key) := (block_cell HX1.out 1).trans rfl; have y2 : w1.cell? ⟨wr.heap.size, 2, none⟩ = some (.int .i64 x.s) := (block_cell HX1.out 2).trans rfl; have y3 : w1.cell? ⟨wr.heap.size, 3, none⟩ = some (.int .i64 x.a) := (block_cell HX1.out 3).trans rfl; have y4 : w1.cell? ⟨wr.heap.size, 4, none⟩ = some (.int .i64 x.e) := (block_cell HX1.out 4).trans rfl; clear hw1) | (at_lookup; refine wpList_lookup_seen _ rfl _ _ 124 rfl 9 4 law_str Tryz.underlying124 Tryz.underlying4 (zero_bool _) w.heap.size k _ rfl HM1.out x.name rfl (key_of _ HKF.out) ?_; rw [HC.out]) | (at_mapUpdate; refine wpList_mapUpdate_own _ rfl _ _ _ 124 rfl 9 4 law_str Tryz.underlying124 _ w.heap.size k _ rfl HM1.out (by unfold maxLen; omega) _ _ _ rfl rfl (key_of _ HKF.out) _ [] (plainElem_bool Tryz.underlying4 true) ?_; intro w2 hown2 hg2; have HM2 := hide hown2; have hB2 : Below w.heap.size w w2 := hB1.grown hg2 hz1 (fun j hj => by cases hj; exact Nat.le_refl _); have HX2 := (hg2.block wr.heap.size (lt_of_block HX1.out) (by simp; omega)).trans HX1.out; have hz2 := hB2.size; have y0 : w2.cell? ⟨wr.heap.size, 0, none⟩ = some (.string x.name) := (block_cell HX2 0).trans rfl; have y1 : w2.cell? ⟨wr.heap.size, 1, none⟩ = some (.string x.key) := (block_cell HX2 1).trans rfl; have y2 : w2.cell? ⟨wr.heap.size, 2, none⟩ = some (.int .i64 x.s) := (block_cell HX2 2).trans rfl; have y3 : w2.cell? ⟨wr.heap.size, 3, none⟩ = some (.int .i64 x.a) := (block_cell HX2 3).trans rfl; have y4 : w2.cell? ⟨wr.heap.size, 4, none⟩ = some (.int .i64 x.e) := (block_cell HX2 4).trans rfl; clear hg2 hown2 HX2) | (go_at_call 27; refine (CW.out _).mono ?_; rintro e w' ⟨rfl, rfl⟩) | (go_at_call 46; refine (CB.out _).mono ?_; rintro r w3 ⟨rfl, hw3⟩; have hB3 : Below w.heap.size w w3 := hB2.trans (hw3.mono hz2); have HM3 := hide (HM2.out.kept (grown_of_below hw3) (by simp)); clear hw3))
              go_ret
              exact ⟨by rw [E.out]; rfl, hB3⟩
          · have hne : (keyErr x.key == 0) = false := by simpa using hke
            have E := hide (qtErr_hit H50.out HNO.out hkl (qtErrAt_key HX.out hnm hany hke) hke)
            clear hnm hany
            go_wp2_with (first | (go_at_call 45; refine (CN.out _).mono ?_; rintro r w1 ⟨rfl, hw1⟩; have hB1 : Below w.heap.size w w1 := hB.trans (((Below.refl _ _).alloc hz _).trans (hw1.mono (by simp; omega))); have HX1 := hide (block_below HBX.out hw1); have HM1 := hide ((HM.out.alloc (.cells #[.string x.name, .string x.key, .int .i64 x.s, .int .i64 x.a, .int .i64 x.e] 67)).kept (grown_of_below hw1) (by simp)); have hz1 := hB1.size; have y0 : w1.cell? ⟨wr.heap.size, 0, none⟩ = some (.string x.name) := (block_cell HX1.out 0).trans rfl; have y1 : w1.cell? ⟨wr.heap.size, 1, none⟩ = some (.string x.key) := (block_cell HX1.out 1).trans rfl; have y2 : w1.cell? ⟨wr.heap.size, 2, none⟩ = some (.int .i64 x.s) := (block_cell HX1.out 2).trans rfl; have y3 : w1.cell? ⟨wr.heap.size, 3, none⟩ = some (.int .i64 x.a) := (block_cell HX1.out 3).trans rfl; have y4 : w1.cell? ⟨wr.heap.size, 4, none⟩ = some (.int .i64 x.e) := (block_cell HX1.out 4).trans rfl; clear hw1) | (at_lookup; refine wpList_lookup_seen _ rfl _ _ 124 rfl 9 4 law_str Tryz.underlying124 Tryz.underlying4 (zero_bool _) w.heap.size k _ rfl HM1.out x.name rfl (key_of _ HKF.out) ?_; rw [HC.out]) | (at_mapUpdate; refine wpList_mapUpdate_own _ rfl _ _ _ 124 rfl 9 4 law_str Tryz.underlying124 _ w.heap.size k _ rfl HM1.out (by unfold maxLen; omega) _ _ _ rfl rfl (key_of _ HKF.out) _ [] (plainElem_bool Tryz.underlying4 true) ?_; intro w2 hown2 hg2; have HM2 := hide hown2; have hB2 : Below w.heap.size w w2 := hB1.grown hg2 hz1 (fun j hj => by cases hj; exact Nat.le_refl _); have HX2 := (hg2.block wr.heap.size (lt_of_block HX1.out) (by simp; omega)).trans HX1.out; have hz2 := hB2.size; have y0 : w2.cell? ⟨wr.heap.size, 0, none⟩ = some (.string x.name) := (block_cell HX2 0).trans rfl; have y1 : w2.cell? ⟨wr.heap.size, 1, none⟩ = some (.string x.key) := (block_cell HX2 1).trans rfl; have y2 : w2.cell? ⟨wr.heap.size, 2, none⟩ = some (.int .i64 x.s) := (block_cell HX2 2).trans rfl; have y3 : w2.cell? ⟨wr.heap.size, 3, none⟩ = some (.int .i64 x.a) := (block_cell HX2 3).trans rfl; have y4 : w2.cell? ⟨wr.heap.size, 4, none⟩ = some (.int .i64 x.e) := (block_cell HX2 4).trans rfl; clear hg2 hown2 HX2) | (go_at_call 27; refine (CW.out _).mono ?_; rintro e w' ⟨rfl, rfl⟩))
            go_ret
            exact ⟨by rw [E.out]; rfl, hB2⟩
        · skip
          have HC := hide (show (qkOf (l.take k)).contains x.name.data.toList = true by rw [← anyQt_keys]; exact hany)
          have E := hide (qtErr_hit H50.out HNO.out hkl (qtErrAt_twice HX.out hnm hany) (by decide))
          clear hnm hany
          go_wp2_with (first | (go_at_call 45; refine (CN.out _).mono ?_; rintro r w1 ⟨rfl, hw1⟩; have hB1 : Below w.heap.size w w1 := hB.trans (((Below.refl _ _).alloc hz _).trans (hw1.mono (by simp; omega))); have HX1 := hide (block_below HBX.out hw1); have HM1 := hide ((HM.out.alloc (.cells #[.string x.name, .string x.key, .int .i64 x.s, .int .i64 x.a, .int .i64 x.e] 67)).kept (grown_of_below hw1) (by simp)); have hz1 := hB1.size; have y0 : w1.cell? ⟨wr.heap.size, 0, none⟩ = some (.string x.name) := (block_cell HX1.out 0).trans rfl; have y1 : w1.cell? ⟨wr.heap.size, 1, none⟩ = some (.string x.key) := (block_cell HX1.out 1).trans rfl; have y2 : w1.cell? ⟨wr.heap.size, 2, none⟩ = some (.int .i64 x.s) := (block_cell HX1.out 2).trans rfl; have y3 : w1.cell? ⟨wr.heap.size, 3, none⟩ = some (.int .i64 x.a) := (block_cell HX1.out 3).trans rfl; have y4 : w1.cell? ⟨wr.heap.size, 4, none⟩ = some (.int .i64 x.e) := (block_cell HX1.out 4).trans rfl; clear hw1) | (at_lookup; refine wpList_lookup_seen _ rfl _ _ 124 rfl 9 4 law_str Tryz.underlying124 Tryz.underlying4 (zero_bool _) w.heap.size k _ rfl HM1.out x.name rfl (key_of _ HKF.out) ?_; rw [HC.out]) | (at_mapUpdate; refine wpList_mapUpdate_own _ rfl _ _ _ 124 rfl 9 4 law_str Tryz.underlying124 _ w.heap.size k _ rfl HM1.out (by unfold maxLen; omega) _ _ _ rfl rfl (key_of _ HKF.out) _ [] (plainElem_bool Tryz.underlying4 true) ?_; intro w2 hown2 hg2; have HM2 := hide hown2; have hB2 : Below w.heap.size w w2 := hB1.grown hg2 hz1 (fun j hj => by cases hj; exact Nat.le_refl _); have HX2 := (hg2.block wr.heap.size (lt_of_block HX1.out) (by simp; omega)).trans HX1.out; have hz2 := hB2.size; have y0 : w2.cell? ⟨wr.heap.size, 0, none⟩ = some (.string x.name) := (block_cell HX2 0).trans rfl; have y1 : w2.cell? ⟨wr.heap.size, 1, none⟩ = some (.string x.key) := (block_cell HX2 1).trans rfl; have y2 : w2.cell? ⟨wr.heap.size, 2, none⟩ = some (.int .i64 x.s) := (block_cell HX2 2).trans rfl; have y3 : w2.cell? ⟨wr.heap.size, 3, none⟩ = some (.int .i64 x.a) := (block_cell HX2 3).trans rfl; have y4 : w2.cell? ⟨wr.heap.size, 4, none⟩ = some (.int .i64 x.e) := (block_cell HX2 4).trans rfl; clear hg2 hown2 HX2))
          go_ret
          exact ⟨by rw [E.out]; rfl, hB1⟩
      · have E := hide (show qtErr l = 0 from qtErr_none H50.out fun j hj => HNO.out j (by have := HL.out; omega))
        go_wp2_with (fail)
        go_ret
        exact ⟨by rw [E.out]; rfl, hB⟩
end Go.Proofs.YtkkhjlomicokgaaGreatDoor

/- A gate in plain Lean: levels, poured in one step and in two; what Ask does to them; tallies. No program. -/
namespace Go.Proofs.YtkkhjlomicokgaaGreatDoor
set_option linter.unusedVariables false
set_option linter.unusedSimpArgs false
structure Lv where
  h : Int
  t : Int
  r : Int
  deriving DecidableEq
def Lv.cs (x : Lv) : List Value := [.int .i64 x.h, .int .i64 x.t, .int .i64 x.r]
def pourL (q : Qt) (t : Int) (x : Lv) : Lv := ⟨pH q.s q.a q.e x.h x.t x.r t, t, pR q.e x.t x.r t⟩
/-- A level that is one of a quota's bucket. -/
structure LvOk (q : Qt) (x : Lv) : Prop where
  b : bkErr q.s q.a q.e = 0
  h0 : 0 ≤ x.h
  h1 : x.h ≤ q.s
  t0 : 0 ≤ x.t
  t1 : x.t ≤ 3155759999
  r0 : 0 ≤ x.r
  r1 : x.r ≤ q.e - 1
theorem LvOk.err {q : Qt} {x : Lv} (h : LvOk q x) : lvErr q.s q.a q.e x.h x.t x.r = 0 := by
  have h1 := h.h0; have h2 := h.h1; have h3 := h.t0; have h4 := h.t1; have h5 := h.r0; have h6 := h.r1
  unfold lvErr
  rw [if_pos h.b, if_neg]
  simp only [outsideB, Bool.or_eq_true, decide_eq_true_eq]
  omega
theorem LvOk.bk {q : Qt} {x : Lv} (h : LvOk q x) : 1 ≤ q.s ∧ q.s ≤ 1000000000 ∧ 1 ≤ q.a ∧ q.a ≤ 1000000000 ∧ 1 ≤ q.e ∧ q.e ≤ 86400 := bkOk h.b
theorem LvOk.pour {q : Qt} {x : Lv} {t : Int} (h : LvOk q x) (ht : x.t ≤ t) (h1 : t ≤ 3155759999) : LvOk q (pourL q t x) := by
  obtain ⟨b1, b2, b3, b4, b5, b6⟩ := h.bk
  have hm : 0 ≤ (t - x.t + x.r) / q.e * q.a := Int.mul_nonneg (Int.ediv_nonneg (by have := h.r0; omega) (by omega)) (by omega)
  have hr := Int.emod_nonneg (t - x.t + x.r) (show q.e ≠ 0 by omega)
  have hr2 := Int.emod_lt_of_pos (t - x.t + x.r) (show 0 < q.e by omega)
  have hh := h.h0
  refine ⟨h.b, ?_, ?_, by have := h.t0; show 0 ≤ t; omega, h1, hr, by show _ % _ ≤ _; omega⟩
  · show 0 ≤ pH _ _ _ _ _ _ _
    unfold pH; split <;> omega
  · show pH _ _ _ _ _ _ _ ≤ _
    unfold pH; split <;> omega
theorem pour_pour {q : Qt} {x : Lv} {t u : Int} (h : LvOk q x) (ht : x.t ≤ t) (hu : t ≤ u) : pourL q u (pourL q t x) = pourL q u x := by
  obtain ⟨b1, b2, b3, b4, b5, b6⟩ := h.bk
  have r0 := h.r0; have h0 := h.h0; have h1 := h.h1
  obtain ⟨m, hm⟩ : ∃ m, t - x.t + x.r = m := ⟨_, rfl⟩
  have e1 : u - t + m % q.e + q.e * (m / q.e) = u - x.t + x.r := by have := Int.mul_ediv_add_emod m q.e; omega
  have e2 : (u - x.t + x.r) / q.e = (u - t + m % q.e) / q.e + m / q.e := by rw [← e1, Int.add_mul_ediv_left _ _ (by omega)]
  have e3 : (u - x.t + x.r) % q.e = (u - t + m % q.e) % q.e := by rw [← e1, Int.add_mul_emod_self_left]
  have hm0 : 0 ≤ m / q.e := Int.ediv_nonneg (by omega) (by omega)
  have hn0 : 0 ≤ (u - t + m % q.e) / q.e := Int.ediv_nonneg (by have := Int.emod_nonneg m (show q.e ≠ 0 by omega); omega) (by omega)
  have hA : 0 ≤ m / q.e * q.a := Int.mul_nonneg hm0 (by omega)
  have hB : 0 ≤ (u - t + m % q.e) / q.e * q.a := Int.mul_nonneg hn0 (by omega)
  unfold pourL pH pR
  simp only [hm]
  rw [e2, e3, Int.add_mul]
  refine congrArg (fun z => Lv.mk z u _) ?_
  by_cases c1 : x.h + m / q.e * q.a < q.s
  · rw [if_pos c1]
    by_cases c2 : x.h + m / q.e * q.a + (u - t + m % q.e) / q.e * q.a < q.s
    · rw [if_pos c2, if_pos (by omega)]; omega
    · rw [if_neg c2, if_neg (by omega)]
  · rw [if_neg c1, if_neg (by omega), if_neg (by omega)]
/-- One is taken out of a level that was poured just now. -/
def Lv.less (x : Lv) : Lv := ⟨x.h - 1, x.t, x.r⟩
theorem pour_self {q : Qt} {x : Lv} (h : LvOk q x) (hs : x.h ≤ q.s) : pourL q x.t x = x := by
  obtain ⟨b1, b2, b3, b4, b5, b6⟩ := h.bk
  have r0 := h.r0; have r1 := h.r1
  have e1 : x.t - x.t + x.r = x.r := by omega
  have e2 : x.r / q.e = 0 := Int.ediv_eq_zero_of_lt r0 (by omega)
  have e3 : x.r % q.e = x.r := Int.emod_eq_of_lt r0 (by omega)
  unfold pourL pH pR
  rw [e1, e2, e3]
  have e4 : x.h + 0 * q.a = x.h := by rw [Int.zero_mul]; omega
  rw [e4]
  by_cases c : x.h < q.s
  · rw [if_pos c]
  · rw [if_neg c, show q.s = x.h by omega]
theorem LvOk.less {q : Qt} {x : Lv} (h : LvOk q x) (hp : x.h ≠ 0) : LvOk q x.less :=
  ⟨h.b, by have := h.h0; show 0 ≤ x.h - 1; omega, by have := h.h1; show x.h - 1 ≤ _; omega, h.t0, h.t1, h.r0, h.r1⟩
/-- A bucket that is full. -/
def fullL (t : Int) (q : Qt) : Lv := ⟨q.s, t, 0⟩
theorem LvOk.full {q : Qt} {t : Int} (hb : bkErr q.s q.a q.e = 0) (h0 : 0 ≤ t) (h1 : t ≤ 3155759999) : LvOk q (fullL t q) := by
  obtain ⟨b1, b2, b3, b4, b5, b6⟩ := bkOk hb
  exact ⟨hb, by show 0 ≤ q.s; omega, Int.le_refl _, h0, h1, Int.le_refl _, by show 0 ≤ q.e - 1; omega⟩

end Go.Proofs.YtkkhjlomicokgaaGreatDoor
