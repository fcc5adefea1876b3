/- Frames: what they are, and the walks of CheckFrame and FrameError. -/
import Derived.Test.YtomihkflhhhpjaaDoorBytes
import Derived.Test.YtomihkflhhhpjaaDoorMem
import Derived.Test.YtomihkflhhhpjaaDoorFirsts
namespace Go.Proofs.YtomihkflhhhpjaaDoor
open Go.RowKit
set_option maxHeartbeats 800000 in
theorem isWord_any (s : ByteArray) (t : ByteArray) (w : World) (hs : s.size ≤ maxLen) :
    Calls Tryd.prog 98 #[.string s, .string t] w fun e w' => e = .returned (.bool (bytesInB s 33 t.data.toList)) ∧ w = w' := by
  unfold maxLen at hs
  go_enter Tryd.func98, Tryd.ntmps98
  go_wp2
  go_loop [8] (fun i => ∃ k : Nat, k ≤ s.size ∧ i = .int .i64 k ∧ (s.data.toList.take k).all (fun c => decide (33 ≤ c.toNat) && decide (c.toNat ≤ 126) && !t.data.toList.contains c) = true) (fun i => s.size - (intOf i).toNat)
  case atStart => exact ⟨0, Nat.zero_le _, rfl, rfl⟩
  case round =>
    obtain ⟨k, hk, rfl, hall⟩ := hrel
    have HALL := hide hall
    clear hall
    by_cases hlt : k < s.size
    · obtain ⟨c, hc⟩ : ∃ c, s[k] = c := ⟨_, rfl⟩
      by_cases h1 : c.toNat < 33
      · have E := hide (show bytesInB s 33 t.data.toList = false from all_take_false s _ k hlt (by rw [hc]; simp; omega))
        have h1' : ((s[k].toNat : Int)) < 33 := by rw [hc]; omega
        clear hc
        go_wp2_with (fail)
        go_ret
        exact ⟨by rw [E.out]; rfl, rfl⟩
      · by_cases h2 : 126 < c.toNat
        · have E := hide (show bytesInB s 33 t.data.toList = false from all_take_false s _ k hlt (by rw [hc]; simp; omega))
          have h1' : (33 : Int) ≤ (s[k].toNat : Int) := by rw [hc]; omega
          have h2' : (126 : Int) < (s[k].toNat : Int) := by rw [hc]; omega
          clear hc
          go_wp2_with (fail)
          go_ret
          exact ⟨by rw [E.out]; rfl, rfl⟩
        · have h1' : (33 : Int) ≤ (s[k].toNat : Int) := by rw [hc]; omega
          have h2' : (s[k].toNat : Int) ≤ 126 := by rw [hc]; omega
          have hcc : ((s[k].toNat : Int)).toNat.toUInt8 = c := by rw [hc]; simp
          cases h3 : t.data.toList.contains c
          · have E := hide (show (fun c : UInt8 => decide (33 ≤ c.toNat) && decide (c.toNat ≤ 126) && !t.data.toList.contains c) s[k] = true by rw [hc]; simp at h3 ⊢; exact ⟨by omega, h3⟩)
            have hI := indexByte_neg _ _ h3
            rw [← hcc] at hI
            obtain ⟨x, hx⟩ : ∃ x, Lib.indexByte t.data.toList ((s[k].toNat : Int)).toNat.toUInt8 = x := ⟨_, rfl⟩
            have CI := hide (fun W => Tryd.strings_IndexByte t (s[k].toNat : Int) W)
            rw [hx] at hI CI
            clear hc hcc h3 hx
            go_wp2_with (go_at_call 27; refine (CI.out _).mono ?_; rintro e w' ⟨rfl, rfl⟩)
            go_round
            case rel => exact ⟨k + 1, by omega, by go_num, by rw [all_take_snoc s _ k hlt, HALL.out, E.out]; rfl⟩
            case measure => simp [intOf]; omega
          · have E := hide (show bytesInB s 33 t.data.toList = false from all_take_false s _ k hlt (by rw [hc]; simp at h3 ⊢; intro _ _; exact h3))
            have hI := indexByte_nonneg _ _ h3
            rw [← hcc] at hI
            obtain ⟨x, hx⟩ : ∃ x, Lib.indexByte t.data.toList ((s[k].toNat : Int)).toNat.toUInt8 = x := ⟨_, rfl⟩
            have CI := hide (fun W => Tryd.strings_IndexByte t (s[k].toNat : Int) W)
            rw [hx] at hI CI
            clear hc hcc h3 hx
            go_wp2_with (go_at_call 27; refine (CI.out _).mono ?_; rintro e w' ⟨rfl, rfl⟩)
            go_ret
            exact ⟨by rw [E.out]; rfl, rfl⟩
    · have E := hide (show bytesInB s 33 t.data.toList = true by rw [bytesInB, ← take_all s k hlt]; exact HALL.out)
      go_wp2_with (fail)
      go_ret
      exact ⟨by rw [E.out]; rfl, rfl⟩
structure Frame where
  mod : ByteArray
  fn : ByteArray
  file : ByteArray
  line : Int
  addr : Int
  own : Bool
  deriving DecidableEq
/-- The cells of a frame. -/
def Frame.cs (x : Frame) : List Value := [.string x.mod, .string x.fn, .string x.file, .int .i64 x.line, .int .i64 x.addr, .bool x.own]
def Frame.fit (x : Frame) : Prop := x.mod.size ≤ maxLen ∧ x.fn.size ≤ maxLen ∧ x.file.size ≤ maxLen
def marks : ByteArray := ⟨#[40, 41, 58, 44]⟩
def wordB (s : ByteArray) : Bool := bytesInB s 33 marks.data.toList
/-- Whether a string is empty, as the walk has it. -/
def emptyB (s : ByteArray) : Bool := s.toList.isEmpty
def frTail (x : Frame) : Int :=
  if emptyB x.fn then 1 else if outsideB x.line 0 9999999 || outsideB x.addr (-1) 281474976710655 then 2 else if (!(x.line == 0)) && emptyB x.file then 1 else 0
/-- The error of a frame. -/
def frErr (x : Frame) : Int := if 200 < x.mod.size ∨ 200 < x.fn.size ∨ 200 < x.file.size then 4 else if wordB x.mod && wordB x.fn && wordB x.file then frTail x else 9
theorem frErr_large {x : Frame} (h : 200 < x.mod.size ∨ 200 < x.fn.size ∨ 200 < x.file.size) : frErr x = 4 := by rw [frErr, if_pos h]
theorem frErr_byte {x : Frame} (h : ¬ (200 < x.mod.size ∨ 200 < x.fn.size ∨ 200 < x.file.size)) (hw : (wordB x.mod && wordB x.fn && wordB x.file) = false) : frErr x = 9 := by rw [frErr, if_neg h, hw]; rfl
theorem frErr_tail {x : Frame} (h : ¬ (200 < x.mod.size ∨ 200 < x.fn.size ∨ 200 < x.file.size)) (hw : (wordB x.mod && wordB x.fn && wordB x.file) = true) : frErr x = frTail x := by rw [frErr, if_neg h, hw]; rfl
theorem isWord_marks (s : ByteArray) (w : World) (hs : s.size ≤ maxLen) :
    Calls Tryd.prog 98 #[.string s, .string ⟨#[40, 41, 58, 44]⟩] w fun e w' => e = .returned (.bool (wordB s)) ∧ w = w' := isWord_any s marks w hs
theorem bytesIn_marks (s : ByteArray) (w : World) (hs : s.size ≤ maxLen) :
    Calls Tryd.prog 62 #[.string s, .int .u8 33, .string ⟨#[40, 41, 58, 44]⟩] w fun e w' => e = .returned (.bool (wordB s)) ∧ w = w' := bytesIn_any s 33 marks w hs
theorem outside_any (n lo hi : Int) (w : World) :
    Calls Tryd.prog 134 #[.int .i64 n, .int .i64 lo, .int .i64 hi] w fun e w' => e = .returned (.bool (outsideB n lo hi)) ∧ w = w' := by
  go_enter Tryd.func134, Tryd.ntmps134
  go_wp2
  all_goals go_ret
  all_goals (exact ⟨by simp [outsideB, *], rfl⟩)
set_option maxRecDepth 100000 in
set_option maxHeartbeats 4000000 in
theorem CheckFrame_any (x : Frame) (w : World) (hx : x.fit) :
    Calls Tryd.prog 115 #[.agg #[.string x.mod, .string x.fn, .string x.file, .int .i64 x.line, .int .i64 x.addr, .bool x.own]] w fun e w' => e = .returned (.int .i64 (frErr x)) ∧ Below w.heap.size w w' := by
  obtain ⟨f0, f1, f2⟩ := hx
  have g0 := f0
  have g1 := f1
  have g2 := f2
  unfold maxLen at g0 g1 g2
  by_cases hL : 200 < x.mod.size ∨ 200 < x.fn.size ∨ 200 < x.file.size
  · have E := hide (frErr_large hL)
    by_cases h0 : 200 < x.mod.size
    · clear hL
      go_enter Tryd.func115, Tryd.ntmps115; go_wp2_with (first | (go_at_call 98; refine (isWord_marks _ _ (by assumption)).mono ?_; rintro e w' ⟨rfl, rfl⟩) | (go_at_call 134; refine (outside_any _ _ _ _).mono ?_; rintro e w' ⟨rfl, rfl⟩)); go_ret; exact ⟨by rw [E.out]; rfl, by go_grown⟩
    · by_cases h1 : 200 < x.fn.size
      · clear hL
        go_enter Tryd.func115, Tryd.ntmps115; go_wp2_with (first | (go_at_call 98; refine (isWord_marks _ _ (by assumption)).mono ?_; rintro e w' ⟨rfl, rfl⟩) | (go_at_call 134; refine (outside_any _ _ _ _).mono ?_; rintro e w' ⟨rfl, rfl⟩)); go_ret; exact ⟨by rw [E.out]; rfl, by go_grown⟩
      · have h2 : 200 < x.file.size := by omega
        clear hL
        go_enter Tryd.func115, Tryd.ntmps115; go_wp2_with (first | (go_at_call 98; refine (isWord_marks _ _ (by assumption)).mono ?_; rintro e w' ⟨rfl, rfl⟩) | (go_at_call 134; refine (outside_any _ _ _ _).mono ?_; rintro e w' ⟨rfl, rfl⟩)); go_ret; exact ⟨by rw [E.out]; rfl, by go_grown⟩
  · have EB := hide (frErr_byte hL)
    have ET := hide (frErr_tail hL)
    have h0 : x.mod.size ≤ 200 := by omega
    have h1 : x.fn.size ≤ 200 := by omega
    have h2 : x.file.size ≤ 200 := by omega
    clear hL
    cases w0 : wordB x.mod
    · have E := hide (EB.out (by rw [w0]; rfl))
      go_enter Tryd.func115, Tryd.ntmps115; go_wp2_with (first | (go_at_call 98; refine (isWord_marks _ _ (by assumption)).mono ?_; rintro e w' ⟨rfl, rfl⟩) | (go_at_call 134; refine (outside_any _ _ _ _).mono ?_; rintro e w' ⟨rfl, rfl⟩)); go_ret; exact ⟨by rw [E.out]; rfl, by go_grown⟩
    · cases w1 : wordB x.fn
      · have E := hide (EB.out (by rw [w0, w1]; rfl))
        go_enter Tryd.func115, Tryd.ntmps115; go_wp2_with (first | (go_at_call 98; refine (isWord_marks _ _ (by assumption)).mono ?_; rintro e w' ⟨rfl, rfl⟩) | (go_at_call 134; refine (outside_any _ _ _ _).mono ?_; rintro e w' ⟨rfl, rfl⟩)); go_ret; exact ⟨by rw [E.out]; rfl, by go_grown⟩
      · cases w2 : wordB x.file
        · have E := hide (EB.out (by rw [w0, w1, w2]; rfl))
          go_enter Tryd.func115, Tryd.ntmps115; go_wp2_with (first | (go_at_call 98; refine (isWord_marks _ _ (by assumption)).mono ?_; rintro e w' ⟨rfl, rfl⟩) | (go_at_call 134; refine (outside_any _ _ _ _).mono ?_; rintro e w' ⟨rfl, rfl⟩)); go_ret; exact ⟨by rw [E.out]; rfl, by go_grown⟩
        · have EW := hide (ET.out (by rw [w0, w1, w2]; rfl))
          go_enter Tryd.func115, Tryd.ntmps115
          go_wp2_with (first | (go_at_call 98; refine (isWord_marks _ _ (by assumption)).mono ?_; rintro e w' ⟨rfl, rfl⟩) | (go_at_call 134; refine (outside_any _ _ _ _).mono ?_; rintro e w' ⟨rfl, rfl⟩))
          all_goals go_ret
          all_goals exact ⟨ret_int (by rw [EW.out]; simp_all [frTail, emptyB]), by go_grown⟩
theorem sl_three (w : World) (a b c : ByteArray) (ty : TypeId) (n : Nat) (hn : n = w.heap.size) : Sl (w.alloc (.cells #[.string a, .string b, .string c] ty)) (w.alloc (.cells #[.string a, .string b, .string c] ty)).heap.size cs 1 (some ⟨n, 0, none⟩) 3 [a, b, c] := by
  subst hn
  refine ⟨rfl, fun _ => ⟨w.heap.size, 0, rfl, by simp, fun i x hx j v hv => ?_⟩⟩
  match j, hv with
  | 0, hv =>
    simp [cs] at hv
    subst hv
    match i, hx with
    | 0, hx => simp at hx; subst hx; simp
    | 1, hx => simp at hx; subst hx; simp
    | 2, hx => simp at hx; subst hx; simp
    | i + 3, hx => simp at hx
  | j + 1, hv => simp [cs] at hv
end Go.Proofs.YtomihkflhhhpjaaDoor
