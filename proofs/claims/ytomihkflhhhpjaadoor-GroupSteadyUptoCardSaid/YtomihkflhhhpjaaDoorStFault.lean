/- Faults: what they are, and the walks of CheckFault, FaultError, Check, FaultsError (printed by gen_fl.py). -/
import Derived.Test.YtomihkflhhhpjaaDoorStFrames
import Derived.Test.YtomihkflhhhpjaaDoorSlDrop
namespace Go.Proofs.YtomihkflhhhpjaaDoor
open Go.RowKit
set_option linter.unusedVariables false
structure FaultT where
  kind : ByteArray
  text : ByteArray
  A : Option Addr
  n : Nat
  cap : Nat
  frs : List Frame
/-- The cells of a fault. -/
def FaultT.cs (x : FaultT) : List Value := [.string x.kind, .string x.text, .slice x.A x.n x.cap]
/-- The fault's strings and frames are as they must be, in w. -/
structure FaultT.ok (w : World) (x : FaultT) : Prop where
  kl : x.kind.size ≤ maxLen
  tl : x.text.size ≤ maxLen
  nl : x.n ≤ maxLen
  nc : x.n ≤ x.cap
  sl : Sl w w.heap.size Frame.cs 6 x.A x.n x.frs
  ff : FramesFit x.frs
theorem FaultT.ok.up {w w' : World} {x : FaultT} (h : x.ok w) (hb : Below w.heap.size w w') : x.ok w' := ⟨h.kl, h.tl, h.nl, h.nc, h.sl.up hb, h.ff⟩
def FaultsOk (w : World) (l : List FaultT) : Prop := ∀ x ∈ l, x.ok w
theorem FaultsOk.up {w w' : World} {l : List FaultT} (h : FaultsOk w l) (hb : Below w.heap.size w w') : FaultsOk w' l := fun x hx => (h x hx).up hb
def kindB (s : ByteArray) : Bool := bytesInB s 33 [58]
def textB (s : ByteArray) : Bool := s.data.toList.all fun c => decide (32 ≤ c.toNat) && !decide (c.toNat = 127)
/-- The error of a fault. -/
def fltErr (x : FaultT) : Int :=
  if 200 < x.kind.size then 4 else if kindB x.kind = false then 9 else if emptyB x.kind = true then 1 else if 2000 < x.text.size then 4 else if textB x.text = false then 9 else frsErr x.frs
theorem isWord_kind (s : ByteArray) (w : World) (hs : s.size ≤ maxLen) :
    Calls Tryd.prog 98 #[.string s, .string ⟨#[58]⟩] w fun e w' => e = .returned (.bool (kindB s)) ∧ w = w' := isWord_any s ⟨#[58]⟩ w hs
theorem bytesIn_kind (s : ByteArray) (w : World) (hs : s.size ≤ maxLen) :
    Calls Tryd.prog 62 #[.string s, .int .u8 33, .string ⟨#[58]⟩] w fun e w' => e = .returned (.bool (kindB s)) ∧ w = w' := bytesIn_any s 33 ⟨#[58]⟩ w hs
def fltAt (l : List FaultT) (k : Nat) : Int := match l[k]? with | none => 0 | some x => fltErr x
/-- The error of faults. -/
def fltsErr (l : List FaultT) : Int := if l.length = 0 then 7 else if 10 < l.length then 4 else firstErr (fltAt l) l.length
theorem fltAt_some {l : List FaultT} {k : Nat} {x : FaultT} (h : l[k]? = some x) : fltAt l k = fltErr x := by rw [fltAt, h]
set_option maxRecDepth 100000 in
set_option maxHeartbeats 4000000 in
theorem CheckFault_any (x : FaultT) (w : World) (hx : x.ok w) :
    Calls Tryd.prog 81 #[.agg #[.string x.kind, .string x.text, .slice x.A x.n x.cap]] w fun e w' => e = .returned (.int .i64 (fltErr x)) ∧ Below w.heap.size w w' := by
  obtain ⟨f0, f1, f2, f3, hl, hf⟩ := hx
  have g0 := f0
  have g1 := f1
  unfold maxLen at g0 g1
  by_cases h1 : 200 < x.kind.size
  · have E := hide (show fltErr x = 4 by rw [fltErr, if_pos h1])
    go_enter Tryd.func81, Tryd.ntmps81
    go_wp2_with (first | (go_at_call 98; refine (isWord_kind _ _ (by assumption)).mono ?_; rintro e w' ⟨rfl, rfl⟩))
    go_ret
    exact ⟨by rw [E.out]; rfl, by go_grown⟩
  · have E1 := hide (show fltErr x = _ by rw [fltErr, if_neg h1])
    have h1' : x.kind.size ≤ 200 := by omega
    clear h1
    cases h2 : kindB x.kind
    · have E := hide (show fltErr x = 9 by rw [E1.out, if_pos h2])
      clear E1
      go_enter Tryd.func81, Tryd.ntmps81
      go_wp2_with (first | (go_at_call 98; refine (isWord_kind _ _ (by assumption)).mono ?_; rintro e w' ⟨rfl, rfl⟩))
      go_ret
      exact ⟨by rw [E.out]; rfl, by go_grown⟩
    · have E2 := hide (E1.out.trans (if_neg (by rw [h2]; decide)))
      clear E1
      cases h3 : emptyB x.kind
      · have E3 := hide (E2.out.trans (if_neg (by rw [h3]; decide)))
        clear E2
        have h3' : x.kind.toList.isEmpty = false := h3
        have h3'' : ¬ x.kind.toList = [] := by rw [← List.isEmpty_iff, h3']; decide
        clear h3
        by_cases h4 : 2000 < x.text.size
        · have E := hide (E3.out.trans (if_pos h4))
          clear E3
          go_enter Tryd.func81, Tryd.ntmps81
          go_wp2_with (first | (go_at_call 98; refine (isWord_kind _ _ (by assumption)).mono ?_; rintro e w' ⟨rfl, rfl⟩))
          go_ret
          exact ⟨by rw [E.out]; rfl, by go_grown⟩
        · have E4 := hide (E3.out.trans (if_neg h4))
          have h4' : x.text.size ≤ 2000 := by omega
          clear E3 h4
          go_enter Tryd.func81, Tryd.ntmps81
          go_wp2_with (first | (go_at_call 98; refine (isWord_kind _ _ (by assumption)).mono ?_; rintro e w' ⟨rfl, rfl⟩))
          go_loop [26] (fun i => ∃ k : Nat, k ≤ x.text.size ∧ i = .int .i64 k ∧ (x.text.data.toList.take k).all (fun c => decide (32 ≤ c.toNat) && !decide (c.toNat = 127)) = true) (fun i => x.text.size - (intOf i).toNat)
          case atStart => exact ⟨0, Nat.zero_le _, rfl, rfl⟩
          case round =>
            obtain ⟨k, hk, rfl, hall⟩ := hrel
            have HALL := hide hall
            clear hall
            by_cases hlt : k < x.text.size
            · obtain ⟨c, hc⟩ : ∃ c, x.text[k] = c := ⟨_, rfl⟩
              by_cases h5 : c.toNat < 32
              · have E := hide (E4.out.trans (if_pos (all_take_false x.text _ k hlt (by rw [hc]; simp; omega))))
                have h5' : (x.text[k].toNat : Int) < 32 := by rw [hc]; omega
                clear hc E4
                go_wp2_with (fail)
                go_ret
                exact ⟨by rw [E.out]; rfl, by go_grown⟩
              · by_cases h6 : c.toNat = 127
                · have E := hide (E4.out.trans (if_pos (all_take_false x.text _ k hlt (by rw [hc]; simp; omega))))
                  have h5' : decide ((x.text[k].toNat : Int) < 32) = false := by rw [hc]; simp; omega
                  have h6' : ((x.text[k].toNat : Int) == 127) = true := by rw [hc]; simp; omega
                  clear hc E4
                  go_wp2_with (fail)
                  go_ret
                  exact ⟨by rw [E.out]; rfl, by go_grown⟩
                · have HS := hide (show (fun c : UInt8 => decide (32 ≤ c.toNat) && !decide (c.toNat = 127)) x.text[k] = true by rw [hc]; simp; omega)
                  have h5' : decide ((x.text[k].toNat : Int) < 32) = false := by rw [hc]; simp; omega
                  have h6' : ((x.text[k].toNat : Int) == 127) = false := by rw [hc]; simp; omega
                  clear hc
                  go_wp2_with (fail)
                  go_round
                  case rel => exact ⟨k + 1, by omega, by go_num, by rw [all_take_snoc x.text _ k hlt, HALL.out]; exact HS.out⟩
                  case measure => simp [intOf]; omega
            · have E := hide (E4.out.trans (if_neg (by rw [textB, ← take_all x.text k hlt, HALL.out]; decide)))
              clear E4 HALL
              go_wp2_with (go_at_call 99; refine (checkFrames_any _ _ _ _ _ f2 (hl.up (by go_grown)) hf).mono ?_; rintro r w1 ⟨rfl, hw1⟩; have hB1 : Below w.heap.size w w1 := ((Below.refl _ _).alloc (Nat.le_refl _) _).trans (hw1.mono (by simp)))
              go_ret
              exact ⟨by rw [E.out]; rfl, hB1⟩
      · have E := hide (E2.out.trans (if_pos h3))
        clear E2
        have h3' : x.kind.toList.isEmpty = true := h3
        have h3'' : x.kind.toList = [] := List.isEmpty_iff.1 h3'
        clear h3
        go_enter Tryd.func81, Tryd.ntmps81
        go_wp2_with (first | (go_at_call 98; refine (isWord_kind _ _ (by assumption)).mono ?_; rintro e w' ⟨rfl, rfl⟩))
        go_ret
        exact ⟨by rw [E.out]; rfl, by go_grown⟩
set_option maxRecDepth 100000 in
set_option maxHeartbeats 2000000 in
theorem Check_any (A : Option Addr) (n cap : Nat) (l : List FaultT) (w : World) (hn : n ≤ maxLen) (hl : Sl w w.heap.size FaultT.cs 3 A n l) (hf : FaultsOk w l) :
    Calls Tryd.prog 65 #[.slice A n cap] w fun e w' => e = .returned (.int .i64 (fltsErr l)) ∧ Below w.heap.size w w' := by
  unfold maxLen at hn
  have HL := hide hl.len
  by_cases h0 : n = 0
  · subst h0
    have E := hide (show fltsErr l = 7 by rw [fltsErr, if_pos HL.out])
    go_enter Tryd.func65, Tryd.ntmps65
    go_wp2_with (fail)
    go_ret
    exact ⟨by rw [E.out]; rfl, Below.refl _ _⟩
  by_cases h : 10 < n
  · have E := hide (show fltsErr l = 4 by rw [fltsErr, if_neg (by rw [HL.out]; exact h0), if_pos (by rw [HL.out]; exact h)])
    have h0' : ((n : Int) == 0) = false := by simp; omega
    clear h0
    go_enter Tryd.func65, Tryd.ntmps65
    go_wp2_with (fail)
    go_ret
    exact ⟨by rw [E.out]; rfl, Below.refl _ _⟩
  · have E0 := hide (show fltsErr l = firstErr (fltAt l) l.length by rw [fltsErr, if_neg (by rw [HL.out]; exact h0), if_neg (by rw [HL.out]; exact h)])
    have h0' : ((n : Int) == 0) = false := by simp; omega
    have h' : n ≤ 10 := by omega
    clear h0 h
    go_enter Tryd.func65, Tryd.ntmps65
    go_wp2_with (fail)
    go_loopw [16] (fun i wr => ∃ k : Nat, k ≤ n ∧ i = .int .i64 k ∧ (∀ j, j < k → fltAt l j = 0) ∧ Below w.heap.size w wr) (fun i _ => n - (intOf i).toNat)
    case atStart => exact ⟨0, Nat.zero_le _, rfl, fun j hj => absurd hj (by omega), Below.refl _ _⟩
    case round =>
      obtain ⟨k, hk, rfl, hno, hB⟩ := hrel
      have HNO := hide hno
      clear hno
      have hz := hB.size
      by_cases hlt : k < n
      · obtain ⟨bb, oo, x, rfl, hbb, hx, hc⟩ := (hl.below hB).at_ hlt
        have c0 := hc 0 _ rfl
        have c1 := hc 1 _ rfl
        have c2 := hc 2 _ rfl
        simp only [Nat.add_zero] at c0
        have HX := hide hx
        have hxo : x.ok wr := (hf x (List.mem_of_getElem? hx)).up hB
        have hBA : ∀ o : Obj, Below wr.heap.size wr (wr.alloc o) := fun o => (Below.refl _ _).alloc (Nat.le_refl _) o
        have CW := hide (fun W h => CheckFault_any x W h)
        have HBA := hide hBA
        clear hc hx hBA
        obtain ⟨e, he⟩ : ∃ e, fltErr x = e := ⟨_, rfl⟩
        rw [he] at CW
        have HE := hide he
        clear he
        by_cases h0 : e = 0
        · subst h0
          have HK := hide ((fltAt_some HX.out).trans HE.out)
          go_wp2_with (go_at_call 81; refine (CW.out _ (hxo.up (HBA.out _))).mono ?_; rintro r w1 ⟨rfl, hw1⟩; have hB1 : Below w.heap.size w w1 := hB.trans (((Below.refl _ _).alloc (Nat.le_refl _) _).trans (hw1.mono (by simp)) |>.mono hz))
          go_roundw
          case rel => exact ⟨k + 1, by omega, by go_num, fun j hj => by (by_cases e : j < k); exact HNO.out j e; (obtain rfl : j = k := by omega); exact HK.out, hB1⟩
          case measure => simp [intOf]; omega
        · have E := hide (show fltsErr l = e from E0.out.trans ((firstErr_hit HNO.out (by rw [HL.out]; exact hlt) (by rw [fltAt_some HX.out, HE.out]; exact h0)).trans ((fltAt_some HX.out).trans HE.out)))
          have h0' : (e == 0) = false := by simpa using h0
          go_wp2_with (go_at_call 81; refine (CW.out _ (hxo.up (HBA.out _))).mono ?_; rintro r w1 ⟨rfl, hw1⟩; have hB1 : Below w.heap.size w w1 := hB.trans (((Below.refl _ _).alloc (Nat.le_refl _) _).trans (hw1.mono (by simp)) |>.mono hz))
          go_ret
          exact ⟨by rw [E.out]; rfl, hB1⟩
      · have E := hide (show fltsErr l = 0 from E0.out.trans (firstErr_zero fun j hj => HNO.out j (by have := HL.out; omega)))
        go_wp2_with (fail)
        go_ret
        exact ⟨by rw [E.out]; rfl, hB⟩
end Go.Proofs.YtomihkflhhhpjaaDoor
