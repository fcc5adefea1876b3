/- Walk of the checker's text. -/
import Derived.Test.YtocpmbpckbjepaaDoorNmLet
namespace Go.Proofs.YtocpmbpckbjepaaDoor
open Go.RowKit
set_option linter.unusedVariables false
theorem str_get (s : ByteArray) (k : Nat) (h : k < s.size) : s.data.toList[k]? = some s[k] := by
  rw [List.getElem?_eq_getElem (by simpa using h)]
  simp [ByteArray.getElem_eq_getElem_data]
theorem str_len (s : ByteArray) : s.data.toList.length = s.size := by simp
theorem all_upto {l : List UInt8} {p : UInt8 → Bool} {n : Nat} (hl : l.length = n) (h : ∀ j c, j < n → l[j]? = some c → p c = true) : l.all p = true := by
  rw [List.all_eq_true]
  intro c hc
  obtain ⟨j, hj, rfl⟩ := List.mem_iff_getElem.1 hc
  exact h j _ (by omega) (List.getElem?_eq_getElem hj)
theorem all_hit {l : List UInt8} {p : UInt8 → Bool} {k : Nat} {c : UInt8} (h : l[k]? = some c) (hp : p c = false) : l.all p = false := by
  rw [List.all_eq_false]
  exact ⟨c, List.mem_of_getElem? h, by simp [hp]⟩
theorem str_empty {s : ByteArray} (h : s.size = 0) : s = ⟨#[]⟩ := by
  obtain ⟨⟨l⟩⟩ := s
  have : l.length = 0 := h
  rw [List.length_eq_zero_iff.1 this]
theorem str_full {s : ByteArray} (h : s.size ≠ 0) : s.toList.isEmpty = false ∧ ¬ s.toList = [] := by
  have h1 : ¬ s.toList = [] := by
    rw [ByteArray.toList_eq]
    intro e
    have := str_len s
    rw [e] at this
    exact h (by simpa using this.symm)
  exact ⟨by simpa [List.isEmpty_iff] using h1, h1⟩
theorem headDig_at {s : ByteArray} (h : 0 < s.size) : headDig s.data.toList = digB s[0] := by
  have := str_get s 0 h
  unfold headDig
  split
  · rename_i e; rw [e] at this; cases this
  · rename_i c r e; rw [e] at this; cases this; rfl
theorem textE_0 {s : ByteArray} (h : s.size = 0) : textE s = 1 := by rw [textE, if_pos h]
theorem textE_60 {s : ByteArray} (h : 60 < s.size) : textE s = 4 := by rw [textE, if_neg (by omega), if_pos h]
theorem textE_dig {s : ByteArray} (h0 : s.size ≠ 0) (h1 : ¬ 60 < s.size) (h : headDig s.data.toList = true) : textE s = 9 := by rw [textE, if_neg h0, if_neg h1, if_pos h]
theorem textE_bad {s : ByteArray} (h0 : s.size ≠ 0) (h1 : ¬ 60 < s.size) {k : Nat} {c : UInt8} (hk : s.data.toList[k]? = some c) (h : (lettB c || digB c) = false) : textE s = 9 := by
  rw [textE, if_neg h0, if_neg h1]
  split
  · rfl
  · rw [all_hit hk h]; rfl
theorem textE_ok {s : ByteArray} (h0 : s.size ≠ 0) (h1 : ¬ 60 < s.size) (h2 : headDig s.data.toList = false) (h : ∀ j c, j < s.size → s.data.toList[j]? = some c → (lettB c || digB c) = true) : textE s = 0 := by
  rw [textE, if_neg h0, if_neg h1, if_neg (by rw [h2]; decide), if_pos (all_upto (str_len s) h)]
set_option maxRecDepth 100000 in
set_option maxHeartbeats 4000000 in
theorem text_any (v : Value) (s : ByteArray) (w : World) (hs : s.size ≤ maxLen) :
    Calls Tryd.prog 69 #[v, .string s] w fun e w' => e = .returned (.int .i64 (textE s)) ∧ w' = w := by
  unfold maxLen at hs
  by_cases h0 : s.size = 0
  · obtain rfl := str_empty h0
    have E := hide (textE_0 h0)
    go_enter Tryd.func69, Tryd.ntmps69
    go_wp2_with (fail)
    go_ret
    exact ⟨by rw [E.out]; rfl, rfl⟩
  obtain ⟨hf1, hf2⟩ := str_full h0
  by_cases h6 : 60 < s.size
  · have E := hide (textE_60 h6)
    clear h0
    go_enter Tryd.func69, Tryd.ntmps69
    go_wp2_with (fail)
    go_ret
    exact ⟨by rw [E.out]; rfl, rfl⟩
  · have hpos : 0 < s.size := by omega
    have h6' : decide (60 < s.size) = false := by simp; omega
    cases hd : digB s[0]
    · have HD := hide (fun W => hd ▸ isDigit_any s[0] W)
      have HH := hide ((headDig_at hpos).trans hd)
      have H0 := hide h0
      clear hd h0
      go_enter Tryd.func69, Tryd.ntmps69
      go_wp2_with (go_at_call 64; refine (HD.out _).mono ?_; rintro e w' ⟨rfl, rfl⟩)
      go_loop [19] (fun i => ∃ k : Nat, k ≤ s.size ∧ i = .int .i64 k ∧ ∀ j c, j < k → s.data.toList[j]? = some c → (lettB c || digB c) = true) (fun i => s.size - (intOf i).toNat)
      case atStart => exact ⟨0, Nat.zero_le _, rfl, fun j c h => by omega⟩
      case round =>
        obtain ⟨k, hk, rfl, hall⟩ := hrel
        have HALL := hide hall
        clear hall
        by_cases hlt : k < s.size
        · have HG := hide (str_get s k hlt)
          have L := hide (fun W => isLetter_any s[k] W)
          have D := hide (fun W => isDigit_any s[k] W)
          cases hl : lettB s[k]
          · rw [hl] at L
            cases hg : digB s[k]
            · rw [hg] at D
              have E := hide (textE_bad H0.out h6 HG.out (by rw [hl, hg]; rfl))
              clear hl hg
              go_wp2_with (first | (go_at_call 63; refine (L.out _).mono ?_; rintro e w' ⟨rfl, rfl⟩) | (go_at_call 64; refine (D.out _).mono ?_; rintro e w' ⟨rfl, rfl⟩))
              go_ret
              exact ⟨by rw [E.out]; rfl, rfl⟩
            · rw [hg] at D
              have HK := hide (show (lettB s[k] || digB s[k]) = true by rw [hl, hg]; rfl)
              clear hl hg
              go_wp2_with (first | (go_at_call 63; refine (L.out _).mono ?_; rintro e w' ⟨rfl, rfl⟩) | (go_at_call 64; refine (D.out _).mono ?_; rintro e w' ⟨rfl, rfl⟩))
              go_round
              case rel => exact ⟨k + 1, by omega, by go_num, fun j c hj hc => by (by_cases e : j = k); (subst e; rw [HG.out] at hc; cases hc; exact HK.out); exact HALL.out j c (by omega) hc⟩
              case measure => simp [intOf]; omega
          · rw [hl] at L
            have HK := hide (show (lettB s[k] || digB s[k]) = true by rw [hl]; rfl)
            clear hl
            go_wp2_with (go_at_call 63; refine (L.out _).mono ?_; rintro e w' ⟨rfl, rfl⟩)
            go_round
            case rel => exact ⟨k + 1, by omega, by go_num, fun j c hj hc => by (by_cases e : j = k); (subst e; rw [HG.out] at hc; cases hc; exact HK.out); exact HALL.out j c (by omega) hc⟩
            case measure => simp [intOf]; omega
        · obtain rfl : k = s.size := by omega
          have E := hide (textE_ok H0.out h6 HH.out HALL.out)
          go_wp2_with (fail)
          go_ret
          exact ⟨by rw [E.out]; rfl, rfl⟩
    · have HD := hide (fun W => hd ▸ isDigit_any s[0] W)
      have E := hide (textE_dig h0 h6 ((headDig_at hpos).trans hd))
      clear hd h0
      go_enter Tryd.func69, Tryd.ntmps69
      go_wp2_with (go_at_call 64; refine (HD.out _).mono ?_; rintro e w' ⟨rfl, rfl⟩)
      go_ret
      exact ⟨by rw [E.out]; rfl, rfl⟩
end Go.Proofs.YtocpmbpckbjepaaDoor
