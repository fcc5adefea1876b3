/- Walks of slices.Equal on equal notices and statuses, of both Kept's, and of Clone (printed by gen_a7.py). -/
import Derived.Test.YtmakkdadhhpapaaDoorAlSil
import Derived.Lib.SliceRun
namespace Go.Proofs.YtmakkdadhhpapaaDoor
open Go.RowKit
set_option linter.unusedVariables false
set_option linter.unusedSimpArgs false
structure Nt where
  at_ : Int
  rule : ByteArray
  kind : Int
  value : Int
def Nt.cs (x : Nt) : List Value := [.int .i64 x.at_, .string x.rule, .int .i64 x.kind, .int .i64 x.value]
structure Stt where
  rule : ByteArray
  state : Int
  since : Int
  value : Int
def Stt.cs (x : Stt) : List Value := [.string x.rule, .int .i64 x.state, .int .i64 x.since, .int .i64 x.value]
def cb (b : Bool) : List Value := [.bool b]
set_option maxRecDepth 100000 in
set_option maxHeartbeats 2000000 in
theorem Equal_nts (A : Option Addr) (n c : Nat) (A' : Option Addr) (c' : Nat) (l : List Nt) (w : World) (hn : n ≤ maxLen) (hl : Sl w w.heap.size Nt.cs 4 A n l) (hl' : Sl w w.heap.size Nt.cs 4 A' n l) :
    Calls Tryd.prog 12 #[.slice A n c, .slice A' n c'] w fun e w' => e = .returned (.bool true) ∧ Below w.heap.size w w' := by
  unfold maxLen at hn
  go_enter Tryd.func12, Tryd.ntmps12
  go_wp2_with (fail)
  go_loopw [13] (fun i wr => ∃ j : Nat, j ≤ n ∧ i = .int .i64 j ∧ Below w.heap.size w wr) (fun i _ => n - (intOf i).toNat)
  case atStart => exact ⟨0, Nat.zero_le _, rfl, Below.refl _ _⟩
  case round =>
    obtain ⟨j, hj, rfl, hB⟩ := hrel
    by_cases hlt : j < n
    · obtain ⟨bb, oo, x, rfl, hbb, hx, hc⟩ := (hl.below hB).at_ hlt
      obtain ⟨bb', oo', x', rfl, hbb', hx', hc'⟩ := (hl'.below hB).at_ hlt
      obtain rfl : x = x' := by rw [hx] at hx'; exact Option.some.inj hx'
      have c0 := hc 0 _ rfl
      have d0 := hc' 0 _ rfl
      have c1 := hc 1 _ rfl
      have d1 := hc' 1 _ rfl
      have c2 := hc 2 _ rfl
      have d2 := hc' 2 _ rfl
      have c3 := hc 3 _ rfl
      have d3 := hc' 3 _ rfl
      simp only [Nat.add_zero] at c0 d0
      clear hc hc' hx hx'
      go_wp2_with (go_quiet (fail))
      all_goals first
        | go_roundw
        | skip
      case rel => exact ⟨j + 1, by omega, by go_num, by first | exact hB | exact below_drewN hB _⟩
      case measure => simp [intOf]; omega
    · go_wp2_with (fail)
      go_ret
      exact ⟨rfl, hB⟩
set_option maxRecDepth 100000 in
set_option maxHeartbeats 2000000 in
theorem Equal_stts (A : Option Addr) (n c : Nat) (A' : Option Addr) (c' : Nat) (l : List Stt) (w : World) (hn : n ≤ maxLen) (hl : Sl w w.heap.size Stt.cs 4 A n l) (hl' : Sl w w.heap.size Stt.cs 4 A' n l) :
    Calls Tryd.prog 15 #[.slice A n c, .slice A' n c'] w fun e w' => e = .returned (.bool true) ∧ Below w.heap.size w w' := by
  unfold maxLen at hn
  go_enter Tryd.func15, Tryd.ntmps15
  go_wp2_with (fail)
  go_loopw [13] (fun i wr => ∃ j : Nat, j ≤ n ∧ i = .int .i64 j ∧ Below w.heap.size w wr) (fun i _ => n - (intOf i).toNat)
  case atStart => exact ⟨0, Nat.zero_le _, rfl, Below.refl _ _⟩
  case round =>
    obtain ⟨j, hj, rfl, hB⟩ := hrel
    by_cases hlt : j < n
    · obtain ⟨bb, oo, x, rfl, hbb, hx, hc⟩ := (hl.below hB).at_ hlt
      obtain ⟨bb', oo', x', rfl, hbb', hx', hc'⟩ := (hl'.below hB).at_ hlt
      obtain rfl : x = x' := by rw [hx] at hx'; exact Option.some.inj hx'
      have c0 := hc 0 _ rfl
      have d0 := hc' 0 _ rfl
      have c1 := hc 1 _ rfl
      have d1 := hc' 1 _ rfl
      have c2 := hc 2 _ rfl
      have d2 := hc' 2 _ rfl
      have c3 := hc 3 _ rfl
      have d3 := hc' 3 _ rfl
      simp only [Nat.add_zero] at c0 d0
      clear hc hc' hx hx'
      go_wp2_with (go_quiet (fail))
      all_goals first
        | go_roundw
        | skip
      case rel => exact ⟨j + 1, by omega, by go_num, by first | exact hB | exact below_drewN hB _⟩
      case measure => simp [intOf]; omega
    · go_wp2_with (fail)
      go_ret
      exact ⟨rfl, hB⟩
theorem nKept_any (pw n cap : Nat) (A : Option Addr) (w : World) (hc0 : w.cell? ⟨pw, 1, none⟩ = some (.slice A n cap)) :
    Calls Tryd.prog 18 #[.pointer (some ⟨pw, 0, none⟩)] w fun e w' => e = .returned (.int .i64 n) ∧ w' = w := by
  go_enter Tryd.func18, Tryd.ntmps18
  go_wp2_with (fail)
  go_ret
  exact ⟨rfl, rfl⟩
/-- How many are kept. -/
def keptN (l : List Bool) : Nat := (l.filter id).length
theorem keptN_snoc (l : List Bool) (b : Bool) : keptN (l ++ [b]) = keptN l + (if b then 1 else 0) := by cases b <;> simp [keptN]
theorem keptN_le (l : List Bool) : keptN l ≤ l.length := List.length_filter_le _ _
set_option maxHeartbeats 2000000 in
theorem rKept_any (rw_ n cap : Nat) (A : Option Addr) (l : List Bool) (w : World) (hn : n ≤ 100000) (hc0 : w.cell? ⟨rw_, 3, none⟩ = some (.slice A n cap)) (hl : Sl w w.heap.size cb 1 A n l) :
    Calls Tryd.prog 19 #[.pointer (some ⟨rw_, 0, none⟩)] w fun e w' => e = .returned (.int .i64 (keptN l : Nat)) ∧ w' = w := by
  have HL := hide hl.len
  have HSL := hide hl
  clear hl
  go_enter Tryd.func19, Tryd.ntmps19
  go_wp2_with (fail)
  go_loop [3, 11] (fun v i => ∃ j : Nat, j ≤ n ∧ i = .int .i64 j ∧ v = .int .i64 (keptN (l.take j) : Nat)) (fun _ i => n - (intOf i).toNat)
  case atStart => exact ⟨0, Nat.zero_le _, rfl, rfl⟩
  case round =>
    obtain ⟨j, hj, rfl, rfl⟩ := hrel
    by_cases hlt : j < n
    · obtain ⟨bb, oo, x, rfl, hbb, hx, hc⟩ := HSL.out.at_ hlt
      have c0 : w.cell? ⟨bb, oo + j, none⟩ = some (.bool x) := by simpa using hc 0 _ rfl
      have hs := keptN_snoc (l.take j) x
      rw [← take_succ_get hx] at hs
      have hle := keptN_le (l.take j)
      rw [List.length_take] at hle
      obtain ⟨v, hv⟩ : ∃ v, keptN (l.take j) = v := ⟨_, rfl⟩
      rw [hv] at hs hle ⊢
      have HS := hide hs
      clear hc hx hs hv
      cases x
      · go_wp2_with (fail)
        go_round
        case rel => exact ⟨j + 1, by omega, by go_num, by rw [HS.out]; simp⟩
        case measure => simp [intOf]; omega
      · go_wp2_with (fail)
        go_round
        case rel => exact ⟨j + 1, by omega, by go_num, by rw [HS.out]; simp⟩
        case measure => simp [intOf]; omega
    · obtain rfl : j = n := by omega
      have E := hide (show l.take j = l from take_len l (by rw [HL.out]; exact Nat.le_refl _))
      go_wp2_with (fail)
      go_ret
      exact ⟨by rw [E.out]; rfl, rfl⟩
theorem info_sil : (Tryd.prog.info? 87).map (fun i => (i.zero, i.size, i.bytes)) = some (some (.agg #[.string ByteArray.empty, .int .i64 0, .int .i64 0]), 3, 32) := by kernel_rfl
theorem sil_news {w : World} {B n : Nat} {ad : Addr} {l : List Sil} (h : Sl w B Sil.cs 3 (some ad) n l) : ∀ j u, (l.flatMap Sil.cs)[j]? = some u → w.cell? (ad.add j) = some u := by
  rcases Nat.eq_zero_or_pos n with h0 | h0
  · have : l = [] := List.eq_nil_of_length_eq_zero (by rw [h.len]; exact h0)
    subst this
    intro j u hu
    simp at hu
  · obtain ⟨b, o, e, _⟩ := h.cells h0
    obtain rfl := Option.some.inj e
    exact Sl.news (fun _ => rfl) h
theorem sil_one (l : List Sil) : ∀ u ∈ l.flatMap Sil.cs, u.oneCell' = true := by
  intro u hu
  obtain ⟨x, _, hx⟩ := List.mem_flatMap.1 hu
  simp [Sil.cs] at hx
  rcases hx with rfl | rfl | rfl <;> rfl
set_option maxRecDepth 100000 in
set_option maxHeartbeats 1000000 in
theorem CloneSil_any (A : Option Addr) (n c : Nat) (l : List Sil) (w : World) (hn : n ≤ 1000) (hl : Sl w w.heap.size Sil.cs 3 A n l) :
    Calls Tryd.prog 41 #[.slice A n c] w fun e w' => ∃ v, e = .returned v ∧ w'.ownsRow w.heap.size 87 3 v n (l.flatMap Sil.cs) ∧ Below w.heap.size w w' := by
  have HL := hide hl.len
  have q : ∀ (w : World) (a : Option Addr) (n c n' c' : Nat), (binOp .eql 32 (.slice a n c) (.slice none n' c')).run Tryd.prog w = .ok (.bool a.isNone) w := fun w a n c n' c' => Lib.run_eql_slice_nil w _ _ a n c n' c' Tryd.underlying32
  obtain ⟨i0, hi0, iz0, iz1, iz2⟩ := info_parts info_sil
  cases A with
  | none =>
    have h0 : n = 0 := by
      rcases Nat.eq_zero_or_pos n with h0 | h0
      · exact h0
      · obtain ⟨b, o, e, _⟩ := hl.cells h0; cases e
    subst h0
    obtain rfl : l = [] := List.eq_nil_of_length_eq_zero HL.out
    go_enter Tryd.func41, Tryd.ntmps41
    go_wp2_with (fail)
    go_ret
    exact ⟨_, rfl, World.ownsRow_nil _ _ _ _, Below.refl _ _⟩
  | some ad =>
    have hnew := hide (sil_news (Sl.up hl ((Below.refl _ _).alloc (Nat.le_refl _) (.cells #[] 87))))
    have hB : Below w.heap.size w (w.alloc (.cells #[] 87)) := (Below.refl _ _).alloc (Nat.le_refl _) _
    have HB := hide hB
    clear hB
    go_enter Tryd.func41, Tryd.ntmps41
    go_wp2_with (at_builtin; refine wpList_append_own _ rfl (.tmp 5) (.tmp 6) 32 rfl w.heap.size 87 i0 (.agg #[.string ByteArray.empty, .int .i64 0, .int .i64 0]) 3 32 Tryd.underlying32 hi0 iz0 iz1 iz2 rfl (by decide) _ 0 _ (by rfl) (World.ownsRow_lit w #[] 0 (Nat.le_refl _) (Nat.zero_le _) rfl) ad n _ (l.flatMap Sil.cs) (by rfl) (by rw [flatMap_len (sz := 3) (fun _ => rfl), HL.out]) hnew.out (sil_one _) (by unfold maxLen; omega) (by omega) HB.out.size ?_; intro v' w5 hown5 hg5 _; have hB5 : Below w.heap.size w w5 := Below.grown HB.out hg5 HB.out.size (fun j hj => by simp [Value.ownBlock] at hj; omega); clear hg5)
    go_ret
    have hown6 : w5.ownsRow w.heap.size 87 3 v' n (l.flatMap Sil.cs) := by simpa using hown5
    exact ⟨v', rfl, hown6, hB5⟩
end Go.Proofs.YtmakkdadhhpapaaDoor
