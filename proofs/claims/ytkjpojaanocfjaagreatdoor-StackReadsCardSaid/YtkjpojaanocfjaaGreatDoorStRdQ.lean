/- Walk of readPlace (printed by gen_sp.py). -/
import Derived.Test.YtkjpojaanocfjaaGreatDoorStRdP
namespace Go.Proofs.YtkjpojaanocfjaaGreatDoor
open Go.RowKit
set_option linter.unusedVariables false
set_option linter.unusedSimpArgs false
theorem pre_pos {x : ByteArray} {c : UInt8} (h : preB x c = true) : 1 ≤ x.size := by
  unfold preB Lib.hasPrefix at h
  cases hx : x.data.toList with
  | nil => rw [hx] at h; simp at h
  | cons a l => show 1 ≤ x.data.size; rw [← Array.length_toList, hx]; simp
theorem restB_size (x : ByteArray) : (restB x).size ≤ x.size := by unfold restB; rw [ByteArray.size_extract]; omega
theorem trimS_le (l p : List UInt8) : (Lib.trimSuffix l p).length ≤ l.length := by
  unfold Lib.trimSuffix
  split
  · rw [List.length_take]; omega
  · exact Nat.le_refl _
theorem sfxS_size (x : ByteArray) : (sfxS x).size ≤ x.size := by
  have h1 := trimS_le x.data.toList [41]
  have h2 : x.data.toList.length = x.size := by rw [Array.length_toList]; rfl
  have h3 : (sfxS x).size = (Lib.trimSuffix x.data.toList [41]).length := rfl
  omega
theorem str_neS {s : ByteArray} (h : ¬ s = ⟨#[42]⟩) : ¬ s.toList = [42] ∧ (s.toList == [42]) = false := by
  have h1 : ¬ s.toList = [42] := fun e => h (by
    rw [ByteArray.toList_eq] at e
    exact ByteArray.ext (Array.toList_inj.1 e))
  exact ⟨h1, beq_false_of_ne h1⟩
def PlOut (b : Nat) (M F : ByteArray) (ws : List ByteArray) (w : World) (e : Ending) (w' : World) : Prop :=
  e = .returned (.bool (plR ws).isSome) ∧ ∃ f l a o, w'.heap[b]? = some (.cells #[.string M, .string F, .string f, .int .i64 l, .int .i64 a, .bool o] 43 (0, 0)) ∧ ButAt b w w' ∧ f.size ≤ 1000000 ∧ (plR ws = some (f, l, a, o) ∨ plR ws = none)
theorem head_cell {b : Nat} {bb oo n : Nat} {x : ByteArray} {r : List ByteArray} {M F f : ByteArray} {l a : Int} {o : Bool} {w W : World} (h : PlI b (some ⟨bb, oo, none⟩) (n + 1) (x :: r) M F f l a o w W) : W.cell? ⟨bb, oo, none⟩ = some (.string x) := by
  obtain ⟨b', o', x', e, _, hx, hcc⟩ := h.sl.at_ (k := 0) (by omega)
  simp at e hx
  obtain ⟨rfl, rfl⟩ := e
  subst hx
  simpa using hcc 0 _ rfl
set_option maxRecDepth 100000 in
set_option maxHeartbeats 64000000 in
theorem readPlace_any (A : Option Addr) (n c : Nat) (ws : List ByteArray) (b : Nat) (M F : ByteArray) (w : World) (hsz : ∀ x ∈ ws, x.size ≤ 1000000) (hg : 0 ≠ b) (hc : n ≤ c) (hcm : c ≤ maxLen)
    (hI : PlI b A n ws M F ⟨#[]⟩ 0 0 false w w) :
    Calls Tryz.prog 46 #[.slice A n c, .pointer (some ⟨b, 0, none⟩)] w fun e w' => PlOut b M F ws w e w' := by
  have f4 := block_free hI.box 4
  have x4 := (block_cell hI.box 4).trans rfl
  have HI1 := hide (hI.set hg 4 (.int .i64 (-1)) (f' := ⟨#[]⟩) (l' := 0) (a' := -1) (o' := false) rfl)
  obtain ⟨W1, hW1⟩ : ∃ W1, w.setCell ⟨b, 4, none⟩ (.int .i64 (-1)) = W1 := ⟨_, rfl⟩
  rw [hW1] at HI1
  obtain ⟨ws0, hws0⟩ : ∃ ws0, ws = ws0 := ⟨_, rfl⟩
  rw [hws0]
  cases ws with
  | nil =>
    obtain rfl : n = 0 := hI.sl.len.symm
    have HI1 := hide HI1.out
    have E := hide (show plR ws0 = some ((⟨#[]⟩ : ByteArray), 0, -1, false) by rw [← hws0]; simp [plR, pl2, pl3])
    try (have hcj1 : ¬ c = 1 := by have h9 := hc; (try simp only [List.length_cons, List.length_nil] at h9); omega)
    try (have hcj2 : ¬ c = 2 := by have h9 := hc; (try simp only [List.length_cons, List.length_nil] at h9); omega)
    try (have hcj3 : ¬ c = 3 := by have h9 := hc; (try simp only [List.length_cons, List.length_nil] at h9); omega)
    clear hws0 hsz hI 
    go_enter Tryz.func46, Tryz.ntmps46
    go_wp2_with (fail)
    all_goals go_ret
    all_goals exact ⟨by rw [E.out] <;> simp, _, _, _, _, HI1.out.box, HI1.out.but, Nat.zero_le _, .inl E.out⟩
  | cons x r =>
    obtain rfl : n = r.length + 1 := hI.sl.len.symm
    obtain ⟨bb, oo, x', rfl, _, hx', _⟩ := hI.sl.at_ (k := 0) (by omega)
    have c1 := head_cell HI1.out
    have hri : (0 : Int) ≤ (r.length : Int) := by omega
    clear hx'
    cases hP1 : preB x 40
    · have P1 := hide (fun W => show Calls Tryz.prog 34 #[.string x, .string ⟨#[40]⟩] W fun e w' => e = .returned (.bool false) ∧ w' = W from hP1 ▸ Tryz.strings_HasPrefix x ⟨#[40]⟩ W)
      cases hP2 : preB x 64
      · have P2 := hide (fun W => show Calls Tryz.prog 34 #[.string x, .string ⟨#[64]⟩] W fun e w' => e = .returned (.bool false) ∧ w' = W from hP2 ▸ Tryz.strings_HasPrefix x ⟨#[64]⟩ W)
        by_cases hst : x = ⟨#[42]⟩
        · subst hst
          cases r with
          | nil =>
            have fs5 := block_free HI1.out.box 5
            have xs5 := (block_cell HI1.out.box 5).trans rfl
            have HI1s := hide (HI1.out.set hg 5 (.bool true) (f' := (⟨#[]⟩ : ByteArray)) (l' := 0) (a' := -1) (o' := true) rfl)
            obtain ⟨W1s, hW1s⟩ : ∃ W1s, W1.setCell ⟨b, 5, none⟩ (.bool true) = W1s := ⟨_, rfl⟩
            rw [hW1s] at HI1s
            have E := hide (show plR ws0 = some ((⟨#[]⟩ : ByteArray), 0, -1, true) by rw [← hws0]; simp [plR, pl2, pl3, hP1, hP2])
            try (have hcj1 : ¬ c = 1 := by have h9 := hc; (try simp only [List.length_cons, List.length_nil] at h9); omega)
            try (have hcj2 : ¬ c = 2 := by have h9 := hc; (try simp only [List.length_cons, List.length_nil] at h9); omega)
            try (have hcj3 : ¬ c = 3 := by have h9 := hc; (try simp only [List.length_cons, List.length_nil] at h9); omega)
            clear hws0 hsz hI hP1 hP2
            go_enter Tryz.func46, Tryz.ntmps46
            go_wp2_with (first | (go_at_call 34; ((with_reducible refine (P1.out _).mono ?_); rintro e wz ⟨rfl, rfl⟩; clear P1)) | (go_at_call 34; ((with_reducible refine (P2.out _).mono ?_); rintro e wz ⟨rfl, rfl⟩; clear P2)))
            all_goals go_ret
            all_goals exact ⟨by rw [E.out] <;> simp, _, _, _, _, HI1s.out.box, HI1s.out.but, Nat.zero_le _, .inl E.out⟩
          | cons c1 cs1 =>
            have hcc : (c1 :: cs1).length + 1 = cs1.length + 1 + 1 := rfl
            have hc1 : ¬ c = 1 := by simp only [List.length_cons] at hc; omega
            have hc2 : ¬ c = 0 := by omega
            have hlen9 : ((cs1.length : Int) + 1 == 0) = false := by rw [beq_eq_false_iff_ne]; omega
            have fs5 := block_free HI1.out.box 5
            have xs5 := (block_cell HI1.out.box 5).trans rfl
            have HI1s := hide (HI1.out.set hg 5 (.bool true) (f' := (⟨#[]⟩ : ByteArray)) (l' := 0) (a' := -1) (o' := true) rfl)
            obtain ⟨W1s, hW1s⟩ : ∃ W1s, W1.setCell ⟨b, 5, none⟩ (.bool true) = W1s := ⟨_, rfl⟩
            rw [hW1s] at HI1s
            have E := hide (show plR ws0 = none by rw [← hws0]; simp [plR, pl2, pl3, hP1, hP2])
            try (have hcj1 : ¬ c = 1 := by have h9 := hc; (try simp only [List.length_cons, List.length_nil] at h9); omega)
            try (have hcj2 : ¬ c = 2 := by have h9 := hc; (try simp only [List.length_cons, List.length_nil] at h9); omega)
            try (have hcj3 : ¬ c = 3 := by have h9 := hc; (try simp only [List.length_cons, List.length_nil] at h9); omega)
            clear hws0 hsz hI hP1 hP2
            go_enter Tryz.func46, Tryz.ntmps46
            go_wp2_with (first | (go_at_call 34; ((with_reducible refine (P1.out _).mono ?_); rintro e wz ⟨rfl, rfl⟩; clear P1)) | (go_at_call 34; ((with_reducible refine (P2.out _).mono ?_); rintro e wz ⟨rfl, rfl⟩; clear P2)))
            all_goals go_ret
            all_goals exact ⟨by rw [E.out] <;> simp, _, _, _, _, HI1s.out.box, HI1s.out.but, Nat.zero_le _, .inr E.out⟩
        · obtain ⟨ne1, ne2⟩ := str_neS hst
          have hlen8 : ((r.length : Int) + 1 == 0) = false := by rw [beq_eq_false_iff_ne]; omega
          have E := hide (show plR ws0 = none by rw [← hws0]; simp [plR, pl2, pl3, hP1, hP2, hst])
          try (have hcj1 : ¬ c = 1 := by have h9 := hc; (try simp only [List.length_cons, List.length_nil] at h9); omega)
          try (have hcj2 : ¬ c = 2 := by have h9 := hc; (try simp only [List.length_cons, List.length_nil] at h9); omega)
          try (have hcj3 : ¬ c = 3 := by have h9 := hc; (try simp only [List.length_cons, List.length_nil] at h9); omega)
          clear hws0 hsz hI hP1 hP2 hst
          go_enter Tryz.func46, Tryz.ntmps46
          go_wp2_with (first | (go_at_call 34; ((with_reducible refine (P1.out _).mono ?_); rintro e wz ⟨rfl, rfl⟩; clear P1)) | (go_at_call 34; ((with_reducible refine (P2.out _).mono ?_); rintro e wz ⟨rfl, rfl⟩; clear P2)))
          all_goals go_ret
          all_goals exact ⟨by rw [E.out] <;> simp, _, _, _, _, HI1.out.box, HI1.out.but, Nat.zero_le _, .inr E.out⟩
      · have P2 := hide (fun W => show Calls Tryz.prog 34 #[.string x, .string ⟨#[64]⟩] W fun e w' => e = .returned (.bool true) ∧ w' = W from hP2 ▸ Tryz.strings_HasPrefix x ⟨#[64]⟩ W)
        have hp2 := pre_pos hP2
        have hp2i : (1 : Int) ≤ (x.size : Int) := by omega
        have hrs2 := restB_size x
        have HN2 := hide (fun W => number_16 (restB x) 12 W (by decide) (by have := hsz x (by simp); omega))
        obtain ⟨N2, hN2⟩ : ∃ N2, numO 16 12 (restB x) = N2 := ⟨_, rfl⟩
        cases hK2 : numK 16 12 (restB x)
        · simp only [hN2, hK2] at HN2
          unfold restB at HN2
          have E := hide (show plR ws0 = none by rw [← hws0]; simp [plR, pl2, pl3, hP1, hP2, hK2])
          try (have hcj1 : ¬ c = 1 := by have h9 := hc; (try simp only [List.length_cons, List.length_nil] at h9); omega)
          try (have hcj2 : ¬ c = 2 := by have h9 := hc; (try simp only [List.length_cons, List.length_nil] at h9); omega)
          try (have hcj3 : ¬ c = 3 := by have h9 := hc; (try simp only [List.length_cons, List.length_nil] at h9); omega)
          clear hws0 hsz hI hP1 hP2 hK2 hN2
          go_enter Tryz.func46, Tryz.ntmps46
          go_wp2_with (first | (go_at_call 34; ((with_reducible refine (P1.out _).mono ?_); rintro e wz ⟨rfl, rfl⟩; clear P1)) | (go_at_call 34; ((with_reducible refine (P2.out _).mono ?_); rintro e wz ⟨rfl, rfl⟩; clear P2)) | (go_at_call 41; (refine (HN2.out _).mono ?_; rintro e V2 ⟨rfl, hv2⟩; have HV2 := hide (HI1.out.below hv2 HI1.out.lt))))
          all_goals go_ret
          all_goals exact ⟨by rw [E.out] <;> simp, _, _, _, _, HV2.out.box, HV2.out.but, Nat.zero_le _, .inr E.out⟩
        · simp only [hN2, hK2] at HN2
          unfold restB at HN2
          cases r with
          | nil =>
            have E := hide (show plR ws0 = some ((⟨#[]⟩ : ByteArray), 0, N2, false) by rw [← hws0]; simp [plR, pl2, pl3, hP1, hP2, hK2, hN2])
            try (have hcj1 : ¬ c = 1 := by have h9 := hc; (try simp only [List.length_cons, List.length_nil] at h9); omega)
            try (have hcj2 : ¬ c = 2 := by have h9 := hc; (try simp only [List.length_cons, List.length_nil] at h9); omega)
            try (have hcj3 : ¬ c = 3 := by have h9 := hc; (try simp only [List.length_cons, List.length_nil] at h9); omega)
            clear hws0 hsz hI hP1 hP2 hK2 hN2
            go_enter Tryz.func46, Tryz.ntmps46
            go_wp2_with (first | (go_at_call 34; ((with_reducible refine (P1.out _).mono ?_); rintro e wz ⟨rfl, rfl⟩; clear P1)) | (go_at_call 34; ((with_reducible refine (P2.out _).mono ?_); rintro e wz ⟨rfl, rfl⟩; clear P2)) | (go_at_call 41; (refine (HN2.out _).mono ?_; rintro e V2 ⟨rfl, hv2⟩; have HV2 := hide (HI1.out.below hv2 HI1.out.lt); have fv4 := block_free HV2.out.box 4; have xv4 := (block_cell HV2.out.box 4).trans rfl; have HV3 := hide ((HV2.out.set hg 4 (.int .i64 N2) (f' := (⟨#[]⟩ : ByteArray)) (l' := 0) (a' := N2) (o' := false) rfl).drop); obtain ⟨V3, hV3⟩ : ∃ V3, V2.setCell ⟨b, 4, none⟩ (.int .i64 N2) = V3 := ⟨_, rfl⟩; rw [hV3] at HV3)))
            all_goals go_ret
            all_goals exact ⟨by rw [E.out] <;> simp, _, _, _, _, HV3.out.box, HV3.out.but, Nat.zero_le _, .inl E.out⟩
          | cons y q =>
            have hri9 : True := trivial
            by_cases hst : y = ⟨#[42]⟩
            · subst hst
              cases q with
              | nil =>
                have E := hide (show plR ws0 = some ((⟨#[]⟩ : ByteArray), 0, N2, true) by rw [← hws0]; simp [plR, pl2, pl3, hP1, hP2, hK2, hN2])
                try (have hcj1 : ¬ c = 1 := by have h9 := hc; (try simp only [List.length_cons, List.length_nil] at h9); omega)
                try (have hcj2 : ¬ c = 2 := by have h9 := hc; (try simp only [List.length_cons, List.length_nil] at h9); omega)
                try (have hcj3 : ¬ c = 3 := by have h9 := hc; (try simp only [List.length_cons, List.length_nil] at h9); omega)
                clear hws0 hsz hI hP1 hP2 hK2 hN2
                go_enter Tryz.func46, Tryz.ntmps46
                go_wp2_with (first | (go_at_call 34; ((with_reducible refine (P1.out _).mono ?_); rintro e wz ⟨rfl, rfl⟩; clear P1)) | (go_at_call 34; ((with_reducible refine (P2.out _).mono ?_); rintro e wz ⟨rfl, rfl⟩; clear P2)) | (go_at_call 41; (refine (HN2.out _).mono ?_; rintro e V2 ⟨rfl, hv2⟩; have HV2 := hide (HI1.out.below hv2 HI1.out.lt); have fv4 := block_free HV2.out.box 4; have xv4 := (block_cell HV2.out.box 4).trans rfl; have HV3 := hide ((HV2.out.set hg 4 (.int .i64 N2) (f' := (⟨#[]⟩ : ByteArray)) (l' := 0) (a' := N2) (o' := false) rfl).drop); obtain ⟨V3, hV3⟩ : ∃ V3, V2.setCell ⟨b, 4, none⟩ (.int .i64 N2) = V3 := ⟨_, rfl⟩; rw [hV3] at HV3; have cv := head_cell HV3.out); have fs5 := block_free HV3.out.box 5; have xs5 := (block_cell HV3.out.box 5).trans rfl; have HV3s := hide (HV3.out.set hg 5 (.bool true) (f' := (⟨#[]⟩ : ByteArray)) (l' := 0) (a' := N2) (o' := true) rfl); obtain ⟨V3s, hV3s⟩ : ∃ V3s, V3.setCell ⟨b, 5, none⟩ (.bool true) = V3s := ⟨_, rfl⟩; rw [hV3s] at HV3s))
                all_goals go_ret
                all_goals exact ⟨by rw [E.out] <;> simp, _, _, _, _, HV3s.out.box, HV3s.out.but, Nat.zero_le _, .inl E.out⟩
              | cons c1 cs1 =>
                have hcc : (c1 :: cs1).length + 1 = cs1.length + 1 + 1 := rfl
                have hc1 : ¬ c = 1 := by simp only [List.length_cons] at hc; omega
                have hc2 : ¬ c = 0 := by omega
                have hlen9 : ((cs1.length : Int) + 1 == 0) = false := by rw [beq_eq_false_iff_ne]; omega
                have E := hide (show plR ws0 = none by rw [← hws0]; simp [plR, pl2, pl3, hP1, hP2, hK2, hN2])
                try (have hcj1 : ¬ c = 1 := by have h9 := hc; (try simp only [List.length_cons, List.length_nil] at h9); omega)
                try (have hcj2 : ¬ c = 2 := by have h9 := hc; (try simp only [List.length_cons, List.length_nil] at h9); omega)
                try (have hcj3 : ¬ c = 3 := by have h9 := hc; (try simp only [List.length_cons, List.length_nil] at h9); omega)
                clear hws0 hsz hI hP1 hP2 hK2 hN2
                go_enter Tryz.func46, Tryz.ntmps46
                go_wp2_with (first | (go_at_call 34; ((with_reducible refine (P1.out _).mono ?_); rintro e wz ⟨rfl, rfl⟩; clear P1)) | (go_at_call 34; ((with_reducible refine (P2.out _).mono ?_); rintro e wz ⟨rfl, rfl⟩; clear P2)) | (go_at_call 41; (refine (HN2.out _).mono ?_; rintro e V2 ⟨rfl, hv2⟩; have HV2 := hide (HI1.out.below hv2 HI1.out.lt); have fv4 := block_free HV2.out.box 4; have xv4 := (block_cell HV2.out.box 4).trans rfl; have HV3 := hide ((HV2.out.set hg 4 (.int .i64 N2) (f' := (⟨#[]⟩ : ByteArray)) (l' := 0) (a' := N2) (o' := false) rfl).drop); obtain ⟨V3, hV3⟩ : ∃ V3, V2.setCell ⟨b, 4, none⟩ (.int .i64 N2) = V3 := ⟨_, rfl⟩; rw [hV3] at HV3; have cv := head_cell HV3.out); have fs5 := block_free HV3.out.box 5; have xs5 := (block_cell HV3.out.box 5).trans rfl; have HV3s := hide (HV3.out.set hg 5 (.bool true) (f' := (⟨#[]⟩ : ByteArray)) (l' := 0) (a' := N2) (o' := true) rfl); obtain ⟨V3s, hV3s⟩ : ∃ V3s, V3.setCell ⟨b, 5, none⟩ (.bool true) = V3s := ⟨_, rfl⟩; rw [hV3s] at HV3s))
                all_goals go_ret
                all_goals exact ⟨by rw [E.out] <;> simp, _, _, _, _, HV3s.out.box, HV3s.out.but, Nat.zero_le _, .inr E.out⟩
            · obtain ⟨ne1, ne2⟩ := str_neS hst
              have hlen8 : ((q.length : Int) + 1 == 0) = false := by rw [beq_eq_false_iff_ne]; omega
              have E := hide (show plR ws0 = none by rw [← hws0]; simp [plR, pl2, pl3, hP1, hP2, hK2, hN2, hst])
              try (have hcj1 : ¬ c = 1 := by have h9 := hc; (try simp only [List.length_cons, List.length_nil] at h9); omega)
              try (have hcj2 : ¬ c = 2 := by have h9 := hc; (try simp only [List.length_cons, List.length_nil] at h9); omega)
              try (have hcj3 : ¬ c = 3 := by have h9 := hc; (try simp only [List.length_cons, List.length_nil] at h9); omega)
              clear hws0 hsz hI hP1 hP2 hK2 hN2 hst
              go_enter Tryz.func46, Tryz.ntmps46
              go_wp2_with (first | (go_at_call 34; ((with_reducible refine (P1.out _).mono ?_); rintro e wz ⟨rfl, rfl⟩; clear P1)) | (go_at_call 34; ((with_reducible refine (P2.out _).mono ?_); rintro e wz ⟨rfl, rfl⟩; clear P2)) | (go_at_call 41; (refine (HN2.out _).mono ?_; rintro e V2 ⟨rfl, hv2⟩; have HV2 := hide (HI1.out.below hv2 HI1.out.lt); have fv4 := block_free HV2.out.box 4; have xv4 := (block_cell HV2.out.box 4).trans rfl; have HV3 := hide ((HV2.out.set hg 4 (.int .i64 N2) (f' := (⟨#[]⟩ : ByteArray)) (l' := 0) (a' := N2) (o' := false) rfl).drop); obtain ⟨V3, hV3⟩ : ∃ V3, V2.setCell ⟨b, 4, none⟩ (.int .i64 N2) = V3 := ⟨_, rfl⟩; rw [hV3] at HV3; have cv := head_cell HV3.out)))
              all_goals go_ret
              all_goals exact ⟨by rw [E.out] <;> simp, _, _, _, _, HV3.out.box, HV3.out.but, Nat.zero_le _, .inr E.out⟩
    · have P1 := hide (fun W => show Calls Tryz.prog 34 #[.string x, .string ⟨#[40]⟩] W fun e w' => e = .returned (.bool true) ∧ w' = W from hP1 ▸ Tryz.strings_HasPrefix x ⟨#[40]⟩ W)
      have hp1 := pre_pos hP1
      have hp1i : (1 : Int) ≤ (x.size : Int) := by omega
      have hxs := hsz x (by simp)
      have hrs := restB_size x
      have hss := sfxS_size (restB x)
      obtain ⟨hz1, hz2⟩ := cut_size (sfxS (restB x)) 58
      have HS1 := hide (fun W => show Calls Tryz.prog 31 #[.string (restB x), .string ⟨#[41]⟩] W fun e w' => e = .returned (.tuple #[.string (sfxS (restB x)), .bool (sfxK (restB x))]) ∧ w' = W from Tryz.strings_CutSuffix (restB x) ⟨#[41]⟩ W (by omega))
      have HC1 := hide (Cut_any (sfxS (restB x)) 58 W1 (by omega) HI1.out.mx)
      have HF1 := hide (fun W => isWord_marks (cutL (sfxS (restB x)) 58) W (by unfold maxLen; omega))
      have HN1 := hide (fun W => number_10 (cutR (sfxS (restB x)) 58) 7 W (by decide) (by omega))
      have hfk : fileK x = (sfxK (restB x) && (!emptyB (cutL (sfxS (restB x)) 58) && (wordB (cutL (sfxS (restB x)) 58) && (!cutK (sfxS (restB x)) 58 || (numK 10 7 (cutR (sfxS (restB x)) 58) && !(numO 10 7 (cutR (sfxS (restB x)) 58) == 0)))))) := rfl
      have hff : fileF x = cutL (sfxS (restB x)) 58 := rfl
      have hfl : fileL x = if cutK (sfxS (restB x)) 58 then numO 10 7 (cutR (sfxS (restB x)) 58) else 0 := rfl
      obtain ⟨I, hI1⟩ : ∃ I, sfxK (restB x) = I := ⟨_, rfl⟩
      obtain ⟨S, hS⟩ : ∃ S, sfxS (restB x) = S := ⟨_, rfl⟩
      obtain ⟨f1, hf1⟩ : ∃ f1, cutL S 58 = f1 := ⟨_, rfl⟩
      obtain ⟨l1, hl1⟩ : ∃ l1, cutR S 58 = l1 := ⟨_, rfl⟩
      obtain ⟨N1, hN1⟩ : ∃ N1, numO 10 7 l1 = N1 := ⟨_, rfl⟩
      rw [hS] at hss hz1 hz2
      rw [hf1] at hz1
      rw [hl1] at hz2
      rw [hS, hI1] at HS1
      rw [hS, hf1, hl1] at HC1
      rw [hS, hf1] at HF1
      rw [hS, hl1, hN1] at HN1
      rw [hI1, hS, hf1, hl1, hN1] at hfk
      rw [hS, hf1] at hff
      rw [hS, hl1, hN1] at hfl
      have hfs : f1.size ≤ 1000000 := by omega
      unfold restB at HS1
      clear hI1 hS hf1 hl1 hN1
      cases I
      · clear HF1 HN1
        have hk : fileK x = false := by rw [hfk]; simp []
        have E := hide (show plR ws0 = none by rw [← hws0]; simp [plR, pl2, pl3, hP1, hk])
        try (have hcj1 : ¬ c = 1 := by have h9 := hc; (try simp only [List.length_cons, List.length_nil] at h9); omega)
        try (have hcj2 : ¬ c = 2 := by have h9 := hc; (try simp only [List.length_cons, List.length_nil] at h9); omega)
        try (have hcj3 : ¬ c = 3 := by have h9 := hc; (try simp only [List.length_cons, List.length_nil] at h9); omega)
        clear hws0 hsz hI hP1 hk hfk hff hfl
        go_enter Tryz.func46, Tryz.ntmps46
        go_wp2_with (first | (go_at_call 34; ((with_reducible refine (P1.out _).mono ?_); rintro e wz ⟨rfl, rfl⟩; clear P1)) | (go_at_call 31; (refine (HS1.out _).mono ?_; rintro e wz ⟨rfl, rfl⟩; clear HS1)) | (go_at_call 53; (refine HC1.out.mono ?_; rintro e U0 ⟨rfl, hu0⟩; have HU0 := hide (HI1.out.below hu0 HI1.out.lt); clear HC1)))
        all_goals go_ret
        all_goals exact ⟨by rw [E.out] <;> simp, _, _, _, _, HU0.out.box, HU0.out.but, Nat.zero_le _, .inr E.out⟩
      · cases e1 : emptyB f1
        · have e1' : f1.toList.isEmpty = false := e1
          cases w1 : wordB f1
          · rw [w1] at HF1
            clear HN1
            have hk : fileK x = false := by rw [hfk]; simp [w1]
            have E := hide (show plR ws0 = none by rw [← hws0]; simp [plR, pl2, pl3, hP1, hk])
            try (have hcj1 : ¬ c = 1 := by have h9 := hc; (try simp only [List.length_cons, List.length_nil] at h9); omega)
            try (have hcj2 : ¬ c = 2 := by have h9 := hc; (try simp only [List.length_cons, List.length_nil] at h9); omega)
            try (have hcj3 : ¬ c = 3 := by have h9 := hc; (try simp only [List.length_cons, List.length_nil] at h9); omega)
            clear hws0 hsz hI hP1 hk hfk hff hfl w1 e1
            go_enter Tryz.func46, Tryz.ntmps46
            go_wp2_with (first | (go_at_call 34; ((with_reducible refine (P1.out _).mono ?_); rintro e wz ⟨rfl, rfl⟩; clear P1)) | (go_at_call 31; (refine (HS1.out _).mono ?_; rintro e wz ⟨rfl, rfl⟩; clear HS1)) | (go_at_call 53; (refine HC1.out.mono ?_; rintro e U0 ⟨rfl, hu0⟩; have HU0 := hide (HI1.out.below hu0 HI1.out.lt); clear HC1)) | (go_at_call 47; (refine (HF1.out _).mono ?_; rintro e wz ⟨rfl, rfl⟩; clear HF1)))
            all_goals go_ret
            all_goals exact ⟨by rw [E.out] <;> simp, _, _, _, _, HU0.out.box, HU0.out.but, Nat.zero_le _, .inr E.out⟩
          · rw [w1] at HF1
            cases K1 : cutK S 58
            · rw [K1] at HC1 hfk hfl
              clear HN1
              have hk : fileK x = true := by rw [hfk]; simp [e1, w1]
              simp only [Bool.false_eq_true, if_false] at hfl
              cases r with
              | nil =>
                have E := hide (show plR ws0 = some (f1, 0, -1, false) by rw [← hws0]; simp [plR, pl2, pl3, hP1, hk, hff, hfl])
                try (have hcj1 : ¬ c = 1 := by have h9 := hc; (try simp only [List.length_cons, List.length_nil] at h9); omega)
                try (have hcj2 : ¬ c = 2 := by have h9 := hc; (try simp only [List.length_cons, List.length_nil] at h9); omega)
                try (have hcj3 : ¬ c = 3 := by have h9 := hc; (try simp only [List.length_cons, List.length_nil] at h9); omega)
                clear hws0 hsz hI hP1 hk hfk hff hfl e1 w1 K1
                go_enter Tryz.func46, Tryz.ntmps46
                go_wp2_with (first | (go_at_call 34; ((with_reducible refine (P1.out _).mono ?_); rintro e wz ⟨rfl, rfl⟩; clear P1)) | (go_at_call 31; (refine (HS1.out _).mono ?_; rintro e wz ⟨rfl, rfl⟩; clear HS1)) | (go_at_call 53; (refine HC1.out.mono ?_; rintro e U0 ⟨rfl, hu0⟩; have HU0 := hide (HI1.out.below hu0 HI1.out.lt); clear HC1; have fu2 := block_free HU0.out.box 2; have xu2 := (block_cell HU0.out.box 2).trans rfl; have HU1 := hide (HU0.out.set hg 2 (.string f1) (f' := f1) (l' := 0) (a' := -1) (o' := false) rfl); obtain ⟨U1, hU1⟩ : ∃ U1, U0.setCell ⟨b, 2, none⟩ (.string f1) = U1 := ⟨_, rfl⟩; rw [hU1] at HU1; have HU1 := hide HU1.out.drop)) | (go_at_call 47; (refine (HF1.out _).mono ?_; rintro e wz ⟨rfl, rfl⟩; clear HF1)))
                all_goals go_ret
                all_goals exact ⟨by rw [E.out] <;> simp, _, _, _, _, HU1.out.box, HU1.out.but, hfs, .inl E.out⟩
              | cons y q =>
                have hqi : (0 : Int) ≤ (q.length : Int) := by omega
                simp only [List.length_cons] at *
                cases hP2 : preB y 64
                · have P2 := hide (fun W => show Calls Tryz.prog 34 #[.string y, .string ⟨#[64]⟩] W fun e w' => e = .returned (.bool false) ∧ w' = W from hP2 ▸ Tryz.strings_HasPrefix y ⟨#[64]⟩ W)
                  by_cases hst : y = ⟨#[42]⟩
                  · subst hst
                    cases q with
                    | nil =>
                      have E := hide (show plR ws0 = some (f1, 0, -1, true) by rw [← hws0]; simp [plR, pl2, pl3, hP1, hk, hff, hfl, hP2])
                      try (have hcj1 : ¬ c = 1 := by have h9 := hc; (try simp only [List.length_cons, List.length_nil] at h9); omega)
                      try (have hcj2 : ¬ c = 2 := by have h9 := hc; (try simp only [List.length_cons, List.length_nil] at h9); omega)
                      try (have hcj3 : ¬ c = 3 := by have h9 := hc; (try simp only [List.length_cons, List.length_nil] at h9); omega)
                      clear hws0 hsz hI hP1 hk hfk hff hfl e1 w1 K1 hP2
                      go_enter Tryz.func46, Tryz.ntmps46
                      go_wp2_with (first | (go_at_call 34; ((with_reducible refine (P1.out _).mono ?_); rintro e wz ⟨rfl, rfl⟩; clear P1)) | (go_at_call 31; (refine (HS1.out _).mono ?_; rintro e wz ⟨rfl, rfl⟩; clear HS1)) | (go_at_call 53; (refine HC1.out.mono ?_; rintro e U0 ⟨rfl, hu0⟩; have HU0 := hide (HI1.out.below hu0 HI1.out.lt); clear HC1; have fu2 := block_free HU0.out.box 2; have xu2 := (block_cell HU0.out.box 2).trans rfl; have HU1 := hide (HU0.out.set hg 2 (.string f1) (f' := f1) (l' := 0) (a' := -1) (o' := false) rfl); obtain ⟨U1, hU1⟩ : ∃ U1, U0.setCell ⟨b, 2, none⟩ (.string f1) = U1 := ⟨_, rfl⟩; rw [hU1] at HU1; have HU1 := hide HU1.out.drop; have cu := head_cell HU1.out); have fs5 := block_free HU1.out.box 5; have xs5 := (block_cell HU1.out.box 5).trans rfl; have HU1s := hide (HU1.out.set hg 5 (.bool true) (f' := f1) (l' := 0) (a' := -1) (o' := true) rfl); obtain ⟨U1s, hU1s⟩ : ∃ U1s, U1.setCell ⟨b, 5, none⟩ (.bool true) = U1s := ⟨_, rfl⟩; rw [hU1s] at HU1s) | (go_at_call 47; (refine (HF1.out _).mono ?_; rintro e wz ⟨rfl, rfl⟩; clear HF1)) | (go_at_call 34; ((with_reducible refine (P2.out _).mono ?_); rintro e wz ⟨rfl, rfl⟩; clear P2)))
                      all_goals go_ret
                      all_goals exact ⟨by rw [E.out] <;> simp, _, _, _, _, HU1s.out.box, HU1s.out.but, hfs, .inl E.out⟩
                    | cons c1 cs1 =>
                      have hcc : (c1 :: cs1).length + 1 = cs1.length + 1 + 1 := rfl
                      have hc1 : ¬ c = 1 := by simp only [List.length_cons] at hc; omega
                      have hc2 : ¬ c = 0 := by omega
                      have hlen9 : ((cs1.length : Int) + 1 == 0) = false := by rw [beq_eq_false_iff_ne]; omega
                      have E := hide (show plR ws0 = none by rw [← hws0]; simp [plR, pl2, pl3, hP1, hk, hff, hfl, hP2])
                      try (have hcj1 : ¬ c = 1 := by have h9 := hc; (try simp only [List.length_cons, List.length_nil] at h9); omega)
                      try (have hcj2 : ¬ c = 2 := by have h9 := hc; (try simp only [List.length_cons, List.length_nil] at h9); omega)
                      try (have hcj3 : ¬ c = 3 := by have h9 := hc; (try simp only [List.length_cons, List.length_nil] at h9); omega)
                      clear hws0 hsz hI hP1 hk hfk hff hfl e1 w1 K1 hP2
                      go_enter Tryz.func46, Tryz.ntmps46
                      go_wp2_with (first | (go_at_call 34; ((with_reducible refine (P1.out _).mono ?_); rintro e wz ⟨rfl, rfl⟩; clear P1)) | (go_at_call 31; (refine (HS1.out _).mono ?_; rintro e wz ⟨rfl, rfl⟩; clear HS1)) | (go_at_call 53; (refine HC1.out.mono ?_; rintro e U0 ⟨rfl, hu0⟩; have HU0 := hide (HI1.out.below hu0 HI1.out.lt); clear HC1; have fu2 := block_free HU0.out.box 2; have xu2 := (block_cell HU0.out.box 2).trans rfl; have HU1 := hide (HU0.out.set hg 2 (.string f1) (f' := f1) (l' := 0) (a' := -1) (o' := false) rfl); obtain ⟨U1, hU1⟩ : ∃ U1, U0.setCell ⟨b, 2, none⟩ (.string f1) = U1 := ⟨_, rfl⟩; rw [hU1] at HU1; have HU1 := hide HU1.out.drop; have cu := head_cell HU1.out); have fs5 := block_free HU1.out.box 5; have xs5 := (block_cell HU1.out.box 5).trans rfl; have HU1s := hide (HU1.out.set hg 5 (.bool true) (f' := f1) (l' := 0) (a' := -1) (o' := true) rfl); obtain ⟨U1s, hU1s⟩ : ∃ U1s, U1.setCell ⟨b, 5, none⟩ (.bool true) = U1s := ⟨_, rfl⟩; rw [hU1s] at HU1s) | (go_at_call 47; (refine (HF1.out _).mono ?_; rintro e wz ⟨rfl, rfl⟩; clear HF1)) | (go_at_call 34; ((with_reducible refine (P2.out _).mono ?_); rintro e wz ⟨rfl, rfl⟩; clear P2)))
                      all_goals go_ret
                      all_goals exact ⟨by rw [E.out] <;> simp, _, _, _, _, HU1s.out.box, HU1s.out.but, hfs, .inr E.out⟩
                  · obtain ⟨ne1, ne2⟩ := str_neS hst
                    have hlen8 : ((q.length : Int) + 1 == 0) = false := by rw [beq_eq_false_iff_ne]; omega
                    have E := hide (show plR ws0 = none by rw [← hws0]; simp [plR, pl2, pl3, hP1, hk, hff, hfl, hP2, hst])
                    try (have hcj1 : ¬ c = 1 := by have h9 := hc; (try simp only [List.length_cons, List.length_nil] at h9); omega)
                    try (have hcj2 : ¬ c = 2 := by have h9 := hc; (try simp only [List.length_cons, List.length_nil] at h9); omega)
                    try (have hcj3 : ¬ c = 3 := by have h9 := hc; (try simp only [List.length_cons, List.length_nil] at h9); omega)
                    clear hws0 hsz hI hP1 hk hfk hff hfl e1 w1 K1 hP2 hst
                    go_enter Tryz.func46, Tryz.ntmps46
                    go_wp2_with (first | (go_at_call 34; ((with_reducible refine (P1.out _).mono ?_); rintro e wz ⟨rfl, rfl⟩; clear P1)) | (go_at_call 31; (refine (HS1.out _).mono ?_; rintro e wz ⟨rfl, rfl⟩; clear HS1)) | (go_at_call 53; (refine HC1.out.mono ?_; rintro e U0 ⟨rfl, hu0⟩; have HU0 := hide (HI1.out.below hu0 HI1.out.lt); clear HC1; have fu2 := block_free HU0.out.box 2; have xu2 := (block_cell HU0.out.box 2).trans rfl; have HU1 := hide (HU0.out.set hg 2 (.string f1) (f' := f1) (l' := 0) (a' := -1) (o' := false) rfl); obtain ⟨U1, hU1⟩ : ∃ U1, U0.setCell ⟨b, 2, none⟩ (.string f1) = U1 := ⟨_, rfl⟩; rw [hU1] at HU1; have HU1 := hide HU1.out.drop; have cu := head_cell HU1.out)) | (go_at_call 47; (refine (HF1.out _).mono ?_; rintro e wz ⟨rfl, rfl⟩; clear HF1)) | (go_at_call 34; ((with_reducible refine (P2.out _).mono ?_); rintro e wz ⟨rfl, rfl⟩; clear P2)))
                    all_goals go_ret
                    all_goals exact ⟨by rw [E.out] <;> simp, _, _, _, _, HU1.out.box, HU1.out.but, hfs, .inr E.out⟩
                · have P2 := hide (fun W => show Calls Tryz.prog 34 #[.string y, .string ⟨#[64]⟩] W fun e w' => e = .returned (.bool true) ∧ w' = W from hP2 ▸ Tryz.strings_HasPrefix y ⟨#[64]⟩ W)
                  have hp2 := pre_pos hP2
                  have hp2i : (1 : Int) ≤ (y.size : Int) := by omega
                  have hrs2 := restB_size y
                  have HN2 := hide (fun W => number_16 (restB y) 12 W (by decide) (by have := hsz y (by simp); omega))
                  obtain ⟨N2, hN2⟩ : ∃ N2, numO 16 12 (restB y) = N2 := ⟨_, rfl⟩
                  cases hK2 : numK 16 12 (restB y)
                  · simp only [hN2, hK2] at HN2
                    unfold restB at HN2
                    have E := hide (show plR ws0 = none by rw [← hws0]; simp [plR, pl2, pl3, hP1, hk, hff, hfl, hP2, hK2])
                    try (have hcj1 : ¬ c = 1 := by have h9 := hc; (try simp only [List.length_cons, List.length_nil] at h9); omega)
                    try (have hcj2 : ¬ c = 2 := by have h9 := hc; (try simp only [List.length_cons, List.length_nil] at h9); omega)
                    try (have hcj3 : ¬ c = 3 := by have h9 := hc; (try simp only [List.length_cons, List.length_nil] at h9); omega)
                    clear hws0 hsz hI hP1 hk hfk hff hfl e1 w1 K1 hP2 hK2 hN2
                    go_enter Tryz.func46, Tryz.ntmps46
                    go_wp2_with (first | (go_at_call 34; ((with_reducible refine (P1.out _).mono ?_); rintro e wz ⟨rfl, rfl⟩; clear P1)) | (go_at_call 31; (refine (HS1.out _).mono ?_; rintro e wz ⟨rfl, rfl⟩; clear HS1)) | (go_at_call 53; (refine HC1.out.mono ?_; rintro e U0 ⟨rfl, hu0⟩; have HU0 := hide (HI1.out.below hu0 HI1.out.lt); clear HC1; have fu2 := block_free HU0.out.box 2; have xu2 := (block_cell HU0.out.box 2).trans rfl; have HU1 := hide (HU0.out.set hg 2 (.string f1) (f' := f1) (l' := 0) (a' := -1) (o' := false) rfl); obtain ⟨U1, hU1⟩ : ∃ U1, U0.setCell ⟨b, 2, none⟩ (.string f1) = U1 := ⟨_, rfl⟩; rw [hU1] at HU1; have HU1 := hide HU1.out.drop; have cu := head_cell HU1.out)) | (go_at_call 47; (refine (HF1.out _).mono ?_; rintro e wz ⟨rfl, rfl⟩; clear HF1)) | (go_at_call 34; ((with_reducible refine (P2.out _).mono ?_); rintro e wz ⟨rfl, rfl⟩; clear P2)) | (go_at_call 41; (refine (HN2.out _).mono ?_; rintro e V2 ⟨rfl, hv2⟩; have HV2 := hide (HU1.out.below hv2 HU1.out.lt))))
                    all_goals go_ret
                    all_goals exact ⟨by rw [E.out] <;> simp, _, _, _, _, HV2.out.box, HV2.out.but, hfs, .inr E.out⟩
                  · simp only [hN2, hK2] at HN2
                    unfold restB at HN2
                    cases q with
                    | nil =>
                      have E := hide (show plR ws0 = some (f1, 0, N2, false) by rw [← hws0]; simp [plR, pl2, pl3, hP1, hk, hff, hfl, hP2, hK2, hN2])
                      try (have hcj1 : ¬ c = 1 := by have h9 := hc; (try simp only [List.length_cons, List.length_nil] at h9); omega)
                      try (have hcj2 : ¬ c = 2 := by have h9 := hc; (try simp only [List.length_cons, List.length_nil] at h9); omega)
                      try (have hcj3 : ¬ c = 3 := by have h9 := hc; (try simp only [List.length_cons, List.length_nil] at h9); omega)
                      clear hws0 hsz hI hP1 hk hfk hff hfl e1 w1 K1 hP2 hK2 hN2
                      go_enter Tryz.func46, Tryz.ntmps46
                      go_wp2_with (first | (go_at_call 34; ((with_reducible refine (P1.out _).mono ?_); rintro e wz ⟨rfl, rfl⟩; clear P1)) | (go_at_call 31; (refine (HS1.out _).mono ?_; rintro e wz ⟨rfl, rfl⟩; clear HS1)) | (go_at_call 53; (refine HC1.out.mono ?_; rintro e U0 ⟨rfl, hu0⟩; have HU0 := hide (HI1.out.below hu0 HI1.out.lt); clear HC1; have fu2 := block_free HU0.out.box 2; have xu2 := (block_cell HU0.out.box 2).trans rfl; have HU1 := hide (HU0.out.set hg 2 (.string f1) (f' := f1) (l' := 0) (a' := -1) (o' := false) rfl); obtain ⟨U1, hU1⟩ : ∃ U1, U0.setCell ⟨b, 2, none⟩ (.string f1) = U1 := ⟨_, rfl⟩; rw [hU1] at HU1; have HU1 := hide HU1.out.drop; have cu := head_cell HU1.out)) | (go_at_call 47; (refine (HF1.out _).mono ?_; rintro e wz ⟨rfl, rfl⟩; clear HF1)) | (go_at_call 34; ((with_reducible refine (P2.out _).mono ?_); rintro e wz ⟨rfl, rfl⟩; clear P2)) | (go_at_call 41; (refine (HN2.out _).mono ?_; rintro e V2 ⟨rfl, hv2⟩; have HV2 := hide (HU1.out.below hv2 HU1.out.lt); have fv4 := block_free HV2.out.box 4; have xv4 := (block_cell HV2.out.box 4).trans rfl; have HV3 := hide ((HV2.out.set hg 4 (.int .i64 N2) (f' := f1) (l' := 0) (a' := N2) (o' := false) rfl).drop); obtain ⟨V3, hV3⟩ : ∃ V3, V2.setCell ⟨b, 4, none⟩ (.int .i64 N2) = V3 := ⟨_, rfl⟩; rw [hV3] at HV3)))
                      all_goals go_ret
                      all_goals exact ⟨by rw [E.out] <;> simp, _, _, _, _, HV3.out.box, HV3.out.but, hfs, .inl E.out⟩
                    | cons z p =>
                      have hri9 : True := trivial
                      by_cases hst : z = ⟨#[42]⟩
                      · subst hst
                        cases p with
                        | nil =>
                          have E := hide (show plR ws0 = some (f1, 0, N2, true) by rw [← hws0]; simp [plR, pl2, pl3, hP1, hk, hff, hfl, hP2, hK2, hN2])
                          try (have hcj1 : ¬ c = 1 := by have h9 := hc; (try simp only [List.length_cons, List.length_nil] at h9); omega)
                          try (have hcj2 : ¬ c = 2 := by have h9 := hc; (try simp only [List.length_cons, List.length_nil] at h9); omega)
                          try (have hcj3 : ¬ c = 3 := by have h9 := hc; (try simp only [List.length_cons, List.length_nil] at h9); omega)
                          clear hws0 hsz hI hP1 hk hfk hff hfl e1 w1 K1 hP2 hK2 hN2
                          go_enter Tryz.func46, Tryz.ntmps46
                          go_wp2_with (first | (go_at_call 34; ((with_reducible refine (P1.out _).mono ?_); rintro e wz ⟨rfl, rfl⟩; clear P1)) | (go_at_call 31; (refine (HS1.out _).mono ?_; rintro e wz ⟨rfl, rfl⟩; clear HS1)) | (go_at_call 53; (refine HC1.out.mono ?_; rintro e U0 ⟨rfl, hu0⟩; have HU0 := hide (HI1.out.below hu0 HI1.out.lt); clear HC1; have fu2 := block_free HU0.out.box 2; have xu2 := (block_cell HU0.out.box 2).trans rfl; have HU1 := hide (HU0.out.set hg 2 (.string f1) (f' := f1) (l' := 0) (a' := -1) (o' := false) rfl); obtain ⟨U1, hU1⟩ : ∃ U1, U0.setCell ⟨b, 2, none⟩ (.string f1) = U1 := ⟨_, rfl⟩; rw [hU1] at HU1; have HU1 := hide HU1.out.drop; have cu := head_cell HU1.out)) | (go_at_call 47; (refine (HF1.out _).mono ?_; rintro e wz ⟨rfl, rfl⟩; clear HF1)) | (go_at_call 34; ((with_reducible refine (P2.out _).mono ?_); rintro e wz ⟨rfl, rfl⟩; clear P2)) | (go_at_call 41; (refine (HN2.out _).mono ?_; rintro e V2 ⟨rfl, hv2⟩; have HV2 := hide (HU1.out.below hv2 HU1.out.lt); have fv4 := block_free HV2.out.box 4; have xv4 := (block_cell HV2.out.box 4).trans rfl; have HV3 := hide ((HV2.out.set hg 4 (.int .i64 N2) (f' := f1) (l' := 0) (a' := N2) (o' := false) rfl).drop); obtain ⟨V3, hV3⟩ : ∃ V3, V2.setCell ⟨b, 4, none⟩ (.int .i64 N2) = V3 := ⟨_, rfl⟩; rw [hV3] at HV3; have cv := head_cell HV3.out); have fs5 := block_free HV3.out.box 5; have xs5 := (block_cell HV3.out.box 5).trans rfl; have HV3s := hide (HV3.out.set hg 5 (.bool true) (f' := f1) (l' := 0) (a' := N2) (o' := true) rfl); obtain ⟨V3s, hV3s⟩ : ∃ V3s, V3.setCell ⟨b, 5, none⟩ (.bool true) = V3s := ⟨_, rfl⟩; rw [hV3s] at HV3s))
                          all_goals go_ret
                          all_goals exact ⟨by rw [E.out] <;> simp, _, _, _, _, HV3s.out.box, HV3s.out.but, hfs, .inl E.out⟩
                        | cons c1 cs1 =>
                          have hcc : (c1 :: cs1).length + 1 = cs1.length + 1 + 1 := rfl
                          have hc1 : ¬ c = 1 := by simp only [List.length_cons] at hc; omega
                          have hc2 : ¬ c = 0 := by omega
                          have hlen9 : ((cs1.length : Int) + 1 == 0) = false := by rw [beq_eq_false_iff_ne]; omega
                          have E := hide (show plR ws0 = none by rw [← hws0]; simp [plR, pl2, pl3, hP1, hk, hff, hfl, hP2, hK2, hN2])
                          try (have hcj1 : ¬ c = 1 := by have h9 := hc; (try simp only [List.length_cons, List.length_nil] at h9); omega)
                          try (have hcj2 : ¬ c = 2 := by have h9 := hc; (try simp only [List.length_cons, List.length_nil] at h9); omega)
                          try (have hcj3 : ¬ c = 3 := by have h9 := hc; (try simp only [List.length_cons, List.length_nil] at h9); omega)
                          clear hws0 hsz hI hP1 hk hfk hff hfl e1 w1 K1 hP2 hK2 hN2
                          go_enter Tryz.func46, Tryz.ntmps46
                          go_wp2_with (first | (go_at_call 34; ((with_reducible refine (P1.out _).mono ?_); rintro e wz ⟨rfl, rfl⟩; clear P1)) | (go_at_call 31; (refine (HS1.out _).mono ?_; rintro e wz ⟨rfl, rfl⟩; clear HS1)) | (go_at_call 53; (refine HC1.out.mono ?_; rintro e U0 ⟨rfl, hu0⟩; have HU0 := hide (HI1.out.below hu0 HI1.out.lt); clear HC1; have fu2 := block_free HU0.out.box 2; have xu2 := (block_cell HU0.out.box 2).trans rfl; have HU1 := hide (HU0.out.set hg 2 (.string f1) (f' := f1) (l' := 0) (a' := -1) (o' := false) rfl); obtain ⟨U1, hU1⟩ : ∃ U1, U0.setCell ⟨b, 2, none⟩ (.string f1) = U1 := ⟨_, rfl⟩; rw [hU1] at HU1; have HU1 := hide HU1.out.drop; have cu := head_cell HU1.out)) | (go_at_call 47; (refine (HF1.out _).mono ?_; rintro e wz ⟨rfl, rfl⟩; clear HF1)) | (go_at_call 34; ((with_reducible refine (P2.out _).mono ?_); rintro e wz ⟨rfl, rfl⟩; clear P2)) | (go_at_call 41; (refine (HN2.out _).mono ?_; rintro e V2 ⟨rfl, hv2⟩; have HV2 := hide (HU1.out.below hv2 HU1.out.lt); have fv4 := block_free HV2.out.box 4; have xv4 := (block_cell HV2.out.box 4).trans rfl; have HV3 := hide ((HV2.out.set hg 4 (.int .i64 N2) (f' := f1) (l' := 0) (a' := N2) (o' := false) rfl).drop); obtain ⟨V3, hV3⟩ : ∃ V3, V2.setCell ⟨b, 4, none⟩ (.int .i64 N2) = V3 := ⟨_, rfl⟩; rw [hV3] at HV3; have cv := head_cell HV3.out); have fs5 := block_free HV3.out.box 5; have xs5 := (block_cell HV3.out.box 5).trans rfl; have HV3s := hide (HV3.out.set hg 5 (.bool true) (f' := f1) (l' := 0) (a' := N2) (o' := true) rfl); obtain ⟨V3s, hV3s⟩ : ∃ V3s, V3.setCell ⟨b, 5, none⟩ (.bool true) = V3s := ⟨_, rfl⟩; rw [hV3s] at HV3s))
                          all_goals go_ret
                          all_goals exact ⟨by rw [E.out] <;> simp, _, _, _, _, HV3s.out.box, HV3s.out.but, hfs, .inr E.out⟩
                      · obtain ⟨ne1, ne2⟩ := str_neS hst
                        have hlen8 : ((p.length : Int) + 1 == 0) = false := by rw [beq_eq_false_iff_ne]; omega
                        have E := hide (show plR ws0 = none by rw [← hws0]; simp [plR, pl2, pl3, hP1, hk, hff, hfl, hP2, hK2, hN2, hst])
                        try (have hcj1 : ¬ c = 1 := by have h9 := hc; (try simp only [List.length_cons, List.length_nil] at h9); omega)
                        try (have hcj2 : ¬ c = 2 := by have h9 := hc; (try simp only [List.length_cons, List.length_nil] at h9); omega)
                        try (have hcj3 : ¬ c = 3 := by have h9 := hc; (try simp only [List.length_cons, List.length_nil] at h9); omega)
                        clear hws0 hsz hI hP1 hk hfk hff hfl e1 w1 K1 hP2 hK2 hN2 hst
                        go_enter Tryz.func46, Tryz.ntmps46
                        go_wp2_with (first | (go_at_call 34; ((with_reducible refine (P1.out _).mono ?_); rintro e wz ⟨rfl, rfl⟩; clear P1)) | (go_at_call 31; (refine (HS1.out _).mono ?_; rintro e wz ⟨rfl, rfl⟩; clear HS1)) | (go_at_call 53; (refine HC1.out.mono ?_; rintro e U0 ⟨rfl, hu0⟩; have HU0 := hide (HI1.out.below hu0 HI1.out.lt); clear HC1; have fu2 := block_free HU0.out.box 2; have xu2 := (block_cell HU0.out.box 2).trans rfl; have HU1 := hide (HU0.out.set hg 2 (.string f1) (f' := f1) (l' := 0) (a' := -1) (o' := false) rfl); obtain ⟨U1, hU1⟩ : ∃ U1, U0.setCell ⟨b, 2, none⟩ (.string f1) = U1 := ⟨_, rfl⟩; rw [hU1] at HU1; have HU1 := hide HU1.out.drop; have cu := head_cell HU1.out)) | (go_at_call 47; (refine (HF1.out _).mono ?_; rintro e wz ⟨rfl, rfl⟩; clear HF1)) | (go_at_call 34; ((with_reducible refine (P2.out _).mono ?_); rintro e wz ⟨rfl, rfl⟩; clear P2)) | (go_at_call 41; (refine (HN2.out _).mono ?_; rintro e V2 ⟨rfl, hv2⟩; have HV2 := hide (HU1.out.below hv2 HU1.out.lt); have fv4 := block_free HV2.out.box 4; have xv4 := (block_cell HV2.out.box 4).trans rfl; have HV3 := hide ((HV2.out.set hg 4 (.int .i64 N2) (f' := f1) (l' := 0) (a' := N2) (o' := false) rfl).drop); obtain ⟨V3, hV3⟩ : ∃ V3, V2.setCell ⟨b, 4, none⟩ (.int .i64 N2) = V3 := ⟨_, rfl⟩; rw [hV3] at HV3; have cv := head_cell HV3.out)))
                        all_goals go_ret
                        all_goals exact ⟨by rw [E.out] <;> simp, _, _, _, _, HV3.out.box, HV3.out.but, hfs, .inr E.out⟩
            · rw [K1] at HC1 hfk hfl
              simp only [if_true] at hfl
              cases k1 : numK 10 7 l1
              · simp only [k1] at HN1
                have hk : fileK x = false := by rw [hfk]; simp [k1]
                have E := hide (show plR ws0 = none by rw [← hws0]; simp [plR, pl2, pl3, hP1, hk])
                try (have hcj1 : ¬ c = 1 := by have h9 := hc; (try simp only [List.length_cons, List.length_nil] at h9); omega)
                try (have hcj2 : ¬ c = 2 := by have h9 := hc; (try simp only [List.length_cons, List.length_nil] at h9); omega)
                try (have hcj3 : ¬ c = 3 := by have h9 := hc; (try simp only [List.length_cons, List.length_nil] at h9); omega)
                clear hws0 hsz hI hP1 hk hfk hff hfl e1 w1 K1 k1
                go_enter Tryz.func46, Tryz.ntmps46
                go_wp2_with (first | (go_at_call 34; ((with_reducible refine (P1.out _).mono ?_); rintro e wz ⟨rfl, rfl⟩; clear P1)) | (go_at_call 31; (refine (HS1.out _).mono ?_; rintro e wz ⟨rfl, rfl⟩; clear HS1)) | (go_at_call 53; (refine HC1.out.mono ?_; rintro e U0 ⟨rfl, hu0⟩; have HU0 := hide (HI1.out.below hu0 HI1.out.lt); clear HC1; have fu2 := block_free HU0.out.box 2; have xu2 := (block_cell HU0.out.box 2).trans rfl; have HU1 := hide (HU0.out.set hg 2 (.string f1) (f' := f1) (l' := 0) (a' := -1) (o' := false) rfl); obtain ⟨U1, hU1⟩ : ∃ U1, U0.setCell ⟨b, 2, none⟩ (.string f1) = U1 := ⟨_, rfl⟩; rw [hU1] at HU1)) | (go_at_call 47; (refine (HF1.out _).mono ?_; rintro e wz ⟨rfl, rfl⟩; clear HF1)) | (go_at_call 41; (refine (HN1.out _).mono ?_; rintro e U2 ⟨rfl, hu2⟩; have HU2 := hide (HU1.out.below hu2 HU1.out.lt); clear HN1)))
                all_goals go_ret
                all_goals exact ⟨by rw [E.out] <;> simp, _, _, _, _, HU2.out.box, HU2.out.but, hfs, .inr E.out⟩
              · simp only [k1] at HN1
                cases z1 : (N1 == 0)
                · have hk : fileK x = true := by rw [hfk]; simp [e1, w1, k1, z1]
                  cases r with
                  | nil =>
                    have E := hide (show plR ws0 = some (f1, N1, -1, false) by rw [← hws0]; simp [plR, pl2, pl3, hP1, hk, hff, hfl])
                    try (have hcj1 : ¬ c = 1 := by have h9 := hc; (try simp only [List.length_cons, List.length_nil] at h9); omega)
                    try (have hcj2 : ¬ c = 2 := by have h9 := hc; (try simp only [List.length_cons, List.length_nil] at h9); omega)
                    try (have hcj3 : ¬ c = 3 := by have h9 := hc; (try simp only [List.length_cons, List.length_nil] at h9); omega)
                    clear hws0 hsz hI hP1 hk hfk hff hfl e1 w1 K1 k1
                    go_enter Tryz.func46, Tryz.ntmps46
                    go_wp2_with (first | (go_at_call 34; ((with_reducible refine (P1.out _).mono ?_); rintro e wz ⟨rfl, rfl⟩; clear P1)) | (go_at_call 31; (refine (HS1.out _).mono ?_; rintro e wz ⟨rfl, rfl⟩; clear HS1)) | (go_at_call 53; (refine HC1.out.mono ?_; rintro e U0 ⟨rfl, hu0⟩; have HU0 := hide (HI1.out.below hu0 HI1.out.lt); clear HC1; have fu2 := block_free HU0.out.box 2; have xu2 := (block_cell HU0.out.box 2).trans rfl; have HU1 := hide (HU0.out.set hg 2 (.string f1) (f' := f1) (l' := 0) (a' := -1) (o' := false) rfl); obtain ⟨U1, hU1⟩ : ∃ U1, U0.setCell ⟨b, 2, none⟩ (.string f1) = U1 := ⟨_, rfl⟩; rw [hU1] at HU1)) | (go_at_call 47; (refine (HF1.out _).mono ?_; rintro e wz ⟨rfl, rfl⟩; clear HF1)) | (go_at_call 41; (refine (HN1.out _).mono ?_; rintro e U2 ⟨rfl, hu2⟩; have HU2 := hide (HU1.out.below hu2 HU1.out.lt); clear HN1; have fu3 := block_free HU2.out.box 3; have xu3 := (block_cell HU2.out.box 3).trans rfl; have HU3 := hide ((HU2.out.set hg 3 (.int .i64 N1) (f' := f1) (l' := N1) (a' := -1) (o' := false) rfl).drop); obtain ⟨U3, hU3⟩ : ∃ U3, U2.setCell ⟨b, 3, none⟩ (.int .i64 N1) = U3 := ⟨_, rfl⟩; rw [hU3] at HU3)))
                    all_goals go_ret
                    all_goals exact ⟨by rw [E.out] <;> simp, _, _, _, _, HU3.out.box, HU3.out.but, hfs, .inl E.out⟩
                  | cons y q =>
                    have hqi : (0 : Int) ≤ (q.length : Int) := by omega
                    simp only [List.length_cons] at *
                    cases hP2 : preB y 64
                    · have P2 := hide (fun W => show Calls Tryz.prog 34 #[.string y, .string ⟨#[64]⟩] W fun e w' => e = .returned (.bool false) ∧ w' = W from hP2 ▸ Tryz.strings_HasPrefix y ⟨#[64]⟩ W)
                      by_cases hst : y = ⟨#[42]⟩
                      · subst hst
                        cases q with
                        | nil =>
                          have E := hide (show plR ws0 = some (f1, N1, -1, true) by rw [← hws0]; simp [plR, pl2, pl3, hP1, hk, hff, hfl, hP2])
                          try (have hcj1 : ¬ c = 1 := by have h9 := hc; (try simp only [List.length_cons, List.length_nil] at h9); omega)
                          try (have hcj2 : ¬ c = 2 := by have h9 := hc; (try simp only [List.length_cons, List.length_nil] at h9); omega)
                          try (have hcj3 : ¬ c = 3 := by have h9 := hc; (try simp only [List.length_cons, List.length_nil] at h9); omega)
                          clear hws0 hsz hI hP1 hk hfk hff hfl e1 w1 K1 k1 hP2
                          go_enter Tryz.func46, Tryz.ntmps46
                          go_wp2_with (first | (go_at_call 34; ((with_reducible refine (P1.out _).mono ?_); rintro e wz ⟨rfl, rfl⟩; clear P1)) | (go_at_call 31; (refine (HS1.out _).mono ?_; rintro e wz ⟨rfl, rfl⟩; clear HS1)) | (go_at_call 53; (refine HC1.out.mono ?_; rintro e U0 ⟨rfl, hu0⟩; have HU0 := hide (HI1.out.below hu0 HI1.out.lt); clear HC1; have fu2 := block_free HU0.out.box 2; have xu2 := (block_cell HU0.out.box 2).trans rfl; have HU1 := hide (HU0.out.set hg 2 (.string f1) (f' := f1) (l' := 0) (a' := -1) (o' := false) rfl); obtain ⟨U1, hU1⟩ : ∃ U1, U0.setCell ⟨b, 2, none⟩ (.string f1) = U1 := ⟨_, rfl⟩; rw [hU1] at HU1)) | (go_at_call 47; (refine (HF1.out _).mono ?_; rintro e wz ⟨rfl, rfl⟩; clear HF1)) | (go_at_call 41; (refine (HN1.out _).mono ?_; rintro e U2 ⟨rfl, hu2⟩; have HU2 := hide (HU1.out.below hu2 HU1.out.lt); clear HN1; have fu3 := block_free HU2.out.box 3; have xu3 := (block_cell HU2.out.box 3).trans rfl; have HU3 := hide ((HU2.out.set hg 3 (.int .i64 N1) (f' := f1) (l' := N1) (a' := -1) (o' := false) rfl).drop); obtain ⟨U3, hU3⟩ : ∃ U3, U2.setCell ⟨b, 3, none⟩ (.int .i64 N1) = U3 := ⟨_, rfl⟩; rw [hU3] at HU3; have cu := head_cell HU3.out); have fs5 := block_free HU3.out.box 5; have xs5 := (block_cell HU3.out.box 5).trans rfl; have HU3s := hide (HU3.out.set hg 5 (.bool true) (f' := f1) (l' := N1) (a' := -1) (o' := true) rfl); obtain ⟨U3s, hU3s⟩ : ∃ U3s, U3.setCell ⟨b, 5, none⟩ (.bool true) = U3s := ⟨_, rfl⟩; rw [hU3s] at HU3s) | (go_at_call 34; ((with_reducible refine (P2.out _).mono ?_); rintro e wz ⟨rfl, rfl⟩; clear P2)))
                          all_goals go_ret
                          all_goals exact ⟨by rw [E.out] <;> simp, _, _, _, _, HU3s.out.box, HU3s.out.but, hfs, .inl E.out⟩
                        | cons c1 cs1 =>
                          have hcc : (c1 :: cs1).length + 1 = cs1.length + 1 + 1 := rfl
                          have hc1 : ¬ c = 1 := by simp only [List.length_cons] at hc; omega
                          have hc2 : ¬ c = 0 := by omega
                          have hlen9 : ((cs1.length : Int) + 1 == 0) = false := by rw [beq_eq_false_iff_ne]; omega
                          have E := hide (show plR ws0 = none by rw [← hws0]; simp [plR, pl2, pl3, hP1, hk, hff, hfl, hP2])
                          try (have hcj1 : ¬ c = 1 := by have h9 := hc; (try simp only [List.length_cons, List.length_nil] at h9); omega)
                          try (have hcj2 : ¬ c = 2 := by have h9 := hc; (try simp only [List.length_cons, List.length_nil] at h9); omega)
                          try (have hcj3 : ¬ c = 3 := by have h9 := hc; (try simp only [List.length_cons, List.length_nil] at h9); omega)
                          clear hws0 hsz hI hP1 hk hfk hff hfl e1 w1 K1 k1 hP2
                          go_enter Tryz.func46, Tryz.ntmps46
                          go_wp2_with (first | (go_at_call 34; ((with_reducible refine (P1.out _).mono ?_); rintro e wz ⟨rfl, rfl⟩; clear P1)) | (go_at_call 31; (refine (HS1.out _).mono ?_; rintro e wz ⟨rfl, rfl⟩; clear HS1)) | (go_at_call 53; (refine HC1.out.mono ?_; rintro e U0 ⟨rfl, hu0⟩; have HU0 := hide (HI1.out.below hu0 HI1.out.lt); clear HC1; have fu2 := block_free HU0.out.box 2; have xu2 := (block_cell HU0.out.box 2).trans rfl; have HU1 := hide (HU0.out.set hg 2 (.string f1) (f' := f1) (l' := 0) (a' := -1) (o' := false) rfl); obtain ⟨U1, hU1⟩ : ∃ U1, U0.setCell ⟨b, 2, none⟩ (.string f1) = U1 := ⟨_, rfl⟩; rw [hU1] at HU1)) | (go_at_call 47; (refine (HF1.out _).mono ?_; rintro e wz ⟨rfl, rfl⟩; clear HF1)) | (go_at_call 41; (refine (HN1.out _).mono ?_; rintro e U2 ⟨rfl, hu2⟩; have HU2 := hide (HU1.out.below hu2 HU1.out.lt); clear HN1; have fu3 := block_free HU2.out.box 3; have xu3 := (block_cell HU2.out.box 3).trans rfl; have HU3 := hide ((HU2.out.set hg 3 (.int .i64 N1) (f' := f1) (l' := N1) (a' := -1) (o' := false) rfl).drop); obtain ⟨U3, hU3⟩ : ∃ U3, U2.setCell ⟨b, 3, none⟩ (.int .i64 N1) = U3 := ⟨_, rfl⟩; rw [hU3] at HU3; have cu := head_cell HU3.out); have fs5 := block_free HU3.out.box 5; have xs5 := (block_cell HU3.out.box 5).trans rfl; have HU3s := hide (HU3.out.set hg 5 (.bool true) (f' := f1) (l' := N1) (a' := -1) (o' := true) rfl); obtain ⟨U3s, hU3s⟩ : ∃ U3s, U3.setCell ⟨b, 5, none⟩ (.bool true) = U3s := ⟨_, rfl⟩; rw [hU3s] at HU3s) | (go_at_call 34; ((with_reducible refine (P2.out _).mono ?_); rintro e wz ⟨rfl, rfl⟩; clear P2)))
                          all_goals go_ret
                          all_goals exact ⟨by rw [E.out] <;> simp, _, _, _, _, HU3s.out.box, HU3s.out.but, hfs, .inr E.out⟩
                      · obtain ⟨ne1, ne2⟩ := str_neS hst
                        have hlen8 : ((q.length : Int) + 1 == 0) = false := by rw [beq_eq_false_iff_ne]; omega
                        have E := hide (show plR ws0 = none by rw [← hws0]; simp [plR, pl2, pl3, hP1, hk, hff, hfl, hP2, hst])
                        try (have hcj1 : ¬ c = 1 := by have h9 := hc; (try simp only [List.length_cons, List.length_nil] at h9); omega)
                        try (have hcj2 : ¬ c = 2 := by have h9 := hc; (try simp only [List.length_cons, List.length_nil] at h9); omega)
                        try (have hcj3 : ¬ c = 3 := by have h9 := hc; (try simp only [List.length_cons, List.length_nil] at h9); omega)
                        clear hws0 hsz hI hP1 hk hfk hff hfl e1 w1 K1 k1 hP2 hst
                        go_enter Tryz.func46, Tryz.ntmps46
                        go_wp2_with (first | (go_at_call 34; ((with_reducible refine (P1.out _).mono ?_); rintro e wz ⟨rfl, rfl⟩; clear P1)) | (go_at_call 31; (refine (HS1.out _).mono ?_; rintro e wz ⟨rfl, rfl⟩; clear HS1)) | (go_at_call 53; (refine HC1.out.mono ?_; rintro e U0 ⟨rfl, hu0⟩; have HU0 := hide (HI1.out.below hu0 HI1.out.lt); clear HC1; have fu2 := block_free HU0.out.box 2; have xu2 := (block_cell HU0.out.box 2).trans rfl; have HU1 := hide (HU0.out.set hg 2 (.string f1) (f' := f1) (l' := 0) (a' := -1) (o' := false) rfl); obtain ⟨U1, hU1⟩ : ∃ U1, U0.setCell ⟨b, 2, none⟩ (.string f1) = U1 := ⟨_, rfl⟩; rw [hU1] at HU1)) | (go_at_call 47; (refine (HF1.out _).mono ?_; rintro e wz ⟨rfl, rfl⟩; clear HF1)) | (go_at_call 41; (refine (HN1.out _).mono ?_; rintro e U2 ⟨rfl, hu2⟩; have HU2 := hide (HU1.out.below hu2 HU1.out.lt); clear HN1; have fu3 := block_free HU2.out.box 3; have xu3 := (block_cell HU2.out.box 3).trans rfl; have HU3 := hide ((HU2.out.set hg 3 (.int .i64 N1) (f' := f1) (l' := N1) (a' := -1) (o' := false) rfl).drop); obtain ⟨U3, hU3⟩ : ∃ U3, U2.setCell ⟨b, 3, none⟩ (.int .i64 N1) = U3 := ⟨_, rfl⟩; rw [hU3] at HU3; have cu := head_cell HU3.out)) | (go_at_call 34; ((with_reducible refine (P2.out _).mono ?_); rintro e wz ⟨rfl, rfl⟩; clear P2)))
                        all_goals go_ret
                        all_goals exact ⟨by rw [E.out] <;> simp, _, _, _, _, HU3.out.box, HU3.out.but, hfs, .inr E.out⟩
                    · have P2 := hide (fun W => show Calls Tryz.prog 34 #[.string y, .string ⟨#[64]⟩] W fun e w' => e = .returned (.bool true) ∧ w' = W from hP2 ▸ Tryz.strings_HasPrefix y ⟨#[64]⟩ W)
                      have hp2 := pre_pos hP2
                      have hp2i : (1 : Int) ≤ (y.size : Int) := by omega
                      have hrs2 := restB_size y
                      have HN2 := hide (fun W => number_16 (restB y) 12 W (by decide) (by have := hsz y (by simp); omega))
                      obtain ⟨N2, hN2⟩ : ∃ N2, numO 16 12 (restB y) = N2 := ⟨_, rfl⟩
                      cases hK2 : numK 16 12 (restB y)
                      · simp only [hN2, hK2] at HN2
                        unfold restB at HN2
                        have E := hide (show plR ws0 = none by rw [← hws0]; simp [plR, pl2, pl3, hP1, hk, hff, hfl, hP2, hK2])
                        try (have hcj1 : ¬ c = 1 := by have h9 := hc; (try simp only [List.length_cons, List.length_nil] at h9); omega)
                        try (have hcj2 : ¬ c = 2 := by have h9 := hc; (try simp only [List.length_cons, List.length_nil] at h9); omega)
                        try (have hcj3 : ¬ c = 3 := by have h9 := hc; (try simp only [List.length_cons, List.length_nil] at h9); omega)
                        clear hws0 hsz hI hP1 hk hfk hff hfl e1 w1 K1 k1 hP2 hK2 hN2
                        go_enter Tryz.func46, Tryz.ntmps46
                        go_wp2_with (first | (go_at_call 34; ((with_reducible refine (P1.out _).mono ?_); rintro e wz ⟨rfl, rfl⟩; clear P1)) | (go_at_call 31; (refine (HS1.out _).mono ?_; rintro e wz ⟨rfl, rfl⟩; clear HS1)) | (go_at_call 53; (refine HC1.out.mono ?_; rintro e U0 ⟨rfl, hu0⟩; have HU0 := hide (HI1.out.below hu0 HI1.out.lt); clear HC1; have fu2 := block_free HU0.out.box 2; have xu2 := (block_cell HU0.out.box 2).trans rfl; have HU1 := hide (HU0.out.set hg 2 (.string f1) (f' := f1) (l' := 0) (a' := -1) (o' := false) rfl); obtain ⟨U1, hU1⟩ : ∃ U1, U0.setCell ⟨b, 2, none⟩ (.string f1) = U1 := ⟨_, rfl⟩; rw [hU1] at HU1)) | (go_at_call 47; (refine (HF1.out _).mono ?_; rintro e wz ⟨rfl, rfl⟩; clear HF1)) | (go_at_call 41; (refine (HN1.out _).mono ?_; rintro e U2 ⟨rfl, hu2⟩; have HU2 := hide (HU1.out.below hu2 HU1.out.lt); clear HN1; have fu3 := block_free HU2.out.box 3; have xu3 := (block_cell HU2.out.box 3).trans rfl; have HU3 := hide ((HU2.out.set hg 3 (.int .i64 N1) (f' := f1) (l' := N1) (a' := -1) (o' := false) rfl).drop); obtain ⟨U3, hU3⟩ : ∃ U3, U2.setCell ⟨b, 3, none⟩ (.int .i64 N1) = U3 := ⟨_, rfl⟩; rw [hU3] at HU3; have cu := head_cell HU3.out)) | (go_at_call 34; ((with_reducible refine (P2.out _).mono ?_); rintro e wz ⟨rfl, rfl⟩; clear P2)) | (go_at_call 41; (refine (HN2.out _).mono ?_; rintro e V2 ⟨rfl, hv2⟩; have HV2 := hide (HU3.out.below hv2 HU3.out.lt))))
                        all_goals go_ret
                        all_goals exact ⟨by rw [E.out] <;> simp, _, _, _, _, HV2.out.box, HV2.out.but, hfs, .inr E.out⟩
                      · simp only [hN2, hK2] at HN2
                        unfold restB at HN2
                        cases q with
                        | nil =>
                          have E := hide (show plR ws0 = some (f1, N1, N2, false) by rw [← hws0]; simp [plR, pl2, pl3, hP1, hk, hff, hfl, hP2, hK2, hN2])
                          try (have hcj1 : ¬ c = 1 := by have h9 := hc; (try simp only [List.length_cons, List.length_nil] at h9); omega)
                          try (have hcj2 : ¬ c = 2 := by have h9 := hc; (try simp only [List.length_cons, List.length_nil] at h9); omega)
                          try (have hcj3 : ¬ c = 3 := by have h9 := hc; (try simp only [List.length_cons, List.length_nil] at h9); omega)
                          clear hws0 hsz hI hP1 hk hfk hff hfl e1 w1 K1 k1 hP2 hK2 hN2
                          go_enter Tryz.func46, Tryz.ntmps46
                          go_wp2_with (first | (go_at_call 34; ((with_reducible refine (P1.out _).mono ?_); rintro e wz ⟨rfl, rfl⟩; clear P1)) | (go_at_call 31; (refine (HS1.out _).mono ?_; rintro e wz ⟨rfl, rfl⟩; clear HS1)) | (go_at_call 53; (refine HC1.out.mono ?_; rintro e U0 ⟨rfl, hu0⟩; have HU0 := hide (HI1.out.below hu0 HI1.out.lt); clear HC1; have fu2 := block_free HU0.out.box 2; have xu2 := (block_cell HU0.out.box 2).trans rfl; have HU1 := hide (HU0.out.set hg 2 (.string f1) (f' := f1) (l' := 0) (a' := -1) (o' := false) rfl); obtain ⟨U1, hU1⟩ : ∃ U1, U0.setCell ⟨b, 2, none⟩ (.string f1) = U1 := ⟨_, rfl⟩; rw [hU1] at HU1)) | (go_at_call 47; (refine (HF1.out _).mono ?_; rintro e wz ⟨rfl, rfl⟩; clear HF1)) | (go_at_call 41; (refine (HN1.out _).mono ?_; rintro e U2 ⟨rfl, hu2⟩; have HU2 := hide (HU1.out.below hu2 HU1.out.lt); clear HN1; have fu3 := block_free HU2.out.box 3; have xu3 := (block_cell HU2.out.box 3).trans rfl; have HU3 := hide ((HU2.out.set hg 3 (.int .i64 N1) (f' := f1) (l' := N1) (a' := -1) (o' := false) rfl).drop); obtain ⟨U3, hU3⟩ : ∃ U3, U2.setCell ⟨b, 3, none⟩ (.int .i64 N1) = U3 := ⟨_, rfl⟩; rw [hU3] at HU3; have cu := head_cell HU3.out)) | (go_at_call 34; ((with_reducible refine (P2.out _).mono ?_); rintro e wz ⟨rfl, rfl⟩; clear P2)) | (go_at_call 41; (refine (HN2.out _).mono ?_; rintro e V2 ⟨rfl, hv2⟩; have HV2 := hide (HU3.out.below hv2 HU3.out.lt); have fv4 := block_free HV2.out.box 4; have xv4 := (block_cell HV2.out.box 4).trans rfl; have HV3 := hide ((HV2.out.set hg 4 (.int .i64 N2) (f' := f1) (l' := N1) (a' := N2) (o' := false) rfl).drop); obtain ⟨V3, hV3⟩ : ∃ V3, V2.setCell ⟨b, 4, none⟩ (.int .i64 N2) = V3 := ⟨_, rfl⟩; rw [hV3] at HV3)))
                          all_goals go_ret
                          all_goals exact ⟨by rw [E.out] <;> simp, _, _, _, _, HV3.out.box, HV3.out.but, hfs, .inl E.out⟩
                        | cons z p =>
                          have hri9 : True := trivial
                          by_cases hst : z = ⟨#[42]⟩
                          · subst hst
                            cases p with
                            | nil =>
                              have E := hide (show plR ws0 = some (f1, N1, N2, true) by rw [← hws0]; simp [plR, pl2, pl3, hP1, hk, hff, hfl, hP2, hK2, hN2])
                              try (have hcj1 : ¬ c = 1 := by have h9 := hc; (try simp only [List.length_cons, List.length_nil] at h9); omega)
                              try (have hcj2 : ¬ c = 2 := by have h9 := hc; (try simp only [List.length_cons, List.length_nil] at h9); omega)
                              try (have hcj3 : ¬ c = 3 := by have h9 := hc; (try simp only [List.length_cons, List.length_nil] at h9); omega)
                              clear hws0 hsz hI hP1 hk hfk hff hfl e1 w1 K1 k1 hP2 hK2 hN2
                              go_enter Tryz.func46, Tryz.ntmps46
                              go_wp2_with (first | (go_at_call 34; ((with_reducible refine (P1.out _).mono ?_); rintro e wz ⟨rfl, rfl⟩; clear P1)) | (go_at_call 31; (refine (HS1.out _).mono ?_; rintro e wz ⟨rfl, rfl⟩; clear HS1)) | (go_at_call 53; (refine HC1.out.mono ?_; rintro e U0 ⟨rfl, hu0⟩; have HU0 := hide (HI1.out.below hu0 HI1.out.lt); clear HC1; have fu2 := block_free HU0.out.box 2; have xu2 := (block_cell HU0.out.box 2).trans rfl; have HU1 := hide (HU0.out.set hg 2 (.string f1) (f' := f1) (l' := 0) (a' := -1) (o' := false) rfl); obtain ⟨U1, hU1⟩ : ∃ U1, U0.setCell ⟨b, 2, none⟩ (.string f1) = U1 := ⟨_, rfl⟩; rw [hU1] at HU1)) | (go_at_call 47; (refine (HF1.out _).mono ?_; rintro e wz ⟨rfl, rfl⟩; clear HF1)) | (go_at_call 41; (refine (HN1.out _).mono ?_; rintro e U2 ⟨rfl, hu2⟩; have HU2 := hide (HU1.out.below hu2 HU1.out.lt); clear HN1; have fu3 := block_free HU2.out.box 3; have xu3 := (block_cell HU2.out.box 3).trans rfl; have HU3 := hide ((HU2.out.set hg 3 (.int .i64 N1) (f' := f1) (l' := N1) (a' := -1) (o' := false) rfl).drop); obtain ⟨U3, hU3⟩ : ∃ U3, U2.setCell ⟨b, 3, none⟩ (.int .i64 N1) = U3 := ⟨_, rfl⟩; rw [hU3] at HU3; have cu := head_cell HU3.out)) | (go_at_call 34; ((with_reducible refine (P2.out _).mono ?_); rintro e wz ⟨rfl, rfl⟩; clear P2)) | (go_at_call 41; (refine (HN2.out _).mono ?_; rintro e V2 ⟨rfl, hv2⟩; have HV2 := hide (HU3.out.below hv2 HU3.out.lt); have fv4 := block_free HV2.out.box 4; have xv4 := (block_cell HV2.out.box 4).trans rfl; have HV3 := hide ((HV2.out.set hg 4 (.int .i64 N2) (f' := f1) (l' := N1) (a' := N2) (o' := false) rfl).drop); obtain ⟨V3, hV3⟩ : ∃ V3, V2.setCell ⟨b, 4, none⟩ (.int .i64 N2) = V3 := ⟨_, rfl⟩; rw [hV3] at HV3; have cv := head_cell HV3.out); have fs5 := block_free HV3.out.box 5; have xs5 := (block_cell HV3.out.box 5).trans rfl; have HV3s := hide (HV3.out.set hg 5 (.bool true) (f' := f1) (l' := N1) (a' := N2) (o' := true) rfl); obtain ⟨V3s, hV3s⟩ : ∃ V3s, V3.setCell ⟨b, 5, none⟩ (.bool true) = V3s := ⟨_, rfl⟩; rw [hV3s] at HV3s))
                              all_goals go_ret
                              all_goals exact ⟨by rw [E.out] <;> simp, _, _, _, _, HV3s.out.box, HV3s.out.but, hfs, .inl E.out⟩
                            | cons c1 cs1 =>
                              have hcc : (c1 :: cs1).length + 1 = cs1.length + 1 + 1 := rfl
                              have hc1 : ¬ c = 1 := by simp only [List.length_cons] at hc; omega
                              have hc2 : ¬ c = 0 := by omega
                              have hlen9 : ((cs1.length : Int) + 1 == 0) = false := by rw [beq_eq_false_iff_ne]; omega
                              have E := hide (show plR ws0 = none by rw [← hws0]; simp [plR, pl2, pl3, hP1, hk, hff, hfl, hP2, hK2, hN2])
                              try (have hcj1 : ¬ c = 1 := by have h9 := hc; (try simp only [List.length_cons, List.length_nil] at h9); omega)
                              try (have hcj2 : ¬ c = 2 := by have h9 := hc; (try simp only [List.length_cons, List.length_nil] at h9); omega)
                              try (have hcj3 : ¬ c = 3 := by have h9 := hc; (try simp only [List.length_cons, List.length_nil] at h9); omega)
                              clear hws0 hsz hI hP1 hk hfk hff hfl e1 w1 K1 k1 hP2 hK2 hN2
                              go_enter Tryz.func46, Tryz.ntmps46
                              go_wp2_with (first | (go_at_call 34; ((with_reducible refine (P1.out _).mono ?_); rintro e wz ⟨rfl, rfl⟩; clear P1)) | (go_at_call 31; (refine (HS1.out _).mono ?_; rintro e wz ⟨rfl, rfl⟩; clear HS1)) | (go_at_call 53; (refine HC1.out.mono ?_; rintro e U0 ⟨rfl, hu0⟩; have HU0 := hide (HI1.out.below hu0 HI1.out.lt); clear HC1; have fu2 := block_free HU0.out.box 2; have xu2 := (block_cell HU0.out.box 2).trans rfl; have HU1 := hide (HU0.out.set hg 2 (.string f1) (f' := f1) (l' := 0) (a' := -1) (o' := false) rfl); obtain ⟨U1, hU1⟩ : ∃ U1, U0.setCell ⟨b, 2, none⟩ (.string f1) = U1 := ⟨_, rfl⟩; rw [hU1] at HU1)) | (go_at_call 47; (refine (HF1.out _).mono ?_; rintro e wz ⟨rfl, rfl⟩; clear HF1)) | (go_at_call 41; (refine (HN1.out _).mono ?_; rintro e U2 ⟨rfl, hu2⟩; have HU2 := hide (HU1.out.below hu2 HU1.out.lt); clear HN1; have fu3 := block_free HU2.out.box 3; have xu3 := (block_cell HU2.out.box 3).trans rfl; have HU3 := hide ((HU2.out.set hg 3 (.int .i64 N1) (f' := f1) (l' := N1) (a' := -1) (o' := false) rfl).drop); obtain ⟨U3, hU3⟩ : ∃ U3, U2.setCell ⟨b, 3, none⟩ (.int .i64 N1) = U3 := ⟨_, rfl⟩; rw [hU3] at HU3; have cu := head_cell HU3.out)) | (go_at_call 34; ((with_reducible refine (P2.out _).mono ?_); rintro e wz ⟨rfl, rfl⟩; clear P2)) | (go_at_call 41; (refine (HN2.out _).mono ?_; rintro e V2 ⟨rfl, hv2⟩; have HV2 := hide (HU3.out.below hv2 HU3.out.lt); have fv4 := block_free HV2.out.box 4; have xv4 := (block_cell HV2.out.box 4).trans rfl; have HV3 := hide ((HV2.out.set hg 4 (.int .i64 N2) (f' := f1) (l' := N1) (a' := N2) (o' := false) rfl).drop); obtain ⟨V3, hV3⟩ : ∃ V3, V2.setCell ⟨b, 4, none⟩ (.int .i64 N2) = V3 := ⟨_, rfl⟩; rw [hV3] at HV3; have cv := head_cell HV3.out); have fs5 := block_free HV3.out.box 5; have xs5 := (block_cell HV3.out.box 5).trans rfl; have HV3s := hide (HV3.out.set hg 5 (.bool true) (f' := f1) (l' := N1) (a' := N2) (o' := true) rfl); obtain ⟨V3s, hV3s⟩ : ∃ V3s, V3.setCell ⟨b, 5, none⟩ (.bool true) = V3s := ⟨_, rfl⟩; rw [hV3s] at HV3s))
                              all_goals go_ret
                              all_goals exact ⟨by rw [E.out] <;> simp, _, _, _, _, HV3s.out.box, HV3s.out.but, hfs, .inr E.out⟩
                          · obtain ⟨ne1, ne2⟩ := str_neS hst
                            have hlen8 : ((p.length : Int) + 1 == 0) = false := by rw [beq_eq_false_iff_ne]; omega
                            have E := hide (show plR ws0 = none by rw [← hws0]; simp [plR, pl2, pl3, hP1, hk, hff, hfl, hP2, hK2, hN2, hst])
                            try (have hcj1 : ¬ c = 1 := by have h9 := hc; (try simp only [List.length_cons, List.length_nil] at h9); omega)
                            try (have hcj2 : ¬ c = 2 := by have h9 := hc; (try simp only [List.length_cons, List.length_nil] at h9); omega)
                            try (have hcj3 : ¬ c = 3 := by have h9 := hc; (try simp only [List.length_cons, List.length_nil] at h9); omega)
                            clear hws0 hsz hI hP1 hk hfk hff hfl e1 w1 K1 k1 hP2 hK2 hN2 hst
                            go_enter Tryz.func46, Tryz.ntmps46
                            go_wp2_with (first | (go_at_call 34; ((with_reducible refine (P1.out _).mono ?_); rintro e wz ⟨rfl, rfl⟩; clear P1)) | (go_at_call 31; (refine (HS1.out _).mono ?_; rintro e wz ⟨rfl, rfl⟩; clear HS1)) | (go_at_call 53; (refine HC1.out.mono ?_; rintro e U0 ⟨rfl, hu0⟩; have HU0 := hide (HI1.out.below hu0 HI1.out.lt); clear HC1; have fu2 := block_free HU0.out.box 2; have xu2 := (block_cell HU0.out.box 2).trans rfl; have HU1 := hide (HU0.out.set hg 2 (.string f1) (f' := f1) (l' := 0) (a' := -1) (o' := false) rfl); obtain ⟨U1, hU1⟩ : ∃ U1, U0.setCell ⟨b, 2, none⟩ (.string f1) = U1 := ⟨_, rfl⟩; rw [hU1] at HU1)) | (go_at_call 47; (refine (HF1.out _).mono ?_; rintro e wz ⟨rfl, rfl⟩; clear HF1)) | (go_at_call 41; (refine (HN1.out _).mono ?_; rintro e U2 ⟨rfl, hu2⟩; have HU2 := hide (HU1.out.below hu2 HU1.out.lt); clear HN1; have fu3 := block_free HU2.out.box 3; have xu3 := (block_cell HU2.out.box 3).trans rfl; have HU3 := hide ((HU2.out.set hg 3 (.int .i64 N1) (f' := f1) (l' := N1) (a' := -1) (o' := false) rfl).drop); obtain ⟨U3, hU3⟩ : ∃ U3, U2.setCell ⟨b, 3, none⟩ (.int .i64 N1) = U3 := ⟨_, rfl⟩; rw [hU3] at HU3; have cu := head_cell HU3.out)) | (go_at_call 34; ((with_reducible refine (P2.out _).mono ?_); rintro e wz ⟨rfl, rfl⟩; clear P2)) | (go_at_call 41; (refine (HN2.out _).mono ?_; rintro e V2 ⟨rfl, hv2⟩; have HV2 := hide (HU3.out.below hv2 HU3.out.lt); have fv4 := block_free HV2.out.box 4; have xv4 := (block_cell HV2.out.box 4).trans rfl; have HV3 := hide ((HV2.out.set hg 4 (.int .i64 N2) (f' := f1) (l' := N1) (a' := N2) (o' := false) rfl).drop); obtain ⟨V3, hV3⟩ : ∃ V3, V2.setCell ⟨b, 4, none⟩ (.int .i64 N2) = V3 := ⟨_, rfl⟩; rw [hV3] at HV3; have cv := head_cell HV3.out)))
                            all_goals go_ret
                            all_goals exact ⟨by rw [E.out] <;> simp, _, _, _, _, HV3.out.box, HV3.out.but, hfs, .inr E.out⟩
                · have z1' := z1
                  have hk : fileK x = false := by rw [hfk]; simp [k1, z1]
                  have E := hide (show plR ws0 = none by rw [← hws0]; simp [plR, pl2, pl3, hP1, hk])
                  try (have hcj1 : ¬ c = 1 := by have h9 := hc; (try simp only [List.length_cons, List.length_nil] at h9); omega)
                  try (have hcj2 : ¬ c = 2 := by have h9 := hc; (try simp only [List.length_cons, List.length_nil] at h9); omega)
                  try (have hcj3 : ¬ c = 3 := by have h9 := hc; (try simp only [List.length_cons, List.length_nil] at h9); omega)
                  clear hws0 hsz hI hP1 hk hfk hff hfl e1 w1 K1 k1 z1'
                  go_enter Tryz.func46, Tryz.ntmps46
                  go_wp2_with (first | (go_at_call 34; ((with_reducible refine (P1.out _).mono ?_); rintro e wz ⟨rfl, rfl⟩; clear P1)) | (go_at_call 31; (refine (HS1.out _).mono ?_; rintro e wz ⟨rfl, rfl⟩; clear HS1)) | (go_at_call 53; (refine HC1.out.mono ?_; rintro e U0 ⟨rfl, hu0⟩; have HU0 := hide (HI1.out.below hu0 HI1.out.lt); clear HC1; have fu2 := block_free HU0.out.box 2; have xu2 := (block_cell HU0.out.box 2).trans rfl; have HU1 := hide (HU0.out.set hg 2 (.string f1) (f' := f1) (l' := 0) (a' := -1) (o' := false) rfl); obtain ⟨U1, hU1⟩ : ∃ U1, U0.setCell ⟨b, 2, none⟩ (.string f1) = U1 := ⟨_, rfl⟩; rw [hU1] at HU1)) | (go_at_call 47; (refine (HF1.out _).mono ?_; rintro e wz ⟨rfl, rfl⟩; clear HF1)) | (go_at_call 41; (refine (HN1.out _).mono ?_; rintro e U2 ⟨rfl, hu2⟩; have HU2 := hide (HU1.out.below hu2 HU1.out.lt); clear HN1)))
                  all_goals go_ret
                  all_goals exact ⟨by rw [E.out] <;> simp, _, _, _, _, HU2.out.box, HU2.out.but, hfs, .inr E.out⟩
        · have e1' : f1.toList.isEmpty = true := e1
          clear HF1 HN1
          have hk : fileK x = false := by rw [hfk]; simp [e1]
          have E := hide (show plR ws0 = none by rw [← hws0]; simp [plR, pl2, pl3, hP1, hk])
          try (have hcj1 : ¬ c = 1 := by have h9 := hc; (try simp only [List.length_cons, List.length_nil] at h9); omega)
          try (have hcj2 : ¬ c = 2 := by have h9 := hc; (try simp only [List.length_cons, List.length_nil] at h9); omega)
          try (have hcj3 : ¬ c = 3 := by have h9 := hc; (try simp only [List.length_cons, List.length_nil] at h9); omega)
          clear hws0 hsz hI hP1 hk hfk hff hfl e1
          go_enter Tryz.func46, Tryz.ntmps46
          go_wp2_with (first | (go_at_call 34; ((with_reducible refine (P1.out _).mono ?_); rintro e wz ⟨rfl, rfl⟩; clear P1)) | (go_at_call 31; (refine (HS1.out _).mono ?_; rintro e wz ⟨rfl, rfl⟩; clear HS1)) | (go_at_call 53; (refine HC1.out.mono ?_; rintro e U0 ⟨rfl, hu0⟩; have HU0 := hide (HI1.out.below hu0 HI1.out.lt); clear HC1)))
          all_goals go_ret
          all_goals exact ⟨by rw [E.out] <;> simp, _, _, _, _, HU0.out.box, HU0.out.but, Nat.zero_le _, .inr E.out⟩
end Go.Proofs.YtkjpojaanocfjaaGreatDoor
