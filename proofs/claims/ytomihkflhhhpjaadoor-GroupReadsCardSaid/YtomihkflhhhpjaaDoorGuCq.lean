/- The reference's reading of rules: cutQuoted. -/
import Derived.Test.YtomihkflhhhpjaaDoorGuNu
import Derived.Test.YtomihkflhhhpjaaDoorGuRd
import Derived.Test.YtomihkflhhhpjaaDoorRegChain
import Derived.Maps.AppendAt
import Derived.Lib.UnsafeStr
import Derived.BigQuiet
namespace Go.Proofs.YtomihkflhhhpjaaDoor
open Go.RowKit
set_option linter.unusedVariables false
set_option linter.unusedSimpArgs false
def cqE (s : ByteArray) : Option (List UInt8 × List UInt8) → Ending
  | none => .returned (.tuple #[.string ⟨#[]⟩, .string s, .bool false])
  | some x => .returned (.tuple #[.string (bs x.1), .string (bs x.2), .bool true])
set_option maxRecDepth 100000 in
theorem own_text {w : World} {base : Nat} {A : Option Addr} {c : Nat} {out : List UInt8} (h : w.ownsRow base 5 1 (.slice A out.length c) out.length (Lib.byteCells out)) :
    (convert 59 9 (.slice A out.length c)).run Tryd.prog w = .ok (.string ⟨out.toArray⟩) w := by
  have hc := fun g => h.cells (g := g)
  rcases h.2 with ⟨h1, h2⟩ | ⟨g, cap, cur, h1, _⟩
  · obtain rfl : out = [] := List.eq_nil_of_length_eq_zero h2
    cases h1
    show (convert 59 9 (.slice none 0 0)).run Tryd.prog w = _
    rw [run_convert_bytes_string w 59 9 5 none 0 0 Tryd.underlying59 Tryd.underlying5 Tryd.underlying9]
    simp [Conv.bytesToString]
    rfl
  · cases h1
    refine run_convert_bytes_back w 59 9 5 ⟨g, 0, none⟩ c out Tryd.underlying59 Tryd.underlying5 Tryd.underlying9 (fun j hj => ?_)
    have h5 : (Lib.byteCells out)[j]? = some (.int .u8 (out[j].toNat : Int)) := by simp [Lib.byteCells, hj]
    have h6 := hc g rfl _ _ h5
    have e : ((⟨g, 0, none⟩ : Addr).add j) = ⟨g, j, none⟩ := by unfold Addr.add; split <;> simp_all
    rw [e]
    first | exact h6 | (rw [e] at h6; exact h6)
theorem q_stepO {o : Option (List UInt8 × List UInt8)} {l l' out x : List UInt8} (h : o = (qB l).map (qF out)) (hs : qB l = (qB l').map (qF x)) : o = (qB l').map (qF (out ++ x)) := by
  rw [h, hs, Option.map_map]
  congr 1
  funext y
  exact qF_qF out x y
theorem info_u8 : (Tryd.prog.info? 5).map (fun i => (i.zero, i.size, i.bytes)) = some (some (.int .u8 0), 1, 1) := by kernel_rfl
theorem q_nil2 {c : UInt8} (h : c = 92) : qB [c] = none := by rw [h]; exact q_esc0
theorem drop_at9 (s : ByteArray) (i : Nat) (h : i < s.size) : s.data.toList.drop i = s[i] :: s.data.toList.drop (i + 1) := by
  rw [List.drop_eq_getElem_cons (by rw [tsz]; exact h)]
  have := sget9 s i h
  rw [List.getElem?_eq_getElem (by rw [tsz]; exact h)] at this
  rw [Option.some.inj this]
theorem ext_drop (s : ByteArray) (i : Nat) : s.extract i s.size = bs (s.data.toList.drop i) := ba_ext (by rw [extract_toList, bs_list])
set_option maxRecDepth 100000 in
set_option maxHeartbeats 8000000 in
theorem cutQuoted_any (s : ByteArray) (w : World) (hs : s.size ≤ 1000000) :
    Calls Tryd.prog 40 #[.string s] w fun e w' => e = cqE s (rdQ s.data.toList) ∧ Below w.heap.size w w' := by
  have hsl := tsz s
  obtain ⟨o, ho⟩ : ∃ o, rdQ s.data.toList = o := ⟨_, rfl⟩
  rw [ho]
  have HO := hide ho
  clear ho
  by_cases h0 : s.size = 0
  · have e1 : s.toList = [] := by rw [ByteArray.toList_eq]; exact empty_of h0
    have e2 : s.toList.isEmpty = true := by rw [e1]; rfl
    have E := hide (show o = none by rw [← HO.out, empty_of h0]; rfl)
    go_enter Tryd.func40, Tryd.ntmps40
    go_wp2_with (fail)
    refine bodyPost_ret (by simp [results, Tryd.results40, go_sem]; try rfl) rfl ?_
    exact ⟨by rw [E.out]; rfl, Below.refl _ _⟩
  · have hs0 : 0 < s.size := by omega
    have e1 : ¬ s.toList = [] := by rw [ByteArray.toList_eq]; exact ne_nil hs0
    have e2 : s.toList.isEmpty = false := by simpa using e1
    have HC := hide (show s.data.toList = s[0] :: s.data.toList.drop 1 from drop_at9 s 0 hs0)
    by_cases h34 : s[0] = 34
    · have k1 : (s[0].toNat : Int) = 34 := by rw [h34]; rfl
      have EB := hide (show o = qB (s.data.toList.drop 1) by
        rw [← HO.out, rdQ]
        have : cutP [34] s.data.toList = some (s.data.toList.drop 1) := by
          rw [HC.out, h34]
          simp [cutP, Lib.hasPrefix]
        rw [this]; rfl)
      obtain ⟨i0, hi0, iz0, iz1, iz2⟩ := ia_parts info_u8
      clear h34
      go_enter Tryd.func40, Tryd.ntmps40
      go_wp2_with (fail)
      go_loopw [5, 6] (fun vo vi wr => ∃ (out : List UInt8) (A : Option Addr) (c i : Nat), vo = .slice A out.length c ∧ vi = .int .i64 (i : Int) ∧ 1 ≤ i ∧ i ≤ s.size ∧ out.length ≤ i ∧ wr.ownsRow w.heap.size 5 1 (.slice A out.length c) out.length (Lib.byteCells out) ∧ Below w.heap.size w wr ∧ o = (qB (s.data.toList.drop i)).map (qF out)) (fun _ vi _ => s.size - (intOf vi).toNat)
      case atStart => exact ⟨[], none, 0, 1, rfl, rfl, Nat.le_refl _, hs0, Nat.zero_le _, World.ownsRow_nil _ _ _ _, Below.refl _ _, by rw [EB.out]; cases qB (s.data.toList.drop 1) <;> simp [qF]⟩
      case round =>
        obtain ⟨out, A, c, i, rfl, rfl, hi1, his, hol, hown, hb, heq⟩ := hrel
        have HOW := hide hown
        have HB := hide hb
        have HE := hide heq
        have HCV := hide (own_text hown)
        have hz := hb.size
        clear hown hb heq
        by_cases hlt : i < s.size
        · have HD := hide (drop_at9 s i hlt)
          have hlt' : (i : Int) < (s.size : Int) := by omega
          by_cases h34 : s[i] = 34
          · have k2 : (s[i].toNat : Int) = 34 := by rw [h34]; rfl
            have E := hide (show o = some (out, s.data.toList.drop (i + 1)) by rw [HE.out, HD.out, h34, q_end]; simp [qF])
            have hcv := HCV.out
            have hi2 : i + 1 ≤ s.size := hlt
            have HX := hide (ext_drop s (i + 1))
            clear h34
            have hcv2 := own_text HOW.out.drew
            go_wp2_with (fail)
            go_region
            go_wp2_with (fail)
            refine bodyPost_ret (by simp [results, Tryd.results40, go_sem]; try rfl) rfl ?_
            exact ⟨by rw [E.out, HX.out]; rfl, by first | exact HB.out | exact below_drewN HB.out _⟩
          · have k2 : ¬ (s[i].toNat : Int) = 34 := u8_ne (d := 34) h34
            by_cases h92 : s[i] = 92
            · have k3 : (s[i].toNat : Int) = 92 := by rw [h92]; rfl
              by_cases hend : i + 1 = s.size
              · have hend' : (i : Int) + 1 = (s.size : Int) := by omega
                have E := hide (show o = none by rw [HE.out, HD.out, h92, List.drop_eq_nil_of_le (by rw [tsz]; omega), q_esc0]; rfl)
                clear h34 h92
                go_wp2_with (fail)
                refine bodyPost_ret (by simp [results, Tryd.results40, go_sem]; try rfl) rfl ?_
                exact ⟨by rw [E.out]; rfl, HB.out⟩
              · have hl2 : i + 1 < s.size := by omega
                have hend' : ¬ (i : Int) + 1 = (s.size : Int) := by omega
                have hend2 : (((i : Int) + 1) == (s.size : Int)) = false := beq_eq_false_iff_ne.2 hend'
                have hl2' : (i : Int) + 1 < (s.size : Int) := by omega
                have HD2 := hide (drop_at9 s (i + 1) hl2)
                by_cases hd : s[i + 1] = 34
                · have k4 : (s[i + 1].toNat : Int) = 34 := by rw [hd]; rfl
                  have HN := hide (show o = (qB (s.data.toList.drop (i + 1 + 1))).map (qF (out ++ [34])) from q_stepO HE.out (by rw [HD.out, h92, HD2.out, hd]; exact q_esc _ (.inl rfl)))
                  clear h34 h92 hd
                  go_wp2_with (at_builtin; refine wpList_append_own_at _ rfl (.tmp 53) (.tmp 57) 59 rfl w.heap.size 5 i0 (.int .u8 0) 1 1 Tryd.underlying59 hi0 iz0 iz1 iz2 rfl (by decide) (.slice A out.length c) out.length (Lib.byteCells out) rfl (HOW.out.alloc _) ⟨wr.heap.size, 0, none⟩ 1 1 [.int .u8 34] rfl rfl (cell_one_new _ _ _) (by intro u hu; simp at hu; subst hu; rfl) (by unfold maxLen; omega) (by omega) (by simp; omega) ?_; intro v8 w8 hown8 hg8 _ hat8; obtain ⟨A8, c8, rfl⟩ := own_sl hown8; have HO8 := hide hown8; have HB8 := hide ((HB.out.alloc hz _).grown hg8 (by simp; omega) (fun k hk => (HOW.out.lt k hk).1)); clear hown8 hg8 hat8)
                  go_roundw
                  case rel => exact ⟨out ++ [34], A8, c8, i + 1 + 1, by rw [List.length_append]; rfl, by go_num, by omega, by omega, by rw [List.length_append]; simp; omega, by rw [List.length_append, ← byteCells_app]; exact HO8.out, HB8.out, HN.out⟩
                  case measure => simp [intOf]; omega
                · have k4 : ¬ (s[i + 1].toNat : Int) = 34 := u8_ne (d := 34) hd
                  have k4b : ((s[i + 1].toNat : Int) == 34) = false := beq_eq_false_iff_ne.2 k4
                  have k4c : ((s[i + 1].toNat : Int) != 34) = true := by simp [bne, k4b]
                  have hd34 := hide hd
                  by_cases hd2 : s[i + 1] = 92
                  · have k5 : (s[i + 1].toNat : Int) = 92 := by rw [hd2]; rfl
                    have HN := hide (show o = (qB (s.data.toList.drop (i + 1 + 1))).map (qF (out ++ [92])) from q_stepO HE.out (by rw [HD.out, h92, HD2.out, hd2]; exact q_esc _ (.inr rfl)))
                    clear h34 h92 hd hd2 k4 k4b k4c
                    go_wp2_with (at_builtin; refine wpList_append_own_at _ rfl (.tmp 53) (.tmp 57) 59 rfl w.heap.size 5 i0 (.int .u8 0) 1 1 Tryd.underlying59 hi0 iz0 iz1 iz2 rfl (by decide) (.slice A out.length c) out.length (Lib.byteCells out) rfl (HOW.out.alloc _) ⟨wr.heap.size, 0, none⟩ 1 1 [.int .u8 92] rfl rfl (cell_one_new _ _ _) (by intro u hu; simp at hu; subst hu; rfl) (by unfold maxLen; omega) (by omega) (by simp; omega) ?_; intro v8 w8 hown8 hg8 _ hat8; obtain ⟨A8, c8, rfl⟩ := own_sl hown8; have HO8 := hide hown8; have HB8 := hide ((HB.out.alloc hz _).grown hg8 (by simp; omega) (fun k hk => (HOW.out.lt k hk).1)); clear hown8 hg8 hat8)
                    go_roundw
                    case rel => exact ⟨out ++ [92], A8, c8, i + 1 + 1, by rw [List.length_append]; rfl, by go_num, by omega, by omega, by rw [List.length_append]; simp; omega, by rw [List.length_append, ← byteCells_app]; exact HO8.out, HB8.out, HN.out⟩
                    case measure => simp [intOf]; omega
                  · have k5 : ¬ (s[i + 1].toNat : Int) = 92 := u8_ne (d := 92) hd2
                    have k5b : ((s[i + 1].toNat : Int) == 92) = false := beq_eq_false_iff_ne.2 k5
                    have k5c : ((s[i + 1].toNat : Int) != 92) = true := by simp [bne, k5b]
                    have E := hide (show o = none by rw [HE.out, HD.out, h92, HD2.out, q_escB _ hd34.out hd2]; rfl)
                    clear h34 h92 hd hd2
                    go_wp2_with (fail)
                    refine bodyPost_ret (by simp [results, Tryd.results40, go_sem]; try rfl) rfl ?_
                    exact ⟨by rw [E.out]; rfl, HB.out⟩
            · have k3 : ¬ (s[i].toNat : Int) = 92 := u8_ne (d := 92) h92
              have HN := hide (show o = (qB (s.data.toList.drop (i + 1))).map (qF (out ++ [s[i]])) from q_stepO HE.out (by rw [HD.out]; exact q_one _ h34 h92))
              clear h34 h92
              go_wp2_with (at_builtin; refine wpList_append_own_at _ rfl (.tmp 53) (.tmp 57) 59 rfl w.heap.size 5 i0 (.int .u8 0) 1 1 Tryd.underlying59 hi0 iz0 iz1 iz2 rfl (by decide) (.slice A out.length c) out.length (Lib.byteCells out) rfl (HOW.out.alloc _) ⟨wr.heap.size, 0, none⟩ 1 1 [.int .u8 (s[i].toNat : Int)] rfl rfl (cell_one_new _ _ _) (by intro u hu; simp at hu; subst hu; rfl) (by unfold maxLen; omega) (by omega) (by simp; omega) ?_; intro v8 w8 hown8 hg8 _ hat8; obtain ⟨A8, c8, rfl⟩ := own_sl hown8; have HO8 := hide hown8; have HB8 := hide ((HB.out.alloc hz _).grown hg8 (by simp; omega) (fun k hk => (HOW.out.lt k hk).1)); clear hown8 hg8 hat8)
              go_roundw
              case rel => exact ⟨out ++ [s[i]], A8, c8, i + 1, by rw [List.length_append]; rfl, by go_num, by omega, by omega, by rw [List.length_append]; simp; omega, by rw [List.length_append, ← byteCells_app]; exact HO8.out, HB8.out, HN.out⟩
              case measure => simp [intOf]; omega
        · obtain rfl : i = s.size := by omega
          have E := hide (show o = none by rw [HE.out, List.drop_eq_nil_of_le (by rw [tsz]; exact Nat.le_refl _)]; rfl)
          go_wp2_with (fail)
          refine bodyPost_ret (by simp [results, Tryd.results40, go_sem]; try rfl) rfl ?_
          exact ⟨by rw [E.out]; rfl, HB.out⟩
    · have k1 : ¬ (s[0].toNat : Int) = 34 := u8_ne (d := 34) h34
      have k1b : ((s[0].toNat : Int) == 34) = false := beq_eq_false_iff_ne.2 k1
      have k1c : ((s[0].toNat : Int) != 34) = true := by simp [bne, k1b]
      have E := hide (show o = none by
        rw [← HO.out, rdQ]
        have : cutP [34] s.data.toList = none := by
          rw [HC.out]
          simp [cutP, Lib.hasPrefix, Ne.symm h34]
        rw [this]; rfl)
      clear h34
      go_enter Tryd.func40, Tryd.ntmps40
      go_wp2_with (fail)
      refine bodyPost_ret (by simp [results, Tryd.results40, go_sem]; try rfl) rfl ?_
      exact ⟨by rw [E.out]; rfl, Below.refl _ _⟩
end Go.Proofs.YtomihkflhhhpjaaDoor
