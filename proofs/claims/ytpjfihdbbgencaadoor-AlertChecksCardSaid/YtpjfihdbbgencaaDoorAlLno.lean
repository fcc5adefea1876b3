/- Walk of the reference's LinesOf (printed by gen_ai.py). -/
import Derived.Test.YtpjfihdbbgencaaDoorAlLns
import Derived.Test.YtpjfihdbbgencaaDoorStrSl
namespace Go.Proofs.YtpjfihdbbgencaaDoor
open Go.RowKit
set_option linter.unusedVariables false
set_option linter.unusedSimpArgs false
theorem str_sl {w : World} {base n c : Nat} {A : Option Addr} {l : List ByteArray} (hl : l.length = n) (h : w.ownsRow base 9 1 (.slice A n c) n (l.flatMap cs)) : Sl w w.heap.size cs 1 A n l := by
  obtain ⟨A', c', e, hs, _⟩ := sl_of_own (f := cs) (fun _ => rfl) hl h
  simp only [Value.slice.injEq] at e
  obtain ⟨rfl, _, rfl⟩ := e
  exact hs
def oF : Option Sm → Bool | none => false | some s => s.first
def oL : Option Sm → Bool | none => false | some s => s.last
def oV : Option Sm → Int | none => 0 | some s => s.value
/-- What LinesOf has in memory when j notices are done. -/
structure LoI (B : Nat) (A : Option Addr) (n cap : Nat) (no tr nx : Int) (l : List Nt) (w0 : World) (j : Nat) (v : Value) (w : World) : Prop where
  box : w.heap[B]? = some (.cells #[.int .i64 no, .slice A n cap, .int .i64 tr, .int .i64 nx] 28 (0, 0))
  row : w.ownsRow (B + 1) 9 1 v (ruN (l.take j)).length ((ruN (l.take j)).flatMap cs)
  be : Below B w0 w
section
variable {B : Nat} {A : Option Addr} {n cap : Nat} {no tr nx : Int} {l : List Nt} {w0 w w' : World} {j : Nat} {v : Value}
theorem LoI.below (h : LoI B A n cap no tr nx l w0 j v w) (hB : B ≤ w.heap.size) (hb : Below w.heap.size w w') : LoI B A n cap no tr nx l w0 j v w' :=
  ⟨block_below h.box hb, own_below h.row hb, h.be.trans (hb.mono hB)⟩
theorem LoI.same (h : LoI B A n cap no tr nx l w0 j v w) (hn : ruN (l.take (j + 1)) = ruN (l.take j)) : LoI B A n cap no tr nx l w0 (j + 1) v w :=
  ⟨h.box, by rw [hn]; exact h.row, h.be⟩
end
set_option maxRecDepth 100000 in
set_option maxHeartbeats 8000000 in
theorem LinesOf_any (no tr nx : Int) (A : Option Addr) (n cap : Nat) (l : List Nt) (w : World) (hn : n ≤ 3518437208780) (hl : Sl w w.heap.size Nt.cs 4 A n l) (hf : ∀ x ∈ l, x.rule.size ≤ 4611686018427387904 ∧ -9223372036854775808 ≤ x.value ∧ x.value ≤ 9223372036854775807) :
    Calls Tryd.prog 14 #[.agg #[.int .i64 no, .slice A n cap, .int .i64 tr, .int .i64 nx]] w fun e w' => ∃ v, e = .returned v ∧ w'.ownsRow w.heap.size 9 1 v (smL l).length ((smL l).flatMap fun s => [.string (lineB s)]) ∧ Below w.heap.size w w' := by
  obtain ⟨j0, hj0, jz0, jz1, jz2⟩ := info_parts info_strA
  have HL := hide hl.len
  have HSL := hide hl
  have HF := hide hf
  clear hl hf
  go_enter Tryd.func14, Tryd.ntmps14
  go_wp2_with (fail)
  go_loopw [3, 20] (fun lv i wr => ∃ j : Nat, j ≤ n ∧ i = .int .i64 j ∧ LoI w.heap.size A n cap no tr nx l w j lv wr) (fun _ i _ => n - (intOf i).toNat)
  case atStart => exact ⟨0, Nat.zero_le _, rfl, ⟨heap_alloc_new w _, World.ownsRow_nil _ _ _ _, (Below.refl _ _).alloc (Nat.le_refl _) _⟩⟩
  case round =>
    obtain ⟨j, hj, rfl, hI⟩ := hrel
    have hz := hI.be.size
    have hbz := lt_of_block hI.box
    by_cases hlt : j < n
    · obtain ⟨bb, oo, ⟨nt, ru, kd, va⟩, rfl, hbb, hx, hc⟩ := (HSL.out.below hI.be).at_ hlt
      have c0 : wr.cell? ⟨bb, oo + j * 4, none⟩ = some (.int .i64 nt) := by simpa using hc 0 _ rfl
      have c1 : wr.cell? ⟨bb, oo + j * 4 + 1, none⟩ = some (.string ru) := hc 1 _ rfl
      have c2 : wr.cell? ⟨bb, oo + j * 4 + 2, none⟩ = some (.int .i64 kd) := hc 2 _ rfl
      have c3 : wr.cell? ⟨bb, oo + j * 4 + 3, none⟩ = some (.int .i64 va) := hc 3 _ rfl
      have HTK := hide (take_succ_get hx)
      have hkn : (ruN (l.take j)).length ≤ j := Nat.le_trans (ruN_len _) (by rw [List.length_take]; omega)
      have hrow := hI.row
      obtain ⟨ao, oc, hlv⟩ := own_sl hrow
      subst hlv
      have HN := hide (heap_alloc_new wr (.cells #[.int .i64 nt, .string ru, .int .i64 kd, .int .i64 va] 47))
      have HI := hide (hI.below (by omega) ((Below.refl wr.heap.size wr).alloc (Nat.le_refl _) (.cells #[.int .i64 nt, .string ru, .int .i64 kd, .int .i64 va] 47)))
      have HC := hide (Contains_str ao _ oc _ ru (wr.alloc (.cells #[.int .i64 nt, .string ru, .int .i64 kd, .int .i64 va] 47)) (by unfold maxLen; omega) (str_sl rfl HI.out.row))
      clear hI hc hx hrow
      by_cases hmem : ru ∈ ruN (l.take j)
      · have hnn : ruN (l.take (j + 1)) = ruN (l.take j) := by rw [HTK.out, ruN_snoc, nmStep, if_pos ((hasR_iff _ _).2 hmem)]
        rw [show Go.Lib.containsS (ruN (l.take j)) ru = true from (Go.Lib.containsS_iff _ _).2 hmem] at HC
        have HNN := hide hnn
        clear hnn hmem
        go_wp2_with (go_at_call 32; refine HC.out.mono ?_; rintro e w' ⟨rfl, rfl⟩)
        go_roundw
        case rel => exact ⟨j + 1, by omega, by go_num, HI.out.same HNN.out⟩
        case measure => simp [intOf]; omega
      · have hnn : ruN (l.take (j + 1)) = ruN (l.take j) ++ [ru] := by rw [HTK.out, ruN_snoc, nmStep, if_neg (fun h => hmem ((hasR_iff _ _).1 h))]
        rw [show Go.Lib.containsS (ruN (l.take j)) ru = false from by rw [Bool.eq_false_iff]; exact fun h => hmem ((Go.Lib.containsS_iff _ _).1 h)] at HC
        obtain ⟨k, hk⟩ : ∃ k, (ruN (l.take j)).length = k := ⟨_, rfl⟩
        have HNN := hide hnn
        have hrow := HI.out.row
        rw [hk] at hrow HC hkn ⊢
        have HRW := hide hrow
        have HBX := hide HI.out.box
        have HBE := hide HI.out.be
        have HK := hide hk
        clear hnn hmem HI hrow hk
        go_wp2_with (first | (go_at_call 32; refine HC.out.mono ?_; rintro e w' ⟨rfl, rfl⟩; have e1 : (wr.alloc (.cells #[.int .i64 nt, .string ru, .int .i64 kd, .int .i64 va] 47)).cell? ⟨wr.heap.size, 1, none⟩ = some (.string ru) := block_cell HN.out 1) | (at_builtin; go_loud (refine wpList_append_own _ rfl (.tmp 29) (.tmp 32) 34 rfl (w.heap.size + 1) 9 j0 (.string ByteArray.empty) 1 16 Tryd.underlying34 hj0 jz0 jz1 jz2 rfl (by decide) _ k _ rfl (HRW.out.alloc _) ⟨wr.heap.size + 1, 0, none⟩ 1 1 [.string ru] (by rfl) rfl (cells_at (wr.alloc (.cells #[.int .i64 nt, .string ru, .int .i64 kd, .int .i64 va] 47)) [.string ru] _ _ (by simp)) (by intro u hu; simp at hu; subst hu; rfl) (by unfold maxLen; omega) (by omega) (by simp; omega) ?_; intro v3 w3 hown3 hg3 _; have HO3 := hide hown3; have hab := (Below.refl (wr.alloc (.cells #[.int .i64 nt, .string ru, .int .i64 kd, .int .i64 va] 47)).heap.size (wr.alloc (.cells #[.int .i64 nt, .string ru, .int .i64 kd, .int .i64 va] 47))).alloc (Nat.le_refl _) (.cells #[.string ru] 9); have HB3 := hide ((hg3.block w.heap.size (lt_of_block (block_below HBX.out hab)) (fun e => own_other' (HRW.out.alloc _) (block_below HBX.out hab) (by decide) e.symm)).trans (block_below HBX.out hab)); have HE3 := hide ((HBE.out.trans (hab.mono HBE.out.size)).grown hg3 (by simp; omega) (fun k hk => by have := ((HRW.out.alloc (.cells #[.string ru] 9)).lt _ hk).1; omega)); clear hown3 hg3 hab)))
        go_roundw
        case rel => exact ⟨j + 1, by omega, by go_num, HB3.out, by rw [HNN.out]; simpa [HK.out, cs] using HO3.out, HE3.out⟩
        case measure => simp [intOf]; omega
    · obtain rfl : j = n := by omega
      have e1 : l.take j = l := take_len l (by rw [HL.out]; exact Nat.le_refl _)
      have hrow := hI.row
      have hbx := hI.box
      have hbe := hI.be
      have hkn : (ruN l).length ≤ j := Nat.le_trans (ruN_len _) (by rw [HL.out]; exact Nat.le_refl _)
      have hlr : (smL l).length = (ruN l).length := by unfold smL; rw [List.length_map]
      rw [e1] at hrow
      obtain ⟨k, hk⟩ : ∃ k, (ruN l).length = k := ⟨_, rfl⟩
      rw [hk] at hrow hkn hlr
      obtain ⟨ao, oc, hlv⟩ := own_sl hrow
      subst hlv
      have HRW := hide hrow
      have HBE := hide hbe
      have HBX := hide hbx
      have HK := hide hk
      clear hI hrow hbe hbx e1 hk
      obtain ⟨wo, rfl⟩ : ∃ wo : World, wo = wr := ⟨_, rfl⟩
      have HFT := hide (smL_fit HF.out)
      go_wp2_with (fail)
      go_loopw [6, 37] (fun ov i wr => ∃ q : Nat, q ≤ k ∧ i = .int .i64 q ∧ wr.ownsRow wo.heap.size 9 1 ov q (((smL l).take q).flatMap fun s => [.string (lineB s)]) ∧ Below wo.heap.size wo wr) (fun _ i _ => k - (intOf i).toNat)
      case atStart => exact ⟨0, Nat.zero_le _, rfl, World.ownsRow_nil _ _ _ _, Below.refl _ _⟩
      case round =>
        obtain ⟨q, hq, rfl, hown, hB⟩ := hrel
        have hz2 := hB.size
        by_cases hqk : q < k
        · obtain ⟨r, hr⟩ : ∃ r, (ruN l)[q]? = some r := ⟨_, List.getElem?_eq_getElem (by rw [HK.out]; omega)⟩
          obtain ⟨s, hs⟩ := smO_some r l (List.mem_of_getElem? hr)
          have hsr := smO_rule r l s hs
          have hsq : (smL l)[q]? = some s := by unfold smL; rw [List.getElem?_map, hr]; simp only [Option.map_some]; rw [smOf, hs]; rfl
          obtain ⟨g1, q1, cur1, hv, hb1, hblk1, _⟩ := own_blk HRW.out (by omega)
          simp only [Value.slice.injEq, true_and] at hv
          obtain ⟨rfl, rfl⟩ := hv
          have hrw2 := own_below HRW.out hB
          have c0 : wr.cell? ⟨g1, q, none⟩ = some (.string r) := own_cell hrw2 q _ (by
            have := fm_get (f := cs) (sz := 1) (fun _ => rfl) (ruN l) q 0 (by omega)
            rw [Nat.mul_one, Nat.add_zero] at this
            rw [this, hr]; rfl)
          obtain ⟨ov', oc', hov⟩ := own_sl hown
          subst hov
          have hfs := HFT.out s (List.mem_of_getElem? hsq)
          have HOW := hide hown
          have HB1 := hide hB
          have HSQ := hide hsq
          have HTK := hide (take_succ_get hsq)
          have HS := hide hs
          have bx1 : wr.cell? ⟨w.heap.size, 1, none⟩ = some (.slice A j cap) := block_cell (block_below HBX.out hB) 1
          clear hown hB hs hrw2 hr hsq
          obtain ⟨wq, rfl⟩ : ∃ wq : World, wq = wr := ⟨_, rfl⟩
          go_wp2_with (fail)
          go_loopw [9, 10, 11, 12, 44] (fun f la mo so i wr => ∃ j1 : Nat, j1 ≤ j ∧ i = .int .i64 j1 ∧ f = .bool (oF (smO r (l.take j1))) ∧ la = .bool (oL (smO r (l.take j1))) ∧ mo = .int .i64 (oV (smO r (l.take j1))) ∧ so = .bool (smO r (l.take j1)).isSome ∧ Below wq.heap.size wq wr) (fun _ _ _ _ i _ => j - (intOf i).toNat)
          case atStart => exact ⟨0, Nat.zero_le _, rfl, rfl, rfl, rfl, rfl, Below.refl _ _⟩
          case round =>
            obtain ⟨j1, hj1, rfl, rfl, rfl, rfl, rfl, hB2⟩ := hrel
            have hz3 := hB2.size
            by_cases hlt1 : j1 < j
            · obtain ⟨bb, oo, ⟨nt, ru, kd, va⟩, rfl, hbb, hx, hc⟩ := (HSL.out.below ((HBE.out.trans (HB1.out.mono HBE.out.size)).trans (hB2.mono (by have := HBE.out.size; omega)))).at_ hlt1
              have c0 : wr.cell? ⟨bb, oo + j1 * 4, none⟩ = some (.int .i64 nt) := by simpa using hc 0 _ rfl
              have c1 : wr.cell? ⟨bb, oo + j1 * 4 + 1, none⟩ = some (.string ru) := hc 1 _ rfl
              have c2 : wr.cell? ⟨bb, oo + j1 * 4 + 2, none⟩ = some (.int .i64 kd) := hc 2 _ rfl
              have c3 : wr.cell? ⟨bb, oo + j1 * 4 + 3, none⟩ = some (.int .i64 va) := hc 3 _ rfl
              have HSN := hide (smO_snoc r (l.take j1) ⟨nt, ru, kd, va⟩)
              have HTK1 := hide (take_succ_get hx)
              have HB3 := hide (hB2.alloc hB2.size (.cells #[.int .i64 nt, .string ru, .int .i64 kd, .int .i64 va] 47))
              have HN := hide (heap_alloc_new wr (.cells #[.int .i64 nt, .string ru, .int .i64 kd, .int .i64 va] 47))
              have n1 : (wr.alloc (.cells #[.int .i64 nt, .string ru, .int .i64 kd, .int .i64 va] 47)).cell? ⟨wr.heap.size, 1, none⟩ = some (.string ru) := block_cell HN.out 1
              have n2 : (wr.alloc (.cells #[.int .i64 nt, .string ru, .int .i64 kd, .int .i64 va] 47)).cell? ⟨wr.heap.size, 2, none⟩ = some (.int .i64 kd) := block_cell HN.out 2
              have n3 : (wr.alloc (.cells #[.int .i64 nt, .string ru, .int .i64 kd, .int .i64 va] 47)).cell? ⟨wr.heap.size, 3, none⟩ = some (.int .i64 va) := block_cell HN.out 3
              have n4 : (wr.alloc (.cells #[.int .i64 nt, .string ru, .int .i64 kd, .int .i64 va] 47)).drew.cell? ⟨wr.heap.size, 3, none⟩ = some (.int .i64 va) := block_cell HN.out 3
              have n5 : (wr.alloc (.cells #[.int .i64 nt, .string ru, .int .i64 kd, .int .i64 va] 47)).drew.drew.cell? ⟨wr.heap.size, 3, none⟩ = some (.int .i64 va) := block_cell HN.out 3
              clear hc hx hB2
              by_cases hru : ru = r
              · subst hru
                have HSN1 := hide (HSN.out.trans (if_pos rfl))
                obtain ⟨b, hkb⟩ : ∃ b, (kd == 1) = b := ⟨_, rfl⟩
                have HBG := hide (show began ⟨nt, ru, kd, va⟩ = b by rw [← hkb]; unfold began; cases h : (kd == 1) <;> simp_all)
                obtain ⟨so, hso⟩ : ∃ so, smO ru (l.take j1) = so := ⟨_, rfl⟩
                have HSN2 := hide (show smO ru (l.take (j1 + 1)) = smAcc so ⟨nt, ru, kd, va⟩ by rw [HTK1.out, HSN1.out, hso])
                rw [hso]
                clear hso HSN HSN1
                cases so with
                | none =>
                  have HSN3 := hide (show smO ru (l.take (j1 + 1)) = some ⟨ru, b, b, va⟩ by rw [HSN2.out]; unfold smAcc; rw [HBG.out])
                  clear HSN2
                  simp only [oF, oL, oV, Option.isSome]
                  go_wp2_with (first | go_quiet (fail) | go_region)
                  go_roundw
                  case rel => exact ⟨j1 + 1, by omega, by go_num, by rw [HSN3.out], by rw [HSN3.out], by rw [HSN3.out]; try simp [oV], by rw [HSN3.out], by first | exact HB3.out.drew | exact HB3.out.drew.drew | exact below_drewN HB3.out _⟩
                  case measure => simp [intOf]; omega
                | some s0 =>
                  have HSN3 := hide (show smO ru (l.take (j1 + 1)) = some ⟨s0.rule, s0.first, b, max s0.value va⟩ by rw [HSN2.out]; unfold smAcc; rw [HBG.out])
                  clear HSN2
                  simp only [oF, oL, oV, Option.isSome]
                  go_wp2_with (first | go_quiet (fail) | go_region)
                  go_roundw
                  case rel => exact ⟨j1 + 1, by omega, by go_num, by rw [HSN3.out], by rw [HSN3.out], by rw [HSN3.out], by rw [HSN3.out], by first | exact HB3.out.drew | exact HB3.out.drew.drew | exact below_drewN HB3.out _⟩
                  case measure => simp [intOf]; omega
              · have HSN1 := hide (HSN.out.trans (if_neg hru))
                obtain ⟨hru3, hru2⟩ := str_ne hru
                go_wp2_with (fail)
                go_roundw
                case rel => exact ⟨j1 + 1, by omega, by go_num, by rw [HTK1.out, HSN1.out], by rw [HTK1.out, HSN1.out], by rw [HTK1.out, HSN1.out], by rw [HTK1.out, HSN1.out], HB3.out⟩
                case measure => simp [intOf]; omega
            · obtain rfl : j1 = j := by omega
              have e3 : l.take j1 = l := take_len l (by rw [HL.out]; exact Nat.le_refl _)
              rw [e3, HS.out]
              simp only [oF, oL, oV, Option.isSome]
              obtain ⟨ru, f, la, va⟩ := s
              simp only at hsr hfs
              subst hsr
              obtain ⟨hrs, hv0, hv1⟩ := hfs
              have HT := hide (Told_all va wr hv0 hv1)
              have hlen := toldZ_len va hv0 hv1
              obtain ⟨tz, htz⟩ : ∃ tz : ByteArray, ⟨(toldZ va).toArray⟩ = tz := ⟨_, rfl⟩
              have htl : tz.size ≤ 65 := by rw [← htz]; simpa [ByteArray.size] using hlen
              have HE := hide (show tz.data.toList = toldZ va by rw [← htz])
              rw [htz] at HT
              have HB2 := hide hB2
              have HOW2 := hide (own_below HOW.out hB2)
              have hs2 : (⟨#[32, 40]⟩ : ByteArray).size = 2 := rfl
              have hs3 : (⟨#[41]⟩ : ByteArray).size = 1 := rfl
              clear e3 hB2 htz hlen HS HSL HF HFT
              cases f
              · cases la
                · have hs1 : (⟨#[32, 111, 118, 101, 114]⟩ : ByteArray).size = 5 := rfl
                  have hq1 : (ru ++ (⟨#[32, 111, 118, 101, 114]⟩ : ByteArray)).size = ru.size + 5 := by rw [ByteArray.size_append, hs1]
                  have nb1 : ¬ 9223372036854775807 < ru.size + 5 := by omega
                  have nb2 : ¬ 9223372036854775807 < ru.size + 5 + 2 := by omega
                  have nb3 : ¬ 9223372036854775807 < ru.size + 7 := by omega
                  have nb4 : ¬ 9223372036854775807 < ru.size + 5 + 2 + tz.size := by omega
                  have nb5 : ¬ 9223372036854775807 < ru.size + 7 + tz.size := by omega
                  have nb6 : ¬ 9223372036854775807 < ru.size + 5 + 2 + tz.size + 1 := by omega
                  have hq2 : (ru ++ (⟨#[32, 111, 118, 101, 114]⟩ : ByteArray) ++ (⟨#[32, 40]⟩ : ByteArray)).size = ru.size + 7 := by rw [ByteArray.size_append, hq1, hs2]
                  have hq3 : (ru ++ (⟨#[32, 111, 118, 101, 114]⟩ : ByteArray) ++ (⟨#[32, 40]⟩ : ByteArray) ++ tz).size ≤ ru.size + 72 := by rw [ByteArray.size_append, hq2]; omega
                  have HX := hide (show (ru ++ (⟨#[32, 111, 118, 101, 114]⟩ : ByteArray) ++ (⟨#[32, 40]⟩ : ByteArray) ++ tz ++ (⟨#[41]⟩ : ByteArray)) = lineB ⟨ru, false, false, va⟩ by refine bytes_eq ?_; simp only [app_toList, HE.out, lineB]; simp [wordsL])
                  go_wp2_with (first | (go_at_call 33; refine HT.out.mono ?_; rintro e w2 ⟨rfl, hw2⟩; have hz4 := hw2.size) | (at_builtin; go_loud (refine wpList_append_own _ rfl (.tmp 75) (.tmp 84) 34 rfl (wo.heap.size) 9 j0 (.string ByteArray.empty) 1 16 Tryd.underlying34 hj0 jz0 jz1 jz2 rfl (by decide) _ q _ rfl ((own_below HOW2.out hw2).alloc _) ⟨w2.heap.size, 0, none⟩ 1 1 [.string (ru ++ (⟨#[32, 111, 118, 101, 114]⟩ : ByteArray) ++ (⟨#[32, 40]⟩ : ByteArray) ++ tz ++ (⟨#[41]⟩ : ByteArray))] (by rfl) rfl (cells_at w2 [.string (ru ++ (⟨#[32, 111, 118, 101, 114]⟩ : ByteArray) ++ (⟨#[32, 40]⟩ : ByteArray) ++ tz ++ (⟨#[41]⟩ : ByteArray))] _ _ (by simp)) (by intro u hu; simp at hu; subst hu; rfl) (by unfold maxLen; omega) (by omega) (by simp; omega) ?_; intro v3 w3 hown3 hg3 _; have HO3 := hide hown3; have hab := ((HB1.out.trans (HB2.out.mono hz2)).trans (hw2.mono (by omega))).alloc (by omega) (.cells #[.string (ru ++ (⟨#[32, 111, 118, 101, 114]⟩ : ByteArray) ++ (⟨#[32, 40]⟩ : ByteArray) ++ tz ++ (⟨#[41]⟩ : ByteArray))] 9); have HE3 := hide (hab.grown hg3 (by simp; omega) (fun k hk => by have := (((own_below HOW2.out hw2).alloc (.cells #[.string (ru ++ (⟨#[32, 111, 118, 101, 114]⟩ : ByteArray) ++ (⟨#[32, 40]⟩ : ByteArray) ++ tz ++ (⟨#[41]⟩ : ByteArray))] 9)).lt _ hk).1; omega)); clear hown3 hg3 hab)))
                  go_roundw
                  case rel => exact ⟨q + 1, by omega, by go_num, by rw [HTK.out, List.flatMap_append, List.flatMap_cons, List.flatMap_nil, ← HX.out]; simpa using HO3.out, HE3.out⟩
                  case measure => simp [intOf]; omega
                · have hs1 : (⟨#[32, 105, 115, 32, 111, 118, 101, 114, 32, 97, 110, 100, 32, 98, 101, 103, 97, 110, 32, 97, 103, 97, 105, 110]⟩ : ByteArray).size = 24 := rfl
                  have hq1 : (ru ++ (⟨#[32, 105, 115, 32, 111, 118, 101, 114, 32, 97, 110, 100, 32, 98, 101, 103, 97, 110, 32, 97, 103, 97, 105, 110]⟩ : ByteArray)).size = ru.size + 24 := by rw [ByteArray.size_append, hs1]
                  have nb1 : ¬ 9223372036854775807 < ru.size + 24 := by omega
                  have nb2 : ¬ 9223372036854775807 < ru.size + 24 + 2 := by omega
                  have nb3 : ¬ 9223372036854775807 < ru.size + 26 := by omega
                  have nb4 : ¬ 9223372036854775807 < ru.size + 24 + 2 + tz.size := by omega
                  have nb5 : ¬ 9223372036854775807 < ru.size + 26 + tz.size := by omega
                  have nb6 : ¬ 9223372036854775807 < ru.size + 24 + 2 + tz.size + 1 := by omega
                  have hq2 : (ru ++ (⟨#[32, 105, 115, 32, 111, 118, 101, 114, 32, 97, 110, 100, 32, 98, 101, 103, 97, 110, 32, 97, 103, 97, 105, 110]⟩ : ByteArray) ++ (⟨#[32, 40]⟩ : ByteArray)).size = ru.size + 26 := by rw [ByteArray.size_append, hq1, hs2]
                  have hq3 : (ru ++ (⟨#[32, 105, 115, 32, 111, 118, 101, 114, 32, 97, 110, 100, 32, 98, 101, 103, 97, 110, 32, 97, 103, 97, 105, 110]⟩ : ByteArray) ++ (⟨#[32, 40]⟩ : ByteArray) ++ tz).size ≤ ru.size + 91 := by rw [ByteArray.size_append, hq2]; omega
                  have HX := hide (show (ru ++ (⟨#[32, 105, 115, 32, 111, 118, 101, 114, 32, 97, 110, 100, 32, 98, 101, 103, 97, 110, 32, 97, 103, 97, 105, 110]⟩ : ByteArray) ++ (⟨#[32, 40]⟩ : ByteArray) ++ tz ++ (⟨#[41]⟩ : ByteArray)) = lineB ⟨ru, false, true, va⟩ by refine bytes_eq ?_; simp only [app_toList, HE.out, lineB]; simp [wordsL])
                  go_wp2_with (first | (go_at_call 33; refine HT.out.mono ?_; rintro e w2 ⟨rfl, hw2⟩; have hz4 := hw2.size) | (at_builtin; go_loud (refine wpList_append_own _ rfl (.tmp 75) (.tmp 84) 34 rfl (wo.heap.size) 9 j0 (.string ByteArray.empty) 1 16 Tryd.underlying34 hj0 jz0 jz1 jz2 rfl (by decide) _ q _ rfl ((own_below HOW2.out hw2).alloc _) ⟨w2.heap.size, 0, none⟩ 1 1 [.string (ru ++ (⟨#[32, 105, 115, 32, 111, 118, 101, 114, 32, 97, 110, 100, 32, 98, 101, 103, 97, 110, 32, 97, 103, 97, 105, 110]⟩ : ByteArray) ++ (⟨#[32, 40]⟩ : ByteArray) ++ tz ++ (⟨#[41]⟩ : ByteArray))] (by rfl) rfl (cells_at w2 [.string (ru ++ (⟨#[32, 105, 115, 32, 111, 118, 101, 114, 32, 97, 110, 100, 32, 98, 101, 103, 97, 110, 32, 97, 103, 97, 105, 110]⟩ : ByteArray) ++ (⟨#[32, 40]⟩ : ByteArray) ++ tz ++ (⟨#[41]⟩ : ByteArray))] _ _ (by simp)) (by intro u hu; simp at hu; subst hu; rfl) (by unfold maxLen; omega) (by omega) (by simp; omega) ?_; intro v3 w3 hown3 hg3 _; have HO3 := hide hown3; have hab := ((HB1.out.trans (HB2.out.mono hz2)).trans (hw2.mono (by omega))).alloc (by omega) (.cells #[.string (ru ++ (⟨#[32, 105, 115, 32, 111, 118, 101, 114, 32, 97, 110, 100, 32, 98, 101, 103, 97, 110, 32, 97, 103, 97, 105, 110]⟩ : ByteArray) ++ (⟨#[32, 40]⟩ : ByteArray) ++ tz ++ (⟨#[41]⟩ : ByteArray))] 9); have HE3 := hide (hab.grown hg3 (by simp; omega) (fun k hk => by have := (((own_below HOW2.out hw2).alloc (.cells #[.string (ru ++ (⟨#[32, 105, 115, 32, 111, 118, 101, 114, 32, 97, 110, 100, 32, 98, 101, 103, 97, 110, 32, 97, 103, 97, 105, 110]⟩ : ByteArray) ++ (⟨#[32, 40]⟩ : ByteArray) ++ tz ++ (⟨#[41]⟩ : ByteArray))] 9)).lt _ hk).1; omega)); clear hown3 hg3 hab)))
                  go_roundw
                  case rel => exact ⟨q + 1, by omega, by go_num, by rw [HTK.out, List.flatMap_append, List.flatMap_cons, List.flatMap_nil, ← HX.out]; simpa using HO3.out, HE3.out⟩
                  case measure => simp [intOf]; omega
              · cases la
                · have hs1 : (⟨#[32, 98, 101, 103, 97, 110, 32, 97, 110, 100, 32, 105, 115, 32, 111, 118, 101, 114]⟩ : ByteArray).size = 18 := rfl
                  have hq1 : (ru ++ (⟨#[32, 98, 101, 103, 97, 110, 32, 97, 110, 100, 32, 105, 115, 32, 111, 118, 101, 114]⟩ : ByteArray)).size = ru.size + 18 := by rw [ByteArray.size_append, hs1]
                  have nb1 : ¬ 9223372036854775807 < ru.size + 18 := by omega
                  have nb2 : ¬ 9223372036854775807 < ru.size + 18 + 2 := by omega
                  have nb3 : ¬ 9223372036854775807 < ru.size + 20 := by omega
                  have nb4 : ¬ 9223372036854775807 < ru.size + 18 + 2 + tz.size := by omega
                  have nb5 : ¬ 9223372036854775807 < ru.size + 20 + tz.size := by omega
                  have nb6 : ¬ 9223372036854775807 < ru.size + 18 + 2 + tz.size + 1 := by omega
                  have hq2 : (ru ++ (⟨#[32, 98, 101, 103, 97, 110, 32, 97, 110, 100, 32, 105, 115, 32, 111, 118, 101, 114]⟩ : ByteArray) ++ (⟨#[32, 40]⟩ : ByteArray)).size = ru.size + 20 := by rw [ByteArray.size_append, hq1, hs2]
                  have hq3 : (ru ++ (⟨#[32, 98, 101, 103, 97, 110, 32, 97, 110, 100, 32, 105, 115, 32, 111, 118, 101, 114]⟩ : ByteArray) ++ (⟨#[32, 40]⟩ : ByteArray) ++ tz).size ≤ ru.size + 85 := by rw [ByteArray.size_append, hq2]; omega
                  have HX := hide (show (ru ++ (⟨#[32, 98, 101, 103, 97, 110, 32, 97, 110, 100, 32, 105, 115, 32, 111, 118, 101, 114]⟩ : ByteArray) ++ (⟨#[32, 40]⟩ : ByteArray) ++ tz ++ (⟨#[41]⟩ : ByteArray)) = lineB ⟨ru, true, false, va⟩ by refine bytes_eq ?_; simp only [app_toList, HE.out, lineB]; simp [wordsL])
                  go_wp2_with (first | (go_at_call 33; refine HT.out.mono ?_; rintro e w2 ⟨rfl, hw2⟩; have hz4 := hw2.size) | (at_builtin; go_loud (refine wpList_append_own _ rfl (.tmp 75) (.tmp 84) 34 rfl (wo.heap.size) 9 j0 (.string ByteArray.empty) 1 16 Tryd.underlying34 hj0 jz0 jz1 jz2 rfl (by decide) _ q _ rfl ((own_below HOW2.out hw2).alloc _) ⟨w2.heap.size, 0, none⟩ 1 1 [.string (ru ++ (⟨#[32, 98, 101, 103, 97, 110, 32, 97, 110, 100, 32, 105, 115, 32, 111, 118, 101, 114]⟩ : ByteArray) ++ (⟨#[32, 40]⟩ : ByteArray) ++ tz ++ (⟨#[41]⟩ : ByteArray))] (by rfl) rfl (cells_at w2 [.string (ru ++ (⟨#[32, 98, 101, 103, 97, 110, 32, 97, 110, 100, 32, 105, 115, 32, 111, 118, 101, 114]⟩ : ByteArray) ++ (⟨#[32, 40]⟩ : ByteArray) ++ tz ++ (⟨#[41]⟩ : ByteArray))] _ _ (by simp)) (by intro u hu; simp at hu; subst hu; rfl) (by unfold maxLen; omega) (by omega) (by simp; omega) ?_; intro v3 w3 hown3 hg3 _; have HO3 := hide hown3; have hab := ((HB1.out.trans (HB2.out.mono hz2)).trans (hw2.mono (by omega))).alloc (by omega) (.cells #[.string (ru ++ (⟨#[32, 98, 101, 103, 97, 110, 32, 97, 110, 100, 32, 105, 115, 32, 111, 118, 101, 114]⟩ : ByteArray) ++ (⟨#[32, 40]⟩ : ByteArray) ++ tz ++ (⟨#[41]⟩ : ByteArray))] 9); have HE3 := hide (hab.grown hg3 (by simp; omega) (fun k hk => by have := (((own_below HOW2.out hw2).alloc (.cells #[.string (ru ++ (⟨#[32, 98, 101, 103, 97, 110, 32, 97, 110, 100, 32, 105, 115, 32, 111, 118, 101, 114]⟩ : ByteArray) ++ (⟨#[32, 40]⟩ : ByteArray) ++ tz ++ (⟨#[41]⟩ : ByteArray))] 9)).lt _ hk).1; omega)); clear hown3 hg3 hab)))
                  go_roundw
                  case rel => exact ⟨q + 1, by omega, by go_num, by rw [HTK.out, List.flatMap_append, List.flatMap_cons, List.flatMap_nil, ← HX.out]; simpa using HO3.out, HE3.out⟩
                  case measure => simp [intOf]; omega
                · have hs1 : (⟨#[32, 98, 101, 103, 97, 110]⟩ : ByteArray).size = 6 := rfl
                  have hq1 : (ru ++ (⟨#[32, 98, 101, 103, 97, 110]⟩ : ByteArray)).size = ru.size + 6 := by rw [ByteArray.size_append, hs1]
                  have nb1 : ¬ 9223372036854775807 < ru.size + 6 := by omega
                  have nb2 : ¬ 9223372036854775807 < ru.size + 6 + 2 := by omega
                  have nb3 : ¬ 9223372036854775807 < ru.size + 8 := by omega
                  have nb4 : ¬ 9223372036854775807 < ru.size + 6 + 2 + tz.size := by omega
                  have nb5 : ¬ 9223372036854775807 < ru.size + 8 + tz.size := by omega
                  have nb6 : ¬ 9223372036854775807 < ru.size + 6 + 2 + tz.size + 1 := by omega
                  have hq2 : (ru ++ (⟨#[32, 98, 101, 103, 97, 110]⟩ : ByteArray) ++ (⟨#[32, 40]⟩ : ByteArray)).size = ru.size + 8 := by rw [ByteArray.size_append, hq1, hs2]
                  have hq3 : (ru ++ (⟨#[32, 98, 101, 103, 97, 110]⟩ : ByteArray) ++ (⟨#[32, 40]⟩ : ByteArray) ++ tz).size ≤ ru.size + 73 := by rw [ByteArray.size_append, hq2]; omega
                  have HX := hide (show (ru ++ (⟨#[32, 98, 101, 103, 97, 110]⟩ : ByteArray) ++ (⟨#[32, 40]⟩ : ByteArray) ++ tz ++ (⟨#[41]⟩ : ByteArray)) = lineB ⟨ru, true, true, va⟩ by refine bytes_eq ?_; simp only [app_toList, HE.out, lineB]; simp [wordsL])
                  go_wp2_with (first | (go_at_call 33; refine HT.out.mono ?_; rintro e w2 ⟨rfl, hw2⟩; have hz4 := hw2.size) | (at_builtin; go_loud (refine wpList_append_own _ rfl (.tmp 75) (.tmp 84) 34 rfl (wo.heap.size) 9 j0 (.string ByteArray.empty) 1 16 Tryd.underlying34 hj0 jz0 jz1 jz2 rfl (by decide) _ q _ rfl ((own_below HOW2.out hw2).alloc _) ⟨w2.heap.size, 0, none⟩ 1 1 [.string (ru ++ (⟨#[32, 98, 101, 103, 97, 110]⟩ : ByteArray) ++ (⟨#[32, 40]⟩ : ByteArray) ++ tz ++ (⟨#[41]⟩ : ByteArray))] (by rfl) rfl (cells_at w2 [.string (ru ++ (⟨#[32, 98, 101, 103, 97, 110]⟩ : ByteArray) ++ (⟨#[32, 40]⟩ : ByteArray) ++ tz ++ (⟨#[41]⟩ : ByteArray))] _ _ (by simp)) (by intro u hu; simp at hu; subst hu; rfl) (by unfold maxLen; omega) (by omega) (by simp; omega) ?_; intro v3 w3 hown3 hg3 _; have HO3 := hide hown3; have hab := ((HB1.out.trans (HB2.out.mono hz2)).trans (hw2.mono (by omega))).alloc (by omega) (.cells #[.string (ru ++ (⟨#[32, 98, 101, 103, 97, 110]⟩ : ByteArray) ++ (⟨#[32, 40]⟩ : ByteArray) ++ tz ++ (⟨#[41]⟩ : ByteArray))] 9); have HE3 := hide (hab.grown hg3 (by simp; omega) (fun k hk => by have := (((own_below HOW2.out hw2).alloc (.cells #[.string (ru ++ (⟨#[32, 98, 101, 103, 97, 110]⟩ : ByteArray) ++ (⟨#[32, 40]⟩ : ByteArray) ++ tz ++ (⟨#[41]⟩ : ByteArray))] 9)).lt _ hk).1; omega)); clear hown3 hg3 hab)))
                  go_roundw
                  case rel => exact ⟨q + 1, by omega, by go_num, by rw [HTK.out, List.flatMap_append, List.flatMap_cons, List.flatMap_nil, ← HX.out]; simpa using HO3.out, HE3.out⟩
                  case measure => simp [intOf]; omega
        · obtain rfl : q = k := by omega
          have e2 : (smL l).take q = smL l := take_len _ (by omega)
          rw [e2] at hown
          go_wp2_with (fail)
          go_ret
          exact ⟨_, rfl, by rw [hlr]; exact World.ownsRow.mono hown (by have := HBE.out.size; omega), HBE.out.trans (hB.mono HBE.out.size)⟩
end Go.Proofs.YtpjfihdbbgencaaDoor
