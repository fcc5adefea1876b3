/- A box of posts: notices looked at. -/
import Derived.Test.YtnkccilgbhogbaaDoorBxH
namespace Go.Proofs.YtnkccilgbhogbaaDoor
open Go.RowKit Go.Maps
open Bk (ptE ptV MapK Got ptE_mk wpList_lookup_some wpList_lookup_none)
set_option linter.unusedVariables false
set_option linter.unusedSimpArgs false
theorem lastA_take {put : Int} {l : List Nt} {j : Nat} {x : Nt} (h : l[j]? = some x) : lastA put (l.take (j + 1)) = x.at_ := by
  rw [List.take_add_one, h]
  unfold lastA
  rw [List.foldl_append]
  rfl
theorem ntsE_drop {last : Int} {l : List Nt} {j : Nat} {x : Nt} (h : l[j]? = some x) : ntsE last (l.drop j) = if ntE last x ≠ 0 then ntE last x else ntsE x.at_ (l.drop (j + 1)) := by
  rw [List.getElem?_eq_some_iff] at h
  obtain ⟨hlt, e⟩ := h
  rw [List.drop_eq_getElem_cons hlt, e, ntsE]
theorem fresh_int {mo n r : Nat} (hm : 1 ≤ mo) : (max ((n : Int) - (r : Int)) 0 + (mo : Int) - 1).tdiv (mo : Int) = ((freshN mo n r : Nat) : Int) := by
  unfold freshN
  have h1 : max ((n : Int) - (r : Int)) 0 = ((n - r : Nat) : Int) := by omega
  rw [h1]
  have h2 : ((n - r : Nat) : Int) + (mo : Int) - 1 = ((n - r + mo - 1 : Nat) : Int) := by omega
  rw [h2]
  rw [Int.tdiv_eq_ediv_of_nonneg (by omega)]
  rfl
theorem fresh_le {mo n r : Nat} (hm : 1 ≤ mo) : freshN mo n r ≤ n + mo := by
  unfold freshN
  exact Nat.le_trans (Nat.div_le_self _ _) (by omega)
theorem lk_run {mb mn k : Nat} {D : DataW Unit} {g : Int} {U : World} (h : U.ownsMap Tryd.prog 3 ptE mb mn D) (hgw : (Lit.int .i64 g).wf = true) (hq : ∀ z, D.atKey (.int .i64 g) z = .lit (.int .i64 (k : Int))) :
    (Instr.lookup 55 (.map (some mb)) (.int .i64 g) false).run Tryd.prog U = .ok (.pointer (some ⟨k, 0, none⟩)) U := by
  obtain ⟨v, ps, hrun, hv⟩ := h.lookup law_i Tryd.underlying55 (zero_p U) (ptE_mk none) (key_w hgw)
  rw [hq] at hv
  obtain rfl := Bk.ptE_at (q := some k) hv
  exact hrun
section
variable {B p N mb mn : Nat} {P : Pln} {s : Bx} {D : DataW Unit} {is : List Int} {gk : Int → Nat} {gv : Int → Value} {lv : Value} {w : World}
set_option maxRecDepth 100000 in
set_option maxHeartbeats 16000000 in
theorem checkNotices_any (hP : P.ok) (hok : BxOk P s) (hbp : BP B P p mb s mn D is gk gv lv w) {A : Option Addr} {n c : Nat} {l : List Nt} (hs : Sl w w.heap.size Nt.cs 4 A n l) (hn : n ≤ 4000000000000) (hfit : ∀ x ∈ l, x.rule.size ≤ maxLen) (hnl : s.ps.length ≤ 4000000000000) :
    Calls Tryd.prog 26 #[.pointer (some ⟨p, 0, none⟩), .slice A n c] w fun e w' => e = .returned (.int .i64 (putE P.mo s l)) ∧ Below w.heap.size w w' := by
  obtain ⟨x0, x1, x2, x3, x4, x5, x6, x7, x8, x9⟩ := hbp.cells
  have HL := hide hs.len
  have HNL := hide hnl
  have HS := hide hs
  have HFT := hide hfit
  have HBP := hide hbp
  have HOK := hide hok
  have hm1 := hP.m1
  have hm2 := hP.m2
  have hpl := lt_of_block hbp.box
  have hop := hok.op
  have hlen := hbp.len
  have HPE := hide (show ∀ x, ntsE s.put l = x → x ≠ 0 → putE P.mo s l = x from fun x h1 h2 => by unfold putE; rw [h1, if_pos h2])
  have HPZ := hide (show ntsE s.put l = 0 → putE P.mo s l = if 500 < opens s.ps + freshN P.mo n (roomN P.mo s.ps) then 12 else 0 from fun h1 => by
    unfold putE
    rw [if_neg (by simp [h1]), opens_addL hP l hok.ps (fun x hx => (ntsE_zero l h1 x hx).1), hs.len])
  clear hs hfit hbp hok
  go_enter Tryd.func26, Tryd.ntmps26
  go_wp2_with (fail)
  go_loopw [5, 16] (fun v5 v16 wr => ∃ j : Nat, j ≤ n ∧ v5 = .int .i64 (lastA s.put (l.take j)) ∧ v16 = .int .i64 (j : Int) ∧ ntsE s.put l = ntsE (lastA s.put (l.take j)) (l.drop j) ∧ Below w.heap.size w wr) (fun _ v16 _ => n - (intOf v16).toNat)
  case atStart => exact ⟨0, Nat.zero_le _, rfl, rfl, rfl, Below.refl _ _⟩
  case round =>
    obtain ⟨j, hj, rfl, rfl, heq, hB⟩ := hrel
    have HB := hide hB
    have HEQ := hide heq
    have hz := hB.size
    obtain ⟨la, hla⟩ : ∃ la, lastA s.put (l.take j) = la := ⟨_, rfl⟩
    rw [hla] at HEQ ⊢
    by_cases hlt : j < n
    · have hlt' : (j : Int) < (n : Int) := by omega
      obtain ⟨bb, oo, x, rfl, hbb, hx, hc⟩ := (HS.out.below hB).at_ hlt
      have d0 : wr.cell? ⟨bb, oo + j * 4, none⟩ = some (.int .i64 x.at_) := by have := hc 0 _ rfl; simpa using this
      have d1 : wr.cell? ⟨bb, oo + j * 4 + 1, none⟩ = some (.string x.rule) := hc 1 _ rfl
      have d2 : wr.cell? ⟨bb, oo + j * 4 + 2, none⟩ = some (.int .i64 x.kind) := hc 2 _ rfl
      have d3 : wr.cell? ⟨bb, oo + j * 4 + 3, none⟩ = some (.int .i64 x.value) := hc 3 _ rfl
      have HTK := hide (lastA_take (put := s.put) hx)
      have HDR := hide (ntsE_drop (last := la) hx)
      have hxf := HFT.out x (List.mem_of_getElem? hx)
      have HBA := hide (show Below w.heap.size w (wr.alloc (.cells #[.int .i64 x.at_, .string x.rule, .int .i64 x.kind, .int .i64 x.value] 51)) from HB.out.alloc hz _)
      have HMA := hide (heap_alloc_new wr (.cells #[.int .i64 x.at_, .string x.rule, .int .i64 x.kind, .int .i64 x.value] 51))
      have CM := hide (fun W => show Calls Tryd.prog 44 #[.int .i64 x.at_] W fun e w' => e = .returned (.bool (momB x.at_)) ∧ W = w' from isMoment_any x.at_ W)
      have CN := hide (fun W => show Calls Tryd.prog 45 #[.string x.rule] W fun e w' => e = .returned (.bool (nameB x.rule)) ∧ Below W.heap.size W w' from evName_any x.rule W hxf)
      have CO := hide (fun W => outside_any x.kind 1 2 W)
      obtain ⟨xa, xr, xk, xv⟩ := x
      simp only at d0 d1 d2 d3 HTK HDR HBA HMA CM CN CO
      clear hc hx heq hB hxf hla
      have HRET := hide (show ∀ e, ntE la ⟨xa, xr, xk, xv⟩ = e → e ≠ 0 → putE P.mo s l = e from fun e h1 h2 => HPE.out e (by rw [HEQ.out, HDR.out, if_pos (by rw [h1]; exact h2), h1]) h2)
      cases h1 : momB xa with
      | false =>
        have E := hide (HRET.out 2 (by unfold ntE; rw [if_pos h1]) (by decide))
        rw [h1] at CM
        clear h1
        go_wp2_with (first | (go_at_call 44; refine (CM.out _).mono ?_; rintro e w1 ⟨rfl, hh⟩; obtain rfl := hh))
        go_ret
        exact ⟨by rw [E.out]; rfl, HBA.out⟩
      | true =>
        rw [h1] at CM
        by_cases h2 : xa < la
        · have E := hide (HRET.out 5 (by unfold ntE; rw [if_neg (by simp [h1]), if_pos h2]) (by decide))
          clear h1
          go_wp2_with (first | (go_at_call 44; refine (CM.out _).mono ?_; rintro e w1 ⟨rfl, hh⟩; obtain rfl := hh))
          go_ret
          exact ⟨by rw [E.out]; rfl, HBA.out⟩
        · have h2' : decide (xa < la) = false := by simpa using h2
          cases h3 : nameB xr with
          | false =>
            have E := hide (HRET.out 3 (by unfold ntE; rw [if_neg (by simp [h1]), if_neg h2, if_pos h3]) (by decide))
            rw [h3] at CN
            clear h1 h3
            go_wp2_with (first | (go_at_call 44; refine (CM.out _).mono ?_; rintro e w1 ⟨rfl, hh⟩; obtain rfl := hh) | (go_at_call 45; refine (CN.out _).mono ?_; rintro e w1 ⟨rfl, hw1⟩; have HB1 := hide (HBA.out.trans (hw1.mono HBA.out.size)); clear hw1))
            go_ret
            exact ⟨by rw [E.out]; rfl, HB1.out⟩
          | true =>
            rw [h3] at CN
            cases h4 : outsideB xk 1 2 with
            | true =>
              have E := hide (HRET.out 10 (by unfold ntE; rw [if_neg (by simp [h1]), if_neg h2, if_neg (by simp [h3]), if_pos h4]) (by decide))
              rw [h4] at CO
              clear h1 h3 h4
              go_wp2_with (first | (go_at_call 44; refine (CM.out _).mono ?_; rintro e w1 ⟨rfl, hh⟩; obtain rfl := hh) | (go_at_call 45; refine (CN.out _).mono ?_; rintro e w1 ⟨rfl, hw1⟩; have HB1 := hide (HBA.out.trans (hw1.mono HBA.out.size)); have hX1 := block_below HMA.out hw1; have y0 : w1.cell? ⟨wr.heap.size, 0, none⟩ = some (.int .i64 xa) := (block_cell hX1 0).trans rfl; have y2 : w1.cell? ⟨wr.heap.size, 2, none⟩ = some (.int .i64 xk) := (block_cell hX1 2).trans rfl; clear hw1 hX1) | (go_at_call 43; refine (CO.out _).mono ?_; rintro e w2 ⟨rfl, hh⟩; obtain rfl := hh))
              go_ret
              exact ⟨by rw [E.out]; rfl, HB1.out⟩
            | false =>
              have E := hide (show ntE la ⟨xa, xr, xk, xv⟩ = 0 by unfold ntE; rw [if_neg (by simp [h1]), if_neg h2, if_neg (by simp [h3]), if_neg (by simp [h4])])
              rw [h4] at CO
              clear h1 h3 h4
              go_wp2_with (first | (go_at_call 44; refine (CM.out _).mono ?_; rintro e w1 ⟨rfl, hh⟩; obtain rfl := hh) | (go_at_call 45; refine (CN.out _).mono ?_; rintro e w1 ⟨rfl, hw1⟩; have HB1 := hide (HBA.out.trans (hw1.mono HBA.out.size)); have hX1 := block_below HMA.out hw1; have y0 : w1.cell? ⟨wr.heap.size, 0, none⟩ = some (.int .i64 xa) := (block_cell hX1 0).trans rfl; have y2 : w1.cell? ⟨wr.heap.size, 2, none⟩ = some (.int .i64 xk) := (block_cell hX1 2).trans rfl; clear hw1 hX1) | (go_at_call 43; refine (CO.out _).mono ?_; rintro e w2 ⟨rfl, hh⟩; obtain rfl := hh))
              go_roundw
              case rel => exact ⟨j + 1, hlt, by rw [HTK.out], by go_num, by rw [HTK.out, HEQ.out, HDR.out, if_neg (by simp [E.out])], HB1.out⟩
              case measure => simp [intOf]; omega
    · obtain rfl : n = j := by omega
      have hlt' : ¬ (n : Int) < (n : Int) := by omega
      have HZ := hide (HPZ.out (by rw [heq, List.drop_eq_nil_of_le (by rw [HL.out]; exact Nat.le_refl _)]; rfl))
      have HBr := hide (HBP.out.below hB)
      obtain ⟨z0, z1, z2, z3, z4, z5, z6, z7, z8, z9⟩ := HBr.out.cells
      have HFI := hide (fun r => fresh_int (mo := P.mo) (n := n) (r := r) hm1)
      have HFL := hide (fun r => fresh_le (mo := P.mo) (n := n) (r := r) hm1)
      clear heq hB HPE HPZ
      cases hgt : gat s.ps with
      | none =>
        have hg0 : gatI s.ps = 0 := by unfold gatI; rw [hgt]
        have hr0 : roomN P.mo s.ps = 0 := by unfold roomN; rw [hgt]
        have HZ := hide (HZ.out)
        rw [hr0] at HZ
        rw [hg0] at z5
        have hfi := HFI.out 0
        have hfl := HFL.out 0
        obtain ⟨fr, hfr⟩ : ∃ fr, freshN P.mo n 0 = fr := ⟨_, rfl⟩
        rw [hfr] at hfi hfl HZ
        clear hgt hg0 hr0 hfr
        have hq0 : IntKind.i64.wrap ((max ((n : Int) - ((0 : Nat) : Int)) 0 + (P.mo : Int) - 1).tdiv (P.mo : Int)) = (fr : Int) := by rw [hfi]; exact IntWalk.i64_in _ (by omega)
        go_wp2_with (fail)
        have hq9 : ((n : Int) + (P.mo : Int) - 1) / (P.mo : Int) = (fr : Int) := by
          have h9 := hfi
          have h8 : max ((n : Int) - ((0 : Nat) : Int)) 0 = (n : Int) := by omega
          rw [h8, Int.tdiv_eq_ediv_of_nonneg (by omega)] at h9
          exact h9
        have HBD := hide HB.out
        go_quiet (fail)
        rw [hq9]
        have hb3 : Below w.heap.size w (wr.drewN nq) := below_drewN HBD.out nq
        have hh3 : (wr.drewN nq).heap = wr.heap := rfl
        obtain ⟨w3, hw3⟩ : ∃ w3, wr.drewN nq = w3 := ⟨_, rfl⟩
        rw [hw3] at hb3 hh3 ⊢
        have HB3 := hide hb3
        have z9 : w3.cell? ⟨p, 4, none⟩ = some (.map (some mb)) := (block_cell (show w3.heap[p]? = _ from by rw [hh3]; exact HBr.out.box) 4).trans rfl
        have HMP := hide (show w3.ownsMap Tryd.prog 3 ptE mb mn D from map_stayC HBr.out.map fun o eo => by rw [hh3]; exact eo)
        have HSZ := hide (show Maps.size D = is.length from HBr.out.mp.sz)
        clear hw3 hb3 hh3
        obtain ⟨il, hil⟩ : ∃ il, is.length = il := ⟨_, rfl⟩
        rw [hil] at HSZ hlen
        rw [← hlen] at HZ
        clear hil
        by_cases hful : 500 < il + fr
        · have E := hide (HZ.out.trans (if_pos hful))
          have hf' : (500 : Int) < (il : Int) + (fr : Int) := by omega
          go_wp2_with (first | (at_len; refine wpList_len_own _ rfl _ 55 rfl 3 63 Tryd.underlying55 ptE mb mn D rfl HMP.out ?_; rw [HSZ.out]))
          go_ret
          exact ⟨by rw [E.out]; rfl, HB3.out⟩
        · have E := hide (HZ.out.trans (if_neg hful))
          have hf' : decide ((500 : Int) < (il : Int) + (fr : Int)) = false := by simp; omega
          go_wp2_with (first | (at_len; refine wpList_len_own _ rfl _ 55 rfl 3 63 Tryd.underlying55 ptE mb mn D rfl HMP.out ?_; rw [HSZ.out]))
          go_ret
          exact ⟨by rw [E.out]; rfl, HB3.out⟩
      | some q =>
        obtain ⟨hqa, hqg⟩ := gat_at hgt
        obtain ⟨hq1, hq2, hq3⟩ := gat_some hgt
        have hqm := List.mem_of_getElem? hq1
        obtain ⟨hqo, hqn, _⟩ := HOK.out.ps.un q hqm hq2
        have hr0 := (room_pos HOK.out.ps hgt).2
        obtain ⟨g, hg⟩ : ∃ g, gatI s.ps = g := ⟨_, rfl⟩
        rw [hg] at z5 hqg
        rw [← hqg] at hqa
        have hin : g ∈ is := (HBr.out.mem g).2 ⟨q, hqa, hqo⟩
        have hcl := HBr.out.cell g q hin hqa
        have hrw := HBr.out.row g q hqa (op_not hqo).1
        obtain ⟨k, hk⟩ : ∃ k, gk g = k := ⟨_, rfl⟩
        have HMPK := hide (HBr.out.mp.in_ g hin)
        rw [hk] at hcl HMPK
        obtain ⟨A9, cc, hv⟩ := own_sl hrw
        rw [hv] at hcl
        obtain ⟨nn, hnn⟩ : ∃ nn, q.nts.length = nn := ⟨_, rfl⟩
        rw [hnn] at hcl hqn hr0
        have hgl := (gatI_rng s.ps)
        have hqg2 : 0 < g := by omega
        have kl := lt_of_block hcl
        have c1 : wr.cell? ⟨k, 1, none⟩ = some (.slice A9 nn cc) := (block_cell hcl 1).trans rfl
        have HC1 := hide c1
        rw [hr0] at HZ
        have hfi := HFI.out (P.mo - nn)
        have hfl := HFL.out (P.mo - nn)
        obtain ⟨fr, hfr⟩ : ∃ fr, freshN P.mo n (P.mo - nn) = fr := ⟨_, rfl⟩
        rw [hfr] at hfi hfl HZ
        have hgw : (Lit.int .i64 g).wf = true := wf_small (by have := HNL.out; omega)
        have hpr := lt_of_block HBr.out.box
        have HOW := hide (show wr.drew.ownsMap Tryd.prog 3 ptE mb mn D from map_stayC HBr.out.map (fun o e => e))
        have hq9 : (max ((n : Int) - ((P.mo : Int) - (nn : Int))) 0 + (P.mo : Int) - 1) / (P.mo : Int) = (fr : Int) := by
          have h9 := hfi
          rw [Int.tdiv_eq_ediv_of_nonneg (by omega)] at h9
          rw [show ((P.mo : Int) - (nn : Int)) = ((P.mo - nn : Nat) : Int) by omega]
          exact h9
        have HBD := hide (show Below w.heap.size w wr.drew from HB.out.drew)
        have HS0 := hide (show ∀ U, Below wr.heap.size wr U → (fun U => U.cell? ⟨p, 0, none⟩ = some (.int .i64 (P.mo : Int)) ∧ U.cell? ⟨p, 4, none⟩ = some (.map (some mb)) ∧ U.cell? ⟨p, 5, none⟩ = some (.int .i64 g) ∧ (Instr.lookup 55 (.map (some mb)) (.int .i64 g) false).run Tryd.prog U = .ok (.pointer (some ⟨k, 0, none⟩)) U ∧ U.cell? ⟨k, 1, none⟩ = some (.slice A9 nn cc)) U from fun U hb => ⟨(hb.cell (p := ⟨p, 0, none⟩) hpr).trans z0, (hb.cell (p := ⟨p, 4, none⟩) hpr).trans z4, (hb.cell (p := ⟨p, 5, none⟩) hpr).trans z5, lk_run (map_stayC HBr.out.map (fun o e => block_below e hb)) hgw HMPK.out, (hb.cell (p := ⟨k, 1, none⟩) kl).trans HC1.out⟩)
        clear hgt hg hqa hqg hq1 hq2 hq3 hqm hqo hr0 hin hcl hrw hk hv hnn hfr hgl hfi
        go_wp2_with (fail)
        refine wp_region_chain (fun U => U.cell? ⟨p, 0, none⟩ = some (.int .i64 (P.mo : Int)) ∧ U.cell? ⟨p, 4, none⟩ = some (.map (some mb)) ∧ U.cell? ⟨p, 5, none⟩ = some (.int .i64 g) ∧ (Instr.lookup 55 (.map (some mb)) (.int .i64 g) false).run Tryd.prog U = .ok (.pointer (some ⟨k, 0, none⟩)) U ∧ U.cell? ⟨k, 1, none⟩ = some (.slice A9 nn cc)) 18 (by as_aux_lemma => kernel_rfl) (N := 20) (by as_aux_lemma => kernel_rfl) ?_; intro hsh
        have HS1 := HS0.out wr.drew (below_drewN (Below.refl _ _) 1)
        refine wpAnyC_take0 (i := 0) (k := 18) (v := ?_) (d := some 47) rfl (by rfl) (by as_aux_lemma => kernel_rfl) (by as_aux_lemma => kernel_rfl) (by as_aux_lemma => kernel_rfl) hsh (by decide) (by intro _ _ _ h; exact h) (by assumption) (Or.inl ⟨by rfl, ?hy⟩) ?_; (case hy => (intro W _; go_simp; (try with_reducible rfl))); clear hsh; intro hsh
        refine wpAnyC_take0 (i := 1) (k := 18) (v := ?_) (d := some 48) rfl (by rfl) (by as_aux_lemma => kernel_rfl) (by as_aux_lemma => kernel_rfl) (by as_aux_lemma => kernel_rfl) hsh (by decide) (by intro _ _ _ h; exact h) (by assumption) (Or.inl ⟨by rfl, ?hy⟩) ?_; (case hy => (intro W _; go_simp; (try with_reducible rfl))); clear hsh; intro hsh
        refine wpAnyC_take0 (i := 2) (k := 18) (v := ?_) (d := some 49) rfl (by rfl) (by as_aux_lemma => kernel_rfl) (by as_aux_lemma => kernel_rfl) (by as_aux_lemma => kernel_rfl) hsh (by decide) (by intro _ _ _ h; exact h) (by assumption) (Or.inl ⟨by rfl, ?hy⟩) ?_; (case hy => (intro W _; go_simp; (try with_reducible rfl))); clear hsh; intro hsh
        refine wpAnyC_take0 (i := 3) (k := 18) (v := ?_) (d := some 50) rfl (by rfl) (by as_aux_lemma => kernel_rfl) (by as_aux_lemma => kernel_rfl) (by as_aux_lemma => kernel_rfl) hsh (by decide) (by intro _ _ _ h; exact h) (by assumption) (Or.inl ⟨by rfl, ?hy⟩) ?_; (case hy => (intro W _; go_simp; (try with_reducible rfl))); clear hsh; intro hsh
        refine wpAnyC_take (i := 4) (k := 18) (f := 40) (v := ?_) (d := some 51) rfl (by rfl) (by as_aux_lemma => kernel_rfl) (by as_aux_lemma => kernel_rfl) (by as_aux_lemma => kernel_rfl) hsh (by decide) (by as_aux_lemma => kernel_rfl) (by intro _ _ _ h; exact h) (by assumption) (Or.inl ⟨by rfl, ?hy⟩) ?_; (case hy => (rintro W ⟨b1, b2, b3, b4, b5⟩; go_simp; (try with_reducible rfl))); clear hsh; intro hsh
        refine wpAnyC_take0 (i := 5) (k := 18) (v := ?_) (d := some 52) rfl (by rfl) (by as_aux_lemma => kernel_rfl) (by as_aux_lemma => kernel_rfl) (by as_aux_lemma => kernel_rfl) hsh (by decide) (by intro _ _ _ h; exact h) (by assumption) (Or.inl ⟨by rfl, ?hy⟩) ?_; (case hy => (intro W _; go_simp; (try with_reducible rfl))); clear hsh; intro hsh
        refine wpAnyC_take0 (i := 6) (k := 18) (v := ?_) (d := some 53) rfl (by rfl) (by as_aux_lemma => kernel_rfl) (by as_aux_lemma => kernel_rfl) (by as_aux_lemma => kernel_rfl) hsh (by decide) (by intro _ _ _ h; exact h) (by assumption) (Or.inl ⟨by rfl, ?hy⟩) ?_; (case hy => (intro W _; go_simp; (try with_reducible rfl))); clear hsh; intro hsh
        refine wpAnyC_take0 (i := 7) (k := 18) (v := ?_) (d := some 54) rfl (by rfl) (by as_aux_lemma => kernel_rfl) (by as_aux_lemma => kernel_rfl) (by as_aux_lemma => kernel_rfl) hsh (by decide) (by intro _ _ _ h; exact h) (by assumption) (Or.inl ⟨by rfl, ?hy⟩) ?_; (case hy => (intro W _; go_simp; (try with_reducible rfl))); clear hsh; intro hsh
        refine wpAnyC_take (i := 8) (k := 18) (f := 40) (v := ?_) (d := some 55) rfl (by rfl) (by as_aux_lemma => kernel_rfl) (by as_aux_lemma => kernel_rfl) (by as_aux_lemma => kernel_rfl) hsh (by decide) (by as_aux_lemma => kernel_rfl) (by intro _ _ _ h; exact h) (by assumption) (Or.inl ⟨by rfl, ?hy⟩) ?_; (case hy => (rintro W ⟨b1, b2, b3, b4, b5⟩; go_simp; (try with_reducible rfl))); clear hsh; intro hsh
        refine wpAnyC_take0 (i := 9) (k := 18) (v := ?_) (d := some 56) rfl (by rfl) (by as_aux_lemma => kernel_rfl) (by as_aux_lemma => kernel_rfl) (by as_aux_lemma => kernel_rfl) hsh (by decide) (by intro _ _ _ h; exact h) (by assumption) (Or.inl ⟨by rfl, ?hy⟩) ?_; (case hy => (intro W _; go_simp; (try with_reducible rfl))); clear hsh; intro hsh
        refine wpAnyC_take0 (i := 10) (k := 18) (v := ?_) (d := some 57) rfl (by rfl) (by as_aux_lemma => kernel_rfl) (by as_aux_lemma => kernel_rfl) (by as_aux_lemma => kernel_rfl) hsh (by decide) (by intro _ _ _ h; exact h) (by assumption) (Or.inl ⟨by rfl, ?hy⟩) ?_; (case hy => (intro W _; go_simp; (try with_reducible rfl))); clear hsh; intro hsh
        refine wpAnyC_take0 (i := 11) (k := 18) (v := ?_) (d := some 58) rfl (by rfl) (by as_aux_lemma => kernel_rfl) (by as_aux_lemma => kernel_rfl) (by as_aux_lemma => kernel_rfl) hsh (by decide) (by intro _ _ _ h; exact h) (by assumption) (Or.inl ⟨by rfl, ?hy⟩) ?_; (case hy => (intro W _; go_simp; (try with_reducible rfl))); clear hsh; intro hsh
        refine wpAnyC_take (i := 12) (k := 18) (f := 40) (v := ?_) (d := some 59) rfl (by rfl) (by as_aux_lemma => kernel_rfl) (by as_aux_lemma => kernel_rfl) (by as_aux_lemma => kernel_rfl) hsh (by decide) (by as_aux_lemma => kernel_rfl) (by intro _ _ _ h; exact h) (by assumption) (Or.inl ⟨by rfl, ?hy⟩) ?_; (case hy => (rintro W ⟨b1, b2, b3, b4, b5⟩; go_simp; (try with_reducible rfl))); clear hsh; intro hsh
        refine wpAnyC_take (i := 13) (k := 18) (f := 40) (v := ?_) (d := some 60) rfl (by rfl) (by as_aux_lemma => kernel_rfl) (by as_aux_lemma => kernel_rfl) (by as_aux_lemma => kernel_rfl) hsh (by decide) (by as_aux_lemma => kernel_rfl) (by intro _ _ _ h; exact h) (by assumption) (Or.inl ⟨by rfl, ?hy⟩) ?_; (case hy => (rintro W ⟨b1, b2, b3, b4, b5⟩; go_simp; (try with_reducible rfl))); clear hsh; intro hsh
        refine wpAnyC_take0 (i := 14) (k := 18) (v := ?_) (d := some 61) rfl (by rfl) (by as_aux_lemma => kernel_rfl) (by as_aux_lemma => kernel_rfl) (by as_aux_lemma => kernel_rfl) hsh (by decide) (by intro _ _ _ h; exact h) (by assumption) (Or.inl ⟨by rfl, ?hy⟩) ?_; (case hy => (intro W _; go_simp; (try with_reducible rfl))); clear hsh; intro hsh
        refine wpAnyC_take0 (i := 15) (k := 18) (v := ?_) (d := some 62) rfl (by rfl) (by as_aux_lemma => kernel_rfl) (by as_aux_lemma => kernel_rfl) (by as_aux_lemma => kernel_rfl) hsh (by decide) (by intro _ _ _ h; exact h) (by assumption) (Or.inl ⟨by rfl, ?hy⟩) ?_; (case hy => (intro W _; go_simp; (try with_reducible rfl))); clear hsh; intro hsh
        refine wpAnyC_take (i := 16) (k := 18) (f := 40) (v := ?_) (d := some 63) rfl (by rfl) (by as_aux_lemma => kernel_rfl) (by as_aux_lemma => kernel_rfl) (by as_aux_lemma => kernel_rfl) hsh (by decide) (by as_aux_lemma => kernel_rfl) (by intro _ _ _ h; exact h) (by assumption) (Or.inl ⟨by rfl, ?hy⟩) ?_; (case hy => (rintro W ⟨b1, b2, b3, b4, b5⟩; go_simp; (try with_reducible rfl))); clear hsh; intro hsh
        refine wpAnyC_take0 (i := 17) (k := 18) (v := ?_) (d := some 64) rfl (by rfl) (by as_aux_lemma => kernel_rfl) (by as_aux_lemma => kernel_rfl) (by as_aux_lemma => kernel_rfl) hsh (by decide) (by intro _ _ _ h; exact h) (by assumption) (Or.inl ⟨by rfl, ?hy⟩) ?_; (case hy => (intro W _; go_simp; (try with_reducible rfl))); clear hsh; intro hsh
        refine wpAnyC_tail (by as_aux_lemma => kernel_rfl) (by simp) (by as_aux_lemma => kernel_rfl) ?_; simp only [List.drop_succ_cons, List.drop_zero]; clear hsh
        clear HS1 HS0
        go_simp
        go_wp2_with (fail)
        go_quiet (fail)
        rw [hq9]
        have hb3 : Below w.heap.size w (wr.drew.drewN nq) := below_drewN HBD.out nq
        have hh3 : (wr.drew.drewN nq).heap = wr.heap := rfl
        obtain ⟨w3, hw3⟩ : ∃ w3, wr.drew.drewN nq = w3 := ⟨_, rfl⟩
        rw [hw3] at hb3 hh3 ⊢
        have HB3 := hide hb3
        have z9 : w3.cell? ⟨p, 4, none⟩ = some (.map (some mb)) := (block_cell (show w3.heap[p]? = _ from by rw [hh3]; exact HBr.out.box) 4).trans rfl
        have HMP := hide (show w3.ownsMap Tryd.prog 3 ptE mb mn D from map_stayC HBr.out.map fun o eo => by rw [hh3]; exact eo)
        have HSZ := hide (show Maps.size D = is.length from HBr.out.mp.sz)
        clear hw3 hb3 hh3
        obtain ⟨il, hil⟩ : ∃ il, is.length = il := ⟨_, rfl⟩
        rw [hil] at HSZ hlen
        rw [← hlen] at HZ
        clear hil
        by_cases hful : 500 < il + fr
        · have E := hide (HZ.out.trans (if_pos hful))
          have hf' : (500 : Int) < (il : Int) + (fr : Int) := by omega
          go_wp2_with (first | (at_len; refine wpList_len_own _ rfl _ 55 rfl 3 63 Tryd.underlying55 ptE mb mn D rfl HMP.out ?_; rw [HSZ.out]))
          go_ret
          exact ⟨by rw [E.out]; rfl, HB3.out⟩
        · have E := hide (HZ.out.trans (if_neg hful))
          have hf' : decide ((500 : Int) < (il : Int) + (fr : Int)) = false := by simp; omega
          go_wp2_with (first | (at_len; refine wpList_len_own _ rfl _ 55 rfl 3 63 Tryd.underlying55 ptE mb mn D rfl HMP.out ?_; rw [HSZ.out]))
          go_ret
          exact ⟨by rw [E.out]; rfl, HB3.out⟩
end
end Go.Proofs.YtnkccilgbhogbaaDoor
