/- Groups of a book: the walk. -/
import Derived.Test.YtapfcnfmonknjaaGreatDoorBkG2
import Derived.Deep.Onto
import Derived.ProofKit
import Derived.BigRegion
namespace Go.Proofs.YtapfcnfmonknjaaGreatDoor.Bk
open Go.RowKit Go.Maps Go.Sort
set_option linter.unusedVariables false
set_option linter.unusedSimpArgs false
/-- What the first loop keeps. -/
def GRel (w : World) (R mb mn : Nat) (D0 : DataW Unit) (l : List Pr) (wr : World) : Prop :=
  ∃ (left : Lit → Bool) (cnt : Nat) (m : List Pr) (n : Nat) (D : DataW Unit) (is : List Int) (gk : Int → Nat) (gv : Int → Value) (gd : Int → Gr), wr.ranges Tryz.prog 9 ptE mb R mn D0 left cnt ∧
    Got Lit.string (l.map Pr.p) (m.map Pr.p) left ∧ GM (w.heap.size + 2) wr w.heap.size n D is gk gv gd ∧ GIn m is gd ∧ (∀ r ∈ m, r ∈ l) ∧ n ≤ m.length ∧ Below w.heap.size w wr ∧ w.heap.size + 2 ≤ wr.heap.size
section
variable {w wX w8 V4 : World} {R mb mn n : Nat} {D0 D : DataW Unit} {l m : List Pr} {is : List Int} {gk : Int → Nat} {gv : Int → Value} {gd : Int → Gr} {r : Pr} {A : Option Addr} {nn cc q : Nat} {v8 : Value} {left : Lit → Bool} {cnt : Nat} {o8 : Obj}
theorem gr_step (hM : GM (w.heap.size + 2) wX w.heap.size n D is gk gv gd) (hI : r.g ∈ is) (hv : gv r.g = .slice A nn cc) (hq : gk r.g = q)
    (ho8 : ∀ j o, wX.heap[j]? = some o → (Value.slice A nn cc).ownBlock ≠ some j → w8.heap[j]? = some o) (o4 : ∀ j o, w8.heap[j]? = some o → j ≠ q → V4.heap[j]? = some o) : ∀ j o, wX.heap[j]? = some o → j ≠ gk r.g → (gv r.g).ownBlock ≠ some j → V4.heap[j]? = some o :=
  fun j o e ne nv => o4 j o (ho8 j o e (hv ▸ nv)) (hq ▸ ne)
theorem gr_rng (hM : GM (w.heap.size + 2) wX w.heap.size n D is gk gv gd) (hRG : wX.ranges Tryz.prog 9 ptE mb R mn D0 left cnt)
    (hs : ∀ j o, wX.heap[j]? = some o → j ≠ gk r.g → (gv r.g).ownBlock ≠ some j → V4.heap[j]? = some o) (hI : r.g ∈ is) (hmb : mb < w.heap.size) (hR : R = w.heap.size + 1) : V4.ranges Tryz.prog 9 ptE mb R mn D0 left cnt := by
  have h1 := hM.lo _ hI
  have h2 : ∀ j, j < w.heap.size + 2 → ∀ o, wX.heap[j]? = some o → V4.heap[j]? = some o := fun j hj o e => hs j o e (by omega) (fun e2 => by have := ((hM.row _ hI).lt j e2).1; omega)
  obtain ⟨es, clock, since, seen, c0, hb, F, hs', hD, hr, rest⟩ := hRG
  exact ⟨es, clock, since, seen, c0, h2 _ (by omega) _ hb, F, hs', hD, h2 _ (by omega) _ hr, rest⟩
theorem gr_rel {x : ByteArray} (hM : GM (w.heap.size + 2) wX w.heap.size n D is gk gv gd) (hI : r.g ∈ is) (hv : gv r.g = .slice A nn cc) (hq : gk r.g = q) (hx : r.p = x.data.toList)
    (ho8 : ∀ j o, wX.heap[j]? = some o → (Value.slice A nn cc).ownBlock ≠ some j → w8.heap[j]? = some o)
    (hown : w8.ownsRow (w.heap.size + 2) 9 1 v8 ((gd r.g).ps.length + 1) ((gd r.g).ps.map encStr ++ [.string x]))
    (hat : v8.ownBlock = (Value.slice A nn cc).ownBlock ∨ v8.ownBlock = some (wX.alloc o8).heap.size) (hg8 : (wX.alloc o8).grownBy w8 (Value.slice A nn cc).ownBlock) (hzX : w.heap.size + 2 ≤ wX.heap.size)
    (o4 : ∀ j o, w8.heap[j]? = some o → j ≠ q → V4.heap[j]? = some o) (b4 : Below (w.heap.size + 2) w8 V4) (h4 : V4.heap[q]? = some (.cells ((addG (gd r.g) r).arr v8) 44 (0, 0)))
    (hRG : wX.ranges Tryz.prog 9 ptE mb R mn D0 left cnt) (hB : Below w.heap.size w wX) (hmb : mb < w.heap.size) (hR : R = w.heap.size + 1)
    (hGS : Got Lit.string (l.map Pr.p) ((m ++ [r]).map Pr.p) left) (hF : GIn (m ++ [r]) is (upd gd r.g (addG (gd r.g) r))) (hsub : ∀ y ∈ m, y ∈ l) (hr : r ∈ l) (hn : n ≤ m.length + 1) : V4.ranges Tryz.prog 9 ptE mb R mn D0 left cnt ∧ GRel w R mb mn D0 l V4 := by
  have hs := gr_step hM hI hv hq ho8 o4
  have h1 := gr_rng hM hRG hs hI hmb hR
  have hzz : (wX.alloc o8).heap.size = wX.heap.size + 1 := by simp
  have hz8 : wX.heap.size + 1 ≤ w8.heap.size := by have := hg8.size; omega
  have hz4 := b4.size
  refine ⟨h1, left, cnt, m ++ [r], n, D, is, gk, upd gv r.g v8, upd gd r.g (addG (gd r.g) r), h1, hGS, ?_, hF, ?_, by simpa using hn, ?_, by omega⟩
  · refine hM.set hI (addG (gd r.g) r) v8 (hM.id _ hI) (by rw [hq]; exact h4) ?_ ?_ hs
    · have e1 : (addG (gd r.g) r).ps.length = (gd r.g).ps.length + 1 := by simp [addG]
      have e2 : (addG (gd r.g) r).ps.map encStr = (gd r.g).ps.map encStr ++ [.string x] := by
        rw [addG, List.map_append, List.map_singleton, hx]
      rw [e1, e2]
      refine own_stayB hown fun j o e e3 => o4 j o e3 fun e4 => ?_
      subst e4
      have hg1 : w8.heap[j]? = some (.cells ((gd r.g).arr (gv r.g)) 44 (0, 0)) := ho8 _ _ (hq ▸ hM.cell _ hI) (fun e5 => (hM.rsep hI hI).1 (by rw [hv, e5, hq]))
      exact own_other' hown hg1 (by decide) e
    · rcases hat with h | h
      · exact .inl (by rw [hv]; exact h)
      · exact .inr ⟨(wX.alloc o8).heap.size, by rw [hzz]; omega, h⟩
  · intro y hy
    rcases List.mem_append.1 hy with hy | hy
    · exact hsub y hy
    · obtain rfl : y = r := by simpa using hy
      exact hr
  · have hb8 : Below w.heap.size w w8 := (hB.alloc (by omega) o8).grown hg8 (by omega) (fun j hj => by
      have := ((hM.row _ hI).lt j (by rw [hv]; exact hj)).1; omega)
    exact hb8.trans (b4.mono (by omega))
end
/-- What the second loop keeps. -/
def GRl2 (w wr : World) (n : Nat) (D : DataW Unit) (m : List Pr) (is : List Int) (gk : Int → Nat) (gv : Int → Value) (v : Value) (w2 : World) : Prop :=
  ∃ (left : Lit → Bool) (cnt : Nat) (ts : List Int) (gd : Int → Gr), w2.ranges Tryz.prog 3 ptE w.heap.size wr.heap.size n D left cnt ∧ Got (Lit.int .i64) is ts left ∧ GM (w.heap.size + 2) w2 w.heap.size n D is gk gv gd ∧
    (∀ i ∈ is, gd i = if i ∈ ts then grO i m else rawG i m) ∧ w2.ownsRow (wr.heap.size + 1) 44 6 v ts.length ((ts.map fun i => mkE i (gv i) (grO i m)).flatMap Ge.cs) ∧ Below w.heap.size w w2 ∧ wr.heap.size + 1 ≤ w2.heap.size
theorem gr_rel2 {w wo w4 w8 : World} {n : Nat} {D : DataW Unit} {m : List Pr} {is ts : List Int} {gk : Int → Nat} {gv : Int → Value} {gd : Int → Gr} {left : Lit → Bool} {cnt : Nat} {i : Int} {ps : List (List UInt8)} {ge gw gf gl : Int} {vA v8 : Value} {o8 : Obj} {X : Option Addr} {nn cc : Nat}
    (hI : i ∈ is) (hnot : i ∉ ts) (hin : ∀ j ∈ is, gd j = if j ∈ ts then grO j m else rawG j m) (hG : grO i m = ⟨i, ps, ge, gw, gf, gl⟩) (hv : gv i = .slice X nn cc)
    (hM : GM (w.heap.size + 2) w4 w.heap.size n D is gk gv (upd gd i ⟨i, ps, ge, gw, gf, gl⟩)) (hRG : w4.ranges Tryz.prog 3 ptE w.heap.size wo.heap.size n D left cnt) (hGS : Got (Lit.int .i64) is (ts ++ [i]) left)
    (hB : Below w.heap.size w w4) (hz : wo.heap.size + 1 ≤ w4.heap.size)
    (hown : w8.ownsRow (wo.heap.size + 1) 44 6 v8 (ts.length + 1) ((ts.map fun i => mkE i (gv i) (grO i m)).flatMap Ge.cs ++ [.int .i64 i, .slice X nn cc, .int .i64 ge, .int .i64 gw, .int .i64 gf, .int .i64 gl]))
    (hg8 : (w4.alloc o8).grownBy w8 vA.ownBlock) (hlo : ∀ j, vA.ownBlock = some j → wo.heap.size + 1 ≤ j ∧ j < w4.heap.size) (hlt : ∀ k, GB w.heap.size is gk gv k → k < wo.heap.size) (hwz : w.heap.size ≤ wo.heap.size) :
    w8.ranges Tryz.prog 3 ptE w.heap.size wo.heap.size n D left cnt ∧ GRl2 w wo n D m is gk gv v8 w8 := by
  have h0 := (hRG.alloc o8).kept hg8 (fun e => by have := (hlo _ e.symm).1; omega) (fun e => by have := (hlo _ e.symm).1; omega)
  have hzz : (w4.alloc o8).heap.size = w4.heap.size + 1 := by simp
  have hz8 := hg8.size
  refine ⟨h0, left, cnt, ts ++ [i], upd gd i ⟨i, ps, ge, gw, gf, gl⟩, h0, hGS, ?_, fun j hj => ?_, ?_, ?_, by omega⟩
  · exact (hM.below ((Below.refl _ _).alloc (Nat.le_refl _) o8)).offv hg8 (fun k e hk => by have h1 := (hlo k e).1; have h2 := hlt k hk; omega)
  · by_cases e : j = i
    · subst e; rw [upd_same, if_pos (by simp), hG]
    · rw [upd_other _ _ e, hin j hj]
      simp [e]
  · rw [List.length_append, List.length_singleton, List.map_append, List.flatMap_append, List.map_singleton, List.flatMap_singleton]
    have e1 : (mkE i (gv i) (grO i m)).cs = [.int .i64 i, .slice X nn cc, .int .i64 ge, .int .i64 gw, .int .i64 gf, .int .i64 gl] := by rw [hG, hv]; rfl
    rw [e1]
    exact hown
  · exact (hB.alloc (hB.size) o8).grown hg8 (by have := hB.size; omega) (fun j hj => by have := (hlo j hj).1; omega)
set_option maxRecDepth 100000 in
set_option maxHeartbeats 16000000 in
theorem Groups_any {B0 p mb mn : Nat} {last : Int} {sv : Value} {l : List Pr} {bk : List UInt8 → Nat} {w : World} (h : BM B0 w p mb mn last sv l bk) (hnd : (l.map Pr.p).Nodup) (hl : l.length ≤ 1000) (hok : ∀ r ∈ l, PrOk r) :
    Calls Tryz.prog 16 #[.pointer (some ⟨p, 0, none⟩)] w fun e w' => ∃ v es, e = .returned v ∧ GrsIn w.heap.size w' v l es ∧ Below w.heap.size w w' := by
  obtain ⟨i0, hi0, iz0, iz1, iz2⟩ := info_parts info_strg
  obtain ⟨D0, hD1, hD2⟩ := h.map
  have hmb : mb < w.heap.size := hD1.lt
  have x0 : w.cell? ⟨p, 0, none⟩ = some (.map (some mb)) := (block_cell h.box 0).trans rfl
  have hmm := @run_makeMap Tryz.prog
  have HH := hide h
  have HD2 := hide hD2
  have HOK := hide hok
  have HMB := hide hmb
  have hR : (w.alloc (.map #[] 0)).heap.size = w.heap.size + 1 := by simp
  have HR_ := hide hR
  clear h hD2 hok
  go_enter Tryz.func16, Tryz.ntmps16
  go_wp2_with (first
    | (at_range; refine wpList_range_own _ rfl _ 53 rfl 9 58 law_s Tryz.underlying53 _ mb mn _ rfl (hD1.alloc (.map #[] 0)) ?_; intro w0 hrg0 hg0 hs0; rw [hR] at hrg0 hs0 ⊢)
    | go_in)
  go_frame
  go_loopw [] (fun wr => GRel w (w.heap.size + 1) mb mn D0 l wr) (fun wr => wr.rangeLeft mb (w.heap.size + 1))
  case atStart =>
    refine ⟨_, _, [], 0, .map [], [], fun _ => 0, fun _ => .slice none 0 0, fun i => rawG i [], hrg0, Got.start HD2.out, ?_, GIn.start _, by simp, Nat.le_refl _, ((Below.refl _ _).alloc (Nat.le_refl _) _).grown hg0 (by simp) (fun j hj => by cases hj), by omega⟩
    exact ⟨(map_madeB w w.heap.size _ rfl).kept hg0 (by simp), MapK.empty _ _, by simp, by simp, by simp, by simp, by simp, by simp, by simp, by omega⟩
  case round =>
    obtain ⟨left, cnt, m, n, D, is, gk, gv, gd, hrg, hGt, hM, hIn, hsub, hn, hB, hz⟩ := hrel
    clear hrg0 hg0 hs0 hD1 x0
    go_wp2_with (first
      | (at_next; refine wpList_next_ranges _ rfl _ rfl 9 law_s ptE Value.string ptV (fun key kl hk => by obtain ⟨s, e, _⟩ := key_inv hk; exact ⟨s, e⟩) (fun v y hv => ptE_inv2 hv) mb (w.heap.size + 1) mn _ _ _ rfl hrg ?_ ?_)
      | go_in)
    · intro hc0 hl0
      rename World => wo
      have hml := all_come hGt hl0 hnd hsub
      have hlen := hml.length_eq
      have hm1 : m.length ≤ 1000 := by omega
      have hisl : is.length ≤ 1000 := by
        have h1 : is.length ≤ (m.map Pr.g).length := hM.nd.length_le_of_subset fun i hi => by
          obtain ⟨r, hr, e⟩ := (hIn.ids i).1 hi
          exact List.mem_map.2 ⟨r, hr, e⟩
        rw [List.length_map] at h1
        omega
      have HML := hide hml
      have HIN := hide hIn
      have HM := hide hM
      have HB := hide hB
      have HZ := hide hz
      have HL := hide hm1
      have HIS := hide hisl
      clear hml hIn hM hB hz hrg hGt hsub hlen hn hm1 hisl
      obtain ⟨i1, hi1, iz3, iz4, iz5⟩ := info_parts info_grp
      go_wp2_with (first
        | (at_range; refine wpList_range_own _ rfl _ 74 rfl 3 75 law_i Tryz.underlying74 _ w.heap.size n _ rfl HM.out.own ?_; intro w0 hrg0 hg0 hs0)
        | go_in)
      go_frame
      go_loopw [7] (fun v w2 => GRl2 w wo n D m is gk gv v w2) (fun _ w2 => w2.rangeLeft w.heap.size wo.heap.size)
      case atStart =>
        exact ⟨_, _, [], gd, hrg0, Got.start HM.out.map, HM.out.offv hg0 (fun k e => by cases e), fun i hi => by rw [if_neg (by simp)]; exact HIN.out.eq i hi, World.ownsRow_nil _ _ _ _, HB.out.grown hg0 HB.out.size (fun j hj => by cases hj), by omega⟩
      case round =>
        obtain ⟨left2, cnt2, ts, gd2, hrg2, hGt2, hM2, hin2, hr2, hB2, hz2⟩ := hrel
        clear hrg0 hg0 hs0
        obtain ⟨vA, vc, rfl⟩ := own_sl hr2
        have htl := hGt2.room HM.out.nd
        go_wp2_with (first
          | (at_next; refine wpList_next_ranges _ rfl _ rfl 3 law_i ptE (Value.int .i64) ptV (fun key kl hk => by obtain ⟨x, e, _⟩ := keyOf_int_inv Tryz.underlying3 hk; exact ⟨x, e⟩) (fun v y hv => ptE_inv2 hv) w.heap.size wo.heap.size n _ _ _ rfl hrg2 ?_ ?_)
          | go_in)
        · intro hc0 hl2
          have HP := hide (hGt2.done hl2 HM.out.nd)
          have HR2 := hide (show wr.ownsRow (wo.heap.size + 1) 44 6 (.slice vA ts.length vc) (ts.map fun i => mkE i (gv i) (grO i m)).length ((ts.map fun i => mkE i (gv i) (grO i m)).flatMap Ge.cs) by rw [List.length_map]; exact hr2)
          have HND := hide (show ((ts.map fun i => mkE i (gv i) (grO i m)).map Ge.id).Nodup by rw [List.map_map]; exact (List.map_id' ts).symm ▸ hGt2.nd)
          have HTL := hide (show (ts.map fun i => mkE i (gv i) (grO i m)).length ≤ 1000 by rw [List.length_map]; have := HIS.out; omega)
          have HM2 := hide hM2
          have HIN2 := hide hin2
          have HB2 := hide hB2
          clear hGt2 hr2 hM2 hin2 hB2 hrg2
          go_wp2_with (first | (go_at_call 40; refine (SortG_any HR2.out HTL.out HND.out).mono ?_; rintro e w7 ⟨rfl, ⟨es, hp7, hs7, hr7⟩, hg7⟩))
          refine bodyPost_ret (by simp [results, Tryz.results16, go_sem]; try rfl) rfl ?_
          refine ⟨_, es, rfl, ?_, ?_⟩
          · have hM7 := HM2.out.offv hg7 (fun k e hk => by
              have h1 := (HR2.out.lt k e).1
              have h2 := HM.out.lt hk
              omega)
            refine grs_of HML.out HIN.out.ids HP.out hp7 hs7 ?_ (fun i hi => hM7.sl hi) (fun i hi => ?_)
            · rw [hp7.length_eq]; exact World.ownsRow.mono hr7 (by have := HZ.out; omega)
            · have h1 := hM7.row i hi
              rw [HIN2.out i hi, if_pos (HP.out.mem_iff.2 hi)] at h1
              exact World.ownsRow.mono h1 (by omega)
          · exact HB2.out.grown hg7 HB2.out.size (fun j hj => by have := (HR2.out.lt j hj).1; have := HZ.out; omega)
        · intro i c kl y1 y2 w3 cnt3 hkx hlx hcy hat hrg3 hlt hg3 hs3 hen
          obtain ⟨i2, e1, rfl, _⟩ := keyOf_int_inv Tryz.underlying3 hkx
          obtain rfl : i = i2 := by cases e1; rfl
          obtain ⟨hin, hnot⟩ := (hGt2.lf _).1 hlx
          have ec : c = some (gk i) := by
            have h1 := hat (.lit (.int .i64 0))
            rw [ptE_mk] at hcy
            rw [HM.out.map.in_ i hin] at h1
            have h2 := congrArg Prod.fst (Option.some.inj hcy)
            simp only at h2
            rw [← h1] at h2
            simp only [DataW.lit.injEq, Lit.int.injEq, true_and] at h2
            exact ptI_inj h2
          subst ec
          simp only [ptV] at hen
          have HGS := hide (hGt2.step enc_int trivial hlx)
          have hroom := HGS.out.room HM.out.nd
          rw [List.length_append, List.length_singleton] at hroom
          have hM3 := hM2.off hg3 (fun h => by have := HM.out.lt h; omega)
          have hB3 := hB2.grown hg3 hB2.size (fun j hj => by cases hj; exact HB.out.size)
          have hr3 := hr2.kept hg3 (.inr (fun e => by have := (hr2.lt _ e).1; omega))
          have hGd := hin2 i hin
          rw [if_neg hnot] at hGd
          have HGd := hide hGd
          have HIN2 := hide hin2
          have HNOT := hide hnot
          have HI := hide hin
          have HM3 := hide hM3
          have HB3 := hide hB3
          have HR3 := hide hr3
          have HRG3 := hide hrg3
          have HRG2 := hide hrg2
          have HTL := hide hroom
          have hlo := hr3.lt
          have hz3 : wo.heap.size + 1 ≤ w3.heap.size := by omega
          obtain ⟨q, hq⟩ : ∃ q, gk i = q := ⟨_, rfl⟩
          rw [hq] at hen
          have HQ := hide hq
          have hcl := hM3.cell i hin
          have hrw := hM3.row i hin
          have hlen := rawG_len i m
          rw [hGd, hq] at hcl
          rw [hGd] at hrw
          obtain ⟨A, cc, hv⟩ := own_sl hrw
          rw [hv] at hcl hrw
          have HV := hide hv
          have HCL := hide hcl
          have HRW := hide hrw
          have hps : (rawG i m).ps.length ≤ 100000 := by have := HL.out; omega
          have c1 : w3.cell? ⟨q, 1, none⟩ = some (.slice A (rawG i m).ps.length cc) := (block_cell HCL.out 1).trans rfl
          obtain ⟨G, hG⟩ : ∃ G, grO i m = G := ⟨_, rfl⟩
          have hGi : G.id = i := hG ▸ grO_id i m
          have HG := hide hG
          have HGL := hide (show G.ps.length = (rawG i m).ps.length from hG ▸ srtP_len _)
          have HGA := hide (show G.arr (gv i) = (gd2 i).arr (gv i) by rw [hGd, ← hG]; rfl)
          have hcl2 : w3.heap[q]? = some (.cells (G.arr (.slice A (rawG i m).ps.length cc)) 44 (0, 0)) := by rw [← hG]; exact hcl
          have hsrt : srtP (rawG i m).ps = G.ps := by rw [← hG]; rfl
          have HSRT := hide hsrt
          obtain ⟨nn, hnn⟩ : ∃ nn, (rawG i m).ps.length = nn := ⟨_, rfl⟩
          rw [hnn] at c1 hps hv hcl2 HGL
          obtain ⟨gi, ps2, ge, gw, gf, gl⟩ := G
          simp only at hGi HGL HSRT
          subst hGi
          have HNN := hide hnn
          have HCL := hide (show w3.heap[q]? = some (.cells #[.int .i64 gi, .slice A nn cc, .int .i64 ge, .int .i64 gw, .int .i64 gf, .int .i64 gl] 44 (0, 0)) from hcl2)
          have HV := hide hv
          have HSQ := hide (show (Value.slice A nn cc).ownBlock ≠ some q from by have h1 := (hM3.rsep hin hin).1; rw [hv, hq] at h1; exact h1)
          have HRW := hide (show w3.ownsRow (w.heap.size + 2) 9 1 (.slice A nn cc) (rawG gi m).ps.length ((rawG gi m).ps.map encStr) by rw [hnn] at hrw; rw [hnn]; exact hrw)
          have HPS := hide (show (rawG gi m).ps.length ≤ 100000 by omega)
          have HLO := hide hlo
          have hmm1 : ts.length + 1 ≤ 1000 := by have := HIS.out; omega
          clear hkx hcy hat hlx hin hnot hg3 hrg2 hrg3 hM2 hM3 hB2 hB3 hr2 hr3 hGt2 hin2 hGd hcl hcl2 hrw hv hq hroom hG hsrt hnn hlo hs3 hz2 hlen hps
          go_wp2_with (first
            | (go_at_call 39; (refine (SortP_any HRW.out HPS.out).mono ?_; rintro e w4 ⟨rfl, hr4, hg4⟩; have HM4 := hide (HM3.out.sort HI.out ⟨gi, ps2, ge, gw, gf, gl⟩ rfl HGA.out (by rw [HV.out]; show w4.ownsRow _ _ _ _ ps2.length (ps2.map encStr); rw [HGL.out.trans HNN.out.symm, ← HSRT.out]; exact hr4) (by rw [HV.out]; exact hg4)); have HB4 := hide (HB3.out.grown hg4 HB3.out.size (fun j hj => by have := (HRW.out.lt j hj).1; omega)); have HO4 := hide (HR3.out.kept hg4 (by cases e5 : (Value.slice vA ts.length vc).ownBlock with | none => exact .inl rfl | some x => exact .inr (fun e => by have h1 := (HLO.out x e5).1; have h2 := HM.out.lt (.inr (.inr ⟨gi, HI.out, by rw [HV.out, ← e]⟩)); omega))); have HRG4 := hide (HRG3.out.kept hg4 (fun e => by have := (HRW.out.lt _ e.symm).1; omega) (fun e => by have h2 := HM.out.lt (.inr (.inr ⟨gi, HI.out, by rw [HV.out, ← e]⟩)); omega)); have hC4 : w4.heap[q]? = some (.cells #[.int .i64 gi, .slice A nn cc, .int .i64 ge, .int .i64 gw, .int .i64 gf, .int .i64 gl] 44 (0, 0)) := (hg4.block q (lt_of_block HCL.out) (fun e => HSQ.out e.symm)).trans HCL.out; have d0 : w4.cell? ⟨q, 0, none⟩ = some (.int .i64 gi) := (block_cell hC4 0).trans rfl; have d1 : w4.cell? ⟨q, 1, none⟩ = some (.slice A nn cc) := (block_cell hC4 1).trans rfl; have d2 : w4.cell? ⟨q, 2, none⟩ = some (.int .i64 ge) := (block_cell hC4 2).trans rfl; have d3 : w4.cell? ⟨q, 3, none⟩ = some (.int .i64 gw) := (block_cell hC4 3).trans rfl; have d4 : w4.cell? ⟨q, 4, none⟩ = some (.int .i64 gf) := (block_cell hC4 4).trans rfl; have d5 : w4.cell? ⟨q, 5, none⟩ = some (.int .i64 gl) := (block_cell hC4 5).trans rfl; have hz4 : wo.heap.size + 1 ≤ w4.heap.size := (by have := hg4.size; omega); clear hr4 hg4 hC4))
            | (at_builtin; (refine wpList_append_own _ rfl (.tmp 116) (.tmp 120) 42 rfl (wo.heap.size + 1) 44 i1 (.agg #[.int .i64 0, .slice none 0 0, .int .i64 0, .int .i64 0, .int .i64 0, .int .i64 0]) 6 64 Tryz.underlying42 hi1 iz3 iz4 iz5 rfl (by decide) (.slice vA ts.length vc) ts.length ((ts.map fun i => mkE i (gv i) (grO i m)).flatMap Ge.cs) rfl (HO4.out.alloc _) ⟨w4.heap.size, 0, none⟩ 1 1 [.int .i64 gi, .slice A nn cc, .int .i64 ge, .int .i64 gw, .int .i64 gf, .int .i64 gl] rfl rfl (cells_at _ [.int .i64 gi, .slice A nn cc, .int .i64 ge, .int .i64 gw, .int .i64 gf, .int .i64 gl] _ _ rfl) (by intro u hu; simp at hu; rcases hu with rfl | rfl | rfl | rfl | rfl | rfl <;> rfl) (by unfold maxLen; omega) (by omega) (by simp; omega) ?_; intro v8 w8 hown8 hg8 _; obtain ⟨A8, c8, rfl⟩ := own_sl hown8; have HOW8 := hide hown8; have HG8 := hide hg8; have HZ4 := hide hz4; clear hown8 hg8)))
          have HREL := hide (gr_rel2 HI.out HNOT.out HIN2.out HG.out HV.out HM4.out HRG4.out HGS.out HB4.out HZ4.out HOW8.out HG8.out HO4.out.lt (fun k hk => HM.out.lt hk) HB.out.size)
          go_roundw
          case rel => exact HREL.out.2
          case measure => rw [HREL.out.1.left_eq, HRG2.out.left_eq]; exact hlt
    · intro x c kl y1 y2 w1 cnt1 hkx hlx hcy hat hrg1 hlt hg1 hs1 hen
      obtain ⟨s, e1, rfl⟩ := key_inv hkx
      cases e1
      obtain ⟨hin, hnot⟩ := (hGt.lf _).1 hlx
      obtain ⟨r, hr, hrp⟩ := List.mem_map.1 hin
      have ec : c = some (bk r.p) := by
        have h1 := hat (.lit (.int .i64 0))
        rw [ptE_mk] at hcy
        rw [← hrp, HD2.out.in_ r.p (List.mem_map.2 ⟨r, hr, rfl⟩)] at h1
        have h2 := congrArg Prod.fst (Option.some.inj hcy)
        simp only at h2
        rw [← h1] at h2
        simp only [DataW.lit.injEq, Lit.int.injEq, true_and] at h2
        exact ptI_inj h2
      subst ec
      simp only [ptV] at hen
      have HGS := hide (show Got Lit.string (l.map Pr.p) ((m ++ [r]).map Pr.p) _ by rw [List.map_append, List.map_singleton, hrp]; exact hGt.step enc_str trivial hlx)
      have hroom := HGS.out.room hnd
      rw [List.length_map, List.length_map, List.length_append, List.length_singleton] at hroom
      have hM1 := hM.iter hg1 (by omega) (by omega)
      have hB1 := hB.grown hg1 hB.size (fun j hj => by cases hj; omega)
      have hz1 : w.heap.size + 2 ≤ w1.heap.size := by omega
      obtain ⟨k, hk⟩ : ∃ k, bk r.p = k := ⟨_, rfl⟩
      rw [hk] at hen
      have hkl : k < w.heap.size := hk ▸ lt_of_block (HH.out.cell r hr)
      have hok := HOK.out r hr
      have HCr := (HH.out.below hB1).cell r hr
      rw [hk] at HCr
      have hr0 := rawG_rng (fun y hy => HOK.out y (hsub y hy)) (by omega : m.length ≤ 1000) r.g
      have hr1 := rawG_len r.g m
      have HRP := hide hrp
      have HR0 := hide hr
      have HGT := hide hGt
      have HIN := hide hIn
      have HSUB := hide hsub
      have HRG0 := hide hrg
      have HRG1 := hide hrg1
      have HB1 := hide hB1
      have HM1 := hide hM1
      have HGR := hide hok.g
      have hev := hok.ev
      have hwt := hok.wt
      clear hrp hGt hIn hsub hrg hrg1 hB hB1 hM hM1 hkx hcy hat hlx hin hnot hg1 hok hk hs1 hz
      obtain ⟨rp, rg, rv, rw_, rf, rl⟩ := r
      have HCr := hide (show w1.heap[k]? = some (.cells #[.int .i64 rg, .int .i64 rv, .int .i64 rw_, .int .i64 rf, .int .i64 rl] 60 (0, 0)) from HCr)
      simp only at hev hwt hr0 hr1
      have c0 : w1.cell? ⟨k, 0, none⟩ = some (.int .i64 rg) := (block_cell HCr.out 0).trans rfl
      by_cases hI : rg ∈ is
      · obtain ⟨A, cc, hv⟩ := own_sl (HM1.out.row rg hI)
        obtain ⟨G, hG⟩ : ∃ G, gd rg = G := ⟨_, rfl⟩
        have hGe := HIN.out.eq rg hI
        rw [hG] at hGe hv
        rw [← hGe] at hr0 hr1
        have HGD := hide hG
        have HGV := hide hv
        have HF := hide (HIN.out.old (r := ⟨rp, rg, rv, rw_, rf, rl⟩) hI)
        have HN := hide (show n ≤ m.length + 1 by omega)
        have HI := hide hI
        obtain ⟨q, hq⟩ : ∃ q, gk rg = q := ⟨_, rfl⟩
        have hHG := HM1.out.cell rg hI
        have hHR := HM1.out.row rg hI
        have hql := HM1.out.lo rg hI
        have hsq := (HM1.out.rsep hI hI).1
        have hmap := HM1.out.map.in_ rg hI
        have HOW := hide HM1.out.own
        rw [hG, hv, hq] at hHG
        rw [hG, hv] at hHR
        rw [hq] at hql hmap
        rw [hq, hv] at hsq
        have HQ := hide hq
        have HQL := hide hql
        have HMP := hide hmap
        have HM := HM1
        have HC := HCr
        have HRG := HRG1
        have HBX := HB1
        obtain ⟨gi, ps, ge, gw, gf, gl⟩ := G
        simp only at hr0 hr1 hHR hsq HGV
        have hplm : ps.length + 1 ≤ 1000 := by omega
        have HPL := hide hplm
        have HR := hide hHR
        have HSQ := hide hsq
        have HSC := hide (own_other' hHR HCr.out (by decide))
        have HKQ := hide (show k ≠ q by omega)
        have HZX := hide hz1
        have HG := hide (show w1.heap[q]? = some (.cells #[.int .i64 gi, .slice A ps.length cc, .int .i64 ge, .int .i64 gw, .int .i64 gf, .int .i64 gl] 44 (0, 0)) from hHG)
        have g1 : w1.cell? ⟨q, 1, none⟩ = some (.slice A ps.length cc) := (block_cell HG.out 1).trans rfl
        clear hv hG hGe hq hHG hHR hql hsq hmap hI hroom hn hplm HM1 HCr HRG1 HB1
        go_wp2_with (first
          | (at_lookup; refine wpList_lookup_some _ rfl _ _ 74 rfl 3 75 law_i Tryz.underlying74 (zero_g _) w.heap.size n D rfl HOW.out (.int .i64 rg) _ rfl (key_i HGR.out) q HMP.out ?_)
          | (at_builtin; (refine wpList_append_own_at _ rfl (.tmp 53) (.tmp 55) 30 rfl (w.heap.size + 2) 9 i0 (.string ByteArray.empty) 1 16 Tryz.underlying30 hi0 iz0 iz1 iz2 rfl (by decide) (.slice A ps.length cc) ps.length (ps.map encStr) rfl (HR.out.alloc _) ⟨w1.heap.size, 0, none⟩ 1 1 [.string x] rfl rfl (cell_one_new _ _ _) (by intro u hu; simp at hu; subst hu; rfl) (by have := HPL.out; unfold maxLen; omega) (by have := HPL.out; omega) (by have := HZX.out; simp; omega) ?_; intro v8 w8 hown8 hg8 _ hat8; obtain ⟨A8, c8, rfl⟩ := own_sl hown8; have ho8 : ∀ j o, w1.heap[j]? = some o → (Value.slice A ps.length cc).ownBlock ≠ some j → w8.heap[j]? = some o := fun j o e ne => (hg8.block j (by have := lt_of_block e; simp; omega) (fun e2 => ne e2.symm)).trans (block_below e ((Below.refl _ _).alloc (Nat.le_refl _) _)); have HO8 := hide ho8; have HOWN := hide hown8; have HAT := hide hat8; have HG8 := hide hg8; have HC8 := hide (ho8 _ _ HC.out HSC.out); have HGG := hide (ho8 _ _ HG.out HSQ.out); have g1 : w8.cell? ⟨q, 1, none⟩ = some (.slice A ps.length cc) := (block_cell HGG.out 1).trans rfl; have f1 := block_free HGG.out 1; clear hown8 hat8 hg8 ho8)))
        obtain ⟨V1, hV1⟩ : ∃ V, (w8.setCell ⟨q, 1, none⟩ (.slice A8 (ps.length + 1) c8)) = V := ⟨_, rfl⟩
        have H1 := hide (show V1.heap[q]? = some (.cells #[.int .i64 gi, (.slice A8 (ps.length + 1) c8), .int .i64 ge, .int .i64 gw, .int .i64 gf, .int .i64 gl] 44 (0, 0)) from hV1 ▸ block_set HGG.out (.slice A8 (ps.length + 1) c8))
        have C1 := hide (show V1.heap[k]? = some (.cells #[.int .i64 rg, .int .i64 rv, .int .i64 rw_, .int .i64 rf, .int .i64 rl] 60 (0, 0)) from hV1 ▸ block_set_other HC8.out _ _ HKQ.out)
        have O1 := hide (show ∀ j o, w8.heap[j]? = some o → j ≠ q → V1.heap[j]? = some o from fun j o e ne => hV1 ▸ block_set_other e _ _ ne)
        have B1 := hide (show Below (w.heap.size + 2) w8 V1 from hV1 ▸ (Below.refl _ _).setCell (p := ⟨q, 1, none⟩) HQL.out _)
        rw [hV1]
        clear hV1 g1 f1
        have HS0 := hide (show ∀ U, Below V1.heap.size V1 U → (fun U => U.cell? ⟨q, 2, none⟩ = some (.int .i64 ge) ∧ U.cell? ⟨k, 1, none⟩ = some (.int .i64 rv)) U from fun U hb => ⟨(block_cell (block_below H1.out hb) 2).trans rfl, (block_cell (block_below C1.out hb) 1).trans rfl⟩)
        refine wp_region_chain (fun U => U.cell? ⟨q, 2, none⟩ = some (.int .i64 ge) ∧ U.cell? ⟨k, 1, none⟩ = some (.int .i64 rv)) 11 (by as_aux_lemma => kernel_rfl) (N := 12) (by as_aux_lemma => kernel_rfl) ?_; intro hsh
        have HS := HS0.out V1.drew (below_drewN (Below.refl _ _) 1)
        refine wpAnyC_take0 (i := 0) (k := 11) (v := ?_) (d := some 59) rfl (by rfl) (by as_aux_lemma => kernel_rfl) (by as_aux_lemma => kernel_rfl) (by as_aux_lemma => kernel_rfl) hsh (by decide) (by intro _ _ _ h; exact h) (by assumption) (Or.inl ⟨by rfl, ?hy⟩) ?_; (case hy => (intro W _; go_simp; (try with_reducible rfl))); clear hsh; intro hsh
        refine wpAnyC_take0 (i := 1) (k := 11) (v := ?_) (d := some 60) rfl (by rfl) (by as_aux_lemma => kernel_rfl) (by as_aux_lemma => kernel_rfl) (by as_aux_lemma => kernel_rfl) hsh (by decide) (by intro _ _ _ h; exact h) (by assumption) (Or.inl ⟨by rfl, ?hy⟩) ?_; (case hy => (intro W _; go_simp; (try with_reducible rfl))); clear hsh; intro hsh
        refine wpAnyC_take0 (i := 2) (k := 11) (v := ?_) (d := some 61) rfl (by rfl) (by as_aux_lemma => kernel_rfl) (by as_aux_lemma => kernel_rfl) (by as_aux_lemma => kernel_rfl) hsh (by decide) (by intro _ _ _ h; exact h) (by assumption) (Or.inl ⟨by rfl, ?hy⟩) ?_; (case hy => (intro W _; go_simp; (try with_reducible rfl))); clear hsh; intro hsh
        refine wpAnyC_take (i := 3) (k := 11) (f := 40) (v := ?_) (d := some 62) rfl (by rfl) (by as_aux_lemma => kernel_rfl) (by as_aux_lemma => kernel_rfl) (by as_aux_lemma => kernel_rfl) hsh (by decide) (by as_aux_lemma => kernel_rfl) (by intro _ _ _ h; exact h) (by assumption) (Or.inl ⟨by rfl, ?hy⟩) ?_; (case hy => (rintro W ⟨a1, a2⟩; go_simp; (try with_reducible rfl))); clear hsh; intro hsh
        refine wpAnyC_take0 (i := 4) (k := 11) (v := ?_) (d := some 63) rfl (by rfl) (by as_aux_lemma => kernel_rfl) (by as_aux_lemma => kernel_rfl) (by as_aux_lemma => kernel_rfl) hsh (by decide) (by intro _ _ _ h; exact h) (by assumption) (Or.inl ⟨by rfl, ?hy⟩) ?_; (case hy => (intro W _; go_simp; (try with_reducible rfl))); clear hsh; intro hsh
        refine wpAnyC_take0 (i := 5) (k := 11) (v := ?_) (d := some 64) rfl (by rfl) (by as_aux_lemma => kernel_rfl) (by as_aux_lemma => kernel_rfl) (by as_aux_lemma => kernel_rfl) hsh (by decide) (by intro _ _ _ h; exact h) (by assumption) (Or.inl ⟨by rfl, ?hy⟩) ?_; (case hy => (intro W _; go_simp; (try with_reducible rfl))); clear hsh; intro hsh
        refine wpAnyC_take0 (i := 6) (k := 11) (v := ?_) (d := some 65) rfl (by rfl) (by as_aux_lemma => kernel_rfl) (by as_aux_lemma => kernel_rfl) (by as_aux_lemma => kernel_rfl) hsh (by decide) (by intro _ _ _ h; exact h) (by assumption) (Or.inl ⟨by rfl, ?hy⟩) ?_; (case hy => (intro W _; go_simp; (try with_reducible rfl))); clear hsh; intro hsh
        refine wpAnyC_take (i := 7) (k := 11) (f := 40) (v := ?_) (d := some 66) rfl (by rfl) (by as_aux_lemma => kernel_rfl) (by as_aux_lemma => kernel_rfl) (by as_aux_lemma => kernel_rfl) hsh (by decide) (by as_aux_lemma => kernel_rfl) (by intro _ _ _ h; exact h) (by assumption) (Or.inl ⟨by rfl, ?hy⟩) ?_; (case hy => (rintro W ⟨a1, a2⟩; go_simp; (try with_reducible rfl))); clear hsh; intro hsh
        refine wpAnyC_take0 (i := 8) (k := 11) (v := ?_) (d := some 67) rfl (by rfl) (by as_aux_lemma => kernel_rfl) (by as_aux_lemma => kernel_rfl) (by as_aux_lemma => kernel_rfl) hsh (by decide) (by intro _ _ _ h; exact h) (by assumption) (Or.inl ⟨by rfl, ?hy⟩) ?_; (case hy => (intro W _; go_simp; (try with_reducible rfl))); clear hsh; intro hsh
        refine wpAnyC_take0 (i := 9) (k := 11) (v := ?_) (d := some 68) rfl (by rfl) (by as_aux_lemma => kernel_rfl) (by as_aux_lemma => kernel_rfl) (by as_aux_lemma => kernel_rfl) hsh (by decide) (by intro _ _ _ h; exact h) (by assumption) (Or.inl ⟨by rfl, ?hy⟩) ?_; (case hy => (intro W _; go_simp; (try with_reducible rfl))); clear hsh; intro hsh
        refine wpAnyC_take0 (i := 10) (k := 11) (v := ?_) (d := some 69) rfl (by rfl) (by as_aux_lemma => kernel_rfl) (by as_aux_lemma => kernel_rfl) (by as_aux_lemma => kernel_rfl) hsh (by decide) (by intro _ _ _ h; exact h) (by assumption) (Or.inl ⟨by rfl, ?hy⟩) ?_; (case hy => (intro W _; go_simp; (try with_reducible rfl))); clear hsh; intro hsh
        refine wpAnyC_tail (by as_aux_lemma => kernel_rfl) (by simp) (by as_aux_lemma => kernel_rfl) ?_; simp only [List.drop_succ_cons, List.drop_zero]; clear hsh
        clear HS HS0
        go_simp
        have f0 : V1.frozen? ⟨q, 2, none⟩ = false := block_free H1.out 2
        have g0 : V1.cell? ⟨q, 2, none⟩ = some (.int .i64 ge) := (block_cell H1.out 2).trans rfl
        go_wp2_with (fail)
        obtain ⟨V2, hV2⟩ : ∃ V, (V1.setCell ⟨q, 2, none⟩ (.int .i64 (ge + rv))).drew = V := ⟨_, rfl⟩
        have H2 := hide (show V2.heap[q]? = some (.cells #[.int .i64 gi, (.slice A8 (ps.length + 1) c8), .int .i64 (ge + rv), .int .i64 gw, .int .i64 gf, .int .i64 gl] 44 (0, 0)) from hV2 ▸ block_set H1.out _)
        have C2 := hide (show V2.heap[k]? = some (.cells #[.int .i64 rg, .int .i64 rv, .int .i64 rw_, .int .i64 rf, .int .i64 rl] 60 (0, 0)) from hV2 ▸ block_set_other C1.out _ _ HKQ.out)
        have O2 := hide (show ∀ j o, w8.heap[j]? = some o → j ≠ q → V2.heap[j]? = some o from fun j o e ne => hV2 ▸ block_set_other (O1.out _ _ e ne) _ _ ne)
        have B2 := hide (show Below (w.heap.size + 2) w8 V2 from hV2 ▸ (B1.out.setCell (p := ⟨q, 2, none⟩) HQL.out _).drew)
        rw [hV2]
        clear hV2 f0 g0
        have HS0 := hide (show ∀ U, Below V2.heap.size V2 U → (fun U => U.cell? ⟨q, 3, none⟩ = some (.int .i64 gw) ∧ U.cell? ⟨k, 2, none⟩ = some (.int .i64 rw_)) U from fun U hb => ⟨(block_cell (block_below H2.out hb) 3).trans rfl, (block_cell (block_below C2.out hb) 2).trans rfl⟩)
        refine wp_region_chain (fun U => U.cell? ⟨q, 3, none⟩ = some (.int .i64 gw) ∧ U.cell? ⟨k, 2, none⟩ = some (.int .i64 rw_)) 11 (by as_aux_lemma => kernel_rfl) (N := 12) (by as_aux_lemma => kernel_rfl) ?_; intro hsh
        have HS := HS0.out V2.drew (below_drewN (Below.refl _ _) 1)
        refine wpAnyC_take0 (i := 0) (k := 11) (v := ?_) (d := some 70) rfl (by rfl) (by as_aux_lemma => kernel_rfl) (by as_aux_lemma => kernel_rfl) (by as_aux_lemma => kernel_rfl) hsh (by decide) (by intro _ _ _ h; exact h) (by assumption) (Or.inl ⟨by rfl, ?hy⟩) ?_; (case hy => (intro W _; go_simp; (try with_reducible rfl))); clear hsh; intro hsh
        refine wpAnyC_take0 (i := 1) (k := 11) (v := ?_) (d := some 71) rfl (by rfl) (by as_aux_lemma => kernel_rfl) (by as_aux_lemma => kernel_rfl) (by as_aux_lemma => kernel_rfl) hsh (by decide) (by intro _ _ _ h; exact h) (by assumption) (Or.inl ⟨by rfl, ?hy⟩) ?_; (case hy => (intro W _; go_simp; (try with_reducible rfl))); clear hsh; intro hsh
        refine wpAnyC_take0 (i := 2) (k := 11) (v := ?_) (d := some 72) rfl (by rfl) (by as_aux_lemma => kernel_rfl) (by as_aux_lemma => kernel_rfl) (by as_aux_lemma => kernel_rfl) hsh (by decide) (by intro _ _ _ h; exact h) (by assumption) (Or.inl ⟨by rfl, ?hy⟩) ?_; (case hy => (intro W _; go_simp; (try with_reducible rfl))); clear hsh; intro hsh
        refine wpAnyC_take (i := 3) (k := 11) (f := 40) (v := ?_) (d := some 73) rfl (by rfl) (by as_aux_lemma => kernel_rfl) (by as_aux_lemma => kernel_rfl) (by as_aux_lemma => kernel_rfl) hsh (by decide) (by as_aux_lemma => kernel_rfl) (by intro _ _ _ h; exact h) (by assumption) (Or.inl ⟨by rfl, ?hy⟩) ?_; (case hy => (rintro W ⟨a1, a2⟩; go_simp; (try with_reducible rfl))); clear hsh; intro hsh
        refine wpAnyC_take0 (i := 4) (k := 11) (v := ?_) (d := some 74) rfl (by rfl) (by as_aux_lemma => kernel_rfl) (by as_aux_lemma => kernel_rfl) (by as_aux_lemma => kernel_rfl) hsh (by decide) (by intro _ _ _ h; exact h) (by assumption) (Or.inl ⟨by rfl, ?hy⟩) ?_; (case hy => (intro W _; go_simp; (try with_reducible rfl))); clear hsh; intro hsh
        refine wpAnyC_take0 (i := 5) (k := 11) (v := ?_) (d := some 75) rfl (by rfl) (by as_aux_lemma => kernel_rfl) (by as_aux_lemma => kernel_rfl) (by as_aux_lemma => kernel_rfl) hsh (by decide) (by intro _ _ _ h; exact h) (by assumption) (Or.inl ⟨by rfl, ?hy⟩) ?_; (case hy => (intro W _; go_simp; (try with_reducible rfl))); clear hsh; intro hsh
        refine wpAnyC_take0 (i := 6) (k := 11) (v := ?_) (d := some 76) rfl (by rfl) (by as_aux_lemma => kernel_rfl) (by as_aux_lemma => kernel_rfl) (by as_aux_lemma => kernel_rfl) hsh (by decide) (by intro _ _ _ h; exact h) (by assumption) (Or.inl ⟨by rfl, ?hy⟩) ?_; (case hy => (intro W _; go_simp; (try with_reducible rfl))); clear hsh; intro hsh
        refine wpAnyC_take (i := 7) (k := 11) (f := 40) (v := ?_) (d := some 77) rfl (by rfl) (by as_aux_lemma => kernel_rfl) (by as_aux_lemma => kernel_rfl) (by as_aux_lemma => kernel_rfl) hsh (by decide) (by as_aux_lemma => kernel_rfl) (by intro _ _ _ h; exact h) (by assumption) (Or.inl ⟨by rfl, ?hy⟩) ?_; (case hy => (rintro W ⟨a1, a2⟩; go_simp; (try with_reducible rfl))); clear hsh; intro hsh
        refine wpAnyC_take0 (i := 8) (k := 11) (v := ?_) (d := some 78) rfl (by rfl) (by as_aux_lemma => kernel_rfl) (by as_aux_lemma => kernel_rfl) (by as_aux_lemma => kernel_rfl) hsh (by decide) (by intro _ _ _ h; exact h) (by assumption) (Or.inl ⟨by rfl, ?hy⟩) ?_; (case hy => (intro W _; go_simp; (try with_reducible rfl))); clear hsh; intro hsh
        refine wpAnyC_take0 (i := 9) (k := 11) (v := ?_) (d := some 79) rfl (by rfl) (by as_aux_lemma => kernel_rfl) (by as_aux_lemma => kernel_rfl) (by as_aux_lemma => kernel_rfl) hsh (by decide) (by intro _ _ _ h; exact h) (by assumption) (Or.inl ⟨by rfl, ?hy⟩) ?_; (case hy => (intro W _; go_simp; (try with_reducible rfl))); clear hsh; intro hsh
        refine wpAnyC_take0 (i := 10) (k := 11) (v := ?_) (d := some 80) rfl (by rfl) (by as_aux_lemma => kernel_rfl) (by as_aux_lemma => kernel_rfl) (by as_aux_lemma => kernel_rfl) hsh (by decide) (by intro _ _ _ h; exact h) (by assumption) (Or.inl ⟨by rfl, ?hy⟩) ?_; (case hy => (intro W _; go_simp; (try with_reducible rfl))); clear hsh; intro hsh
        refine wpAnyC_tail (by as_aux_lemma => kernel_rfl) (by simp) (by as_aux_lemma => kernel_rfl) ?_; simp only [List.drop_succ_cons, List.drop_zero]; clear hsh
        clear HS HS0
        go_simp
        have f0 : V2.frozen? ⟨q, 3, none⟩ = false := block_free H2.out 3
        have g0 : V2.cell? ⟨q, 3, none⟩ = some (.int .i64 gw) := (block_cell H2.out 3).trans rfl
        go_wp2_with (fail)
        obtain ⟨V3, hV3⟩ : ∃ V, (V2.setCell ⟨q, 3, none⟩ (.int .i64 (gw + rw_))).drew = V := ⟨_, rfl⟩
        have H3 := hide (show V3.heap[q]? = some (.cells #[.int .i64 gi, (.slice A8 (ps.length + 1) c8), .int .i64 (ge + rv), .int .i64 (gw + rw_), .int .i64 gf, .int .i64 gl] 44 (0, 0)) from hV3 ▸ block_set H2.out _)
        have C3 := hide (show V3.heap[k]? = some (.cells #[.int .i64 rg, .int .i64 rv, .int .i64 rw_, .int .i64 rf, .int .i64 rl] 60 (0, 0)) from hV3 ▸ block_set_other C2.out _ _ HKQ.out)
        have O3 := hide (show ∀ j o, w8.heap[j]? = some o → j ≠ q → V3.heap[j]? = some o from fun j o e ne => hV3 ▸ block_set_other (O2.out _ _ e ne) _ _ ne)
        have B3 := hide (show Below (w.heap.size + 2) w8 V3 from hV3 ▸ (B2.out.setCell (p := ⟨q, 3, none⟩) HQL.out _).drew)
        rw [hV3]
        clear hV3 f0 g0
        have HS0 := hide (show ∀ U, Below V3.heap.size V3 U → (fun U => U.cell? ⟨q, 4, none⟩ = some (.int .i64 gf) ∧ U.cell? ⟨q, 5, none⟩ = some (.int .i64 gl) ∧ U.cell? ⟨k, 3, none⟩ = some (.int .i64 rf) ∧ U.cell? ⟨k, 4, none⟩ = some (.int .i64 rl)) U from fun U hb => ⟨(block_cell (block_below H3.out hb) 4).trans rfl, (block_cell (block_below H3.out hb) 5).trans rfl, (block_cell (block_below C3.out hb) 3).trans rfl, (block_cell (block_below C3.out hb) 4).trans rfl⟩)
        refine wp_region_chain (fun U => U.cell? ⟨q, 4, none⟩ = some (.int .i64 gf) ∧ U.cell? ⟨q, 5, none⟩ = some (.int .i64 gl) ∧ U.cell? ⟨k, 3, none⟩ = some (.int .i64 rf) ∧ U.cell? ⟨k, 4, none⟩ = some (.int .i64 rl)) 20 (by as_aux_lemma => kernel_rfl) (N := 26) (by as_aux_lemma => kernel_rfl) ?_; intro hsh
        have HS := HS0.out V3.drew (below_drewN (Below.refl _ _) 1)
        refine wpAnyC_take0 (i := 0) (k := 20) (v := ?_) (d := some 81) rfl (by rfl) (by as_aux_lemma => kernel_rfl) (by as_aux_lemma => kernel_rfl) (by as_aux_lemma => kernel_rfl) hsh (by decide) (by intro _ _ _ h; exact h) (by assumption) (Or.inl ⟨by rfl, ?hy⟩) ?_; (case hy => (intro W _; go_simp; (try with_reducible rfl))); clear hsh; intro hsh
        refine wpAnyC_take0 (i := 1) (k := 20) (v := ?_) (d := some 82) rfl (by rfl) (by as_aux_lemma => kernel_rfl) (by as_aux_lemma => kernel_rfl) (by as_aux_lemma => kernel_rfl) hsh (by decide) (by intro _ _ _ h; exact h) (by assumption) (Or.inl ⟨by rfl, ?hy⟩) ?_; (case hy => (intro W _; go_simp; (try with_reducible rfl))); clear hsh; intro hsh
        refine wpAnyC_take0 (i := 2) (k := 20) (v := ?_) (d := some 83) rfl (by rfl) (by as_aux_lemma => kernel_rfl) (by as_aux_lemma => kernel_rfl) (by as_aux_lemma => kernel_rfl) hsh (by decide) (by intro _ _ _ h; exact h) (by assumption) (Or.inl ⟨by rfl, ?hy⟩) ?_; (case hy => (intro W _; go_simp; (try with_reducible rfl))); clear hsh; intro hsh
        refine wpAnyC_take0 (i := 3) (k := 20) (v := ?_) (d := some 84) rfl (by rfl) (by as_aux_lemma => kernel_rfl) (by as_aux_lemma => kernel_rfl) (by as_aux_lemma => kernel_rfl) hsh (by decide) (by intro _ _ _ h; exact h) (by assumption) (Or.inl ⟨by rfl, ?hy⟩) ?_; (case hy => (intro W _; go_simp; (try with_reducible rfl))); clear hsh; intro hsh
        refine wpAnyC_take0 (i := 4) (k := 20) (v := ?_) (d := some 85) rfl (by rfl) (by as_aux_lemma => kernel_rfl) (by as_aux_lemma => kernel_rfl) (by as_aux_lemma => kernel_rfl) hsh (by decide) (by intro _ _ _ h; exact h) (by assumption) (Or.inl ⟨by rfl, ?hy⟩) ?_; (case hy => (intro W _; go_simp; (try with_reducible rfl))); clear hsh; intro hsh
        refine wpAnyC_take (i := 5) (k := 20) (f := 40) (v := ?_) (d := some 86) rfl (by rfl) (by as_aux_lemma => kernel_rfl) (by as_aux_lemma => kernel_rfl) (by as_aux_lemma => kernel_rfl) hsh (by decide) (by as_aux_lemma => kernel_rfl) (by intro _ _ _ h; exact h) (by assumption) (Or.inl ⟨by rfl, ?hy⟩) ?_; (case hy => (rintro W ⟨a1, a2, a3, a4⟩; go_simp; (try with_reducible rfl))); clear hsh; intro hsh
        refine wpAnyC_take0 (i := 6) (k := 20) (v := ?_) (d := some 87) rfl (by rfl) (by as_aux_lemma => kernel_rfl) (by as_aux_lemma => kernel_rfl) (by as_aux_lemma => kernel_rfl) hsh (by decide) (by intro _ _ _ h; exact h) (by assumption) (Or.inl ⟨by rfl, ?hy⟩) ?_; (case hy => (intro W _; go_simp; (try with_reducible rfl))); clear hsh; intro hsh
        refine wpAnyC_take0 (i := 7) (k := 20) (v := ?_) (d := some 88) rfl (by rfl) (by as_aux_lemma => kernel_rfl) (by as_aux_lemma => kernel_rfl) (by as_aux_lemma => kernel_rfl) hsh (by decide) (by intro _ _ _ h; exact h) (by assumption) (Or.inl ⟨by rfl, ?hy⟩) ?_; (case hy => (intro W _; go_simp; (try with_reducible rfl))); clear hsh; intro hsh
        refine wpAnyC_take0 (i := 8) (k := 20) (v := ?_) (d := some 89) rfl (by rfl) (by as_aux_lemma => kernel_rfl) (by as_aux_lemma => kernel_rfl) (by as_aux_lemma => kernel_rfl) hsh (by decide) (by intro _ _ _ h; exact h) (by assumption) (Or.inl ⟨by rfl, ?hy⟩) ?_; (case hy => (intro W _; go_simp; (try with_reducible rfl))); clear hsh; intro hsh
        refine wpAnyC_take (i := 9) (k := 20) (f := 40) (v := ?_) (d := some 90) rfl (by rfl) (by as_aux_lemma => kernel_rfl) (by as_aux_lemma => kernel_rfl) (by as_aux_lemma => kernel_rfl) hsh (by decide) (by as_aux_lemma => kernel_rfl) (by intro _ _ _ h; exact h) (by assumption) (Or.inl ⟨by rfl, ?hy⟩) ?_; (case hy => (rintro W ⟨a1, a2, a3, a4⟩; go_simp; (try with_reducible rfl))); clear hsh; intro hsh
        refine wpAnyC_take0 (i := 10) (k := 20) (v := ?_) (d := some 91) rfl (by rfl) (by as_aux_lemma => kernel_rfl) (by as_aux_lemma => kernel_rfl) (by as_aux_lemma => kernel_rfl) hsh (by decide) (by intro _ _ _ h; exact h) (by assumption) (Or.inl ⟨by rfl, ?hy⟩) ?_; (case hy => (intro W _; go_simp; (try with_reducible rfl))); clear hsh; intro hsh
        refine wpAnyC_take0 (i := 11) (k := 20) (v := ?_) (d := some 92) rfl (by rfl) (by as_aux_lemma => kernel_rfl) (by as_aux_lemma => kernel_rfl) (by as_aux_lemma => kernel_rfl) hsh (by decide) (by intro _ _ _ h; exact h) (by assumption) (Or.inl ⟨by rfl, ?hy⟩) ?_; (case hy => (intro W _; go_simp; (try with_reducible rfl))); clear hsh; intro hsh
        refine wpAnyC_take0 (i := 12) (k := 20) (v := ?_) (d := some 93) rfl (by rfl) (by as_aux_lemma => kernel_rfl) (by as_aux_lemma => kernel_rfl) (by as_aux_lemma => kernel_rfl) hsh (by decide) (by intro _ _ _ h; exact h) (by assumption) (Or.inl ⟨by rfl, ?hy⟩) ?_; (case hy => (intro W _; go_simp; (try with_reducible rfl))); clear hsh; intro hsh
        refine wpAnyC_take0 (i := 13) (k := 20) (v := ?_) (d := some 94) rfl (by rfl) (by as_aux_lemma => kernel_rfl) (by as_aux_lemma => kernel_rfl) (by as_aux_lemma => kernel_rfl) hsh (by decide) (by intro _ _ _ h; exact h) (by assumption) (Or.inl ⟨by rfl, ?hy⟩) ?_; (case hy => (intro W _; go_simp; (try with_reducible rfl))); clear hsh; intro hsh
        refine wpAnyC_take (i := 14) (k := 20) (f := 40) (v := ?_) (d := some 95) rfl (by rfl) (by as_aux_lemma => kernel_rfl) (by as_aux_lemma => kernel_rfl) (by as_aux_lemma => kernel_rfl) hsh (by decide) (by as_aux_lemma => kernel_rfl) (by intro _ _ _ h; exact h) (by assumption) (Or.inl ⟨by rfl, ?hy⟩) ?_; (case hy => (rintro W ⟨a1, a2, a3, a4⟩; go_simp; (try with_reducible rfl))); clear hsh; intro hsh
        refine wpAnyC_take0 (i := 15) (k := 20) (v := ?_) (d := some 96) rfl (by rfl) (by as_aux_lemma => kernel_rfl) (by as_aux_lemma => kernel_rfl) (by as_aux_lemma => kernel_rfl) hsh (by decide) (by intro _ _ _ h; exact h) (by assumption) (Or.inl ⟨by rfl, ?hy⟩) ?_; (case hy => (intro W _; go_simp; (try with_reducible rfl))); clear hsh; intro hsh
        refine wpAnyC_take0 (i := 16) (k := 20) (v := ?_) (d := some 97) rfl (by rfl) (by as_aux_lemma => kernel_rfl) (by as_aux_lemma => kernel_rfl) (by as_aux_lemma => kernel_rfl) hsh (by decide) (by intro _ _ _ h; exact h) (by assumption) (Or.inl ⟨by rfl, ?hy⟩) ?_; (case hy => (intro W _; go_simp; (try with_reducible rfl))); clear hsh; intro hsh
        refine wpAnyC_take0 (i := 17) (k := 20) (v := ?_) (d := some 98) rfl (by rfl) (by as_aux_lemma => kernel_rfl) (by as_aux_lemma => kernel_rfl) (by as_aux_lemma => kernel_rfl) hsh (by decide) (by intro _ _ _ h; exact h) (by assumption) (Or.inl ⟨by rfl, ?hy⟩) ?_; (case hy => (intro W _; go_simp; (try with_reducible rfl))); clear hsh; intro hsh
        refine wpAnyC_take (i := 18) (k := 20) (f := 40) (v := ?_) (d := some 99) rfl (by rfl) (by as_aux_lemma => kernel_rfl) (by as_aux_lemma => kernel_rfl) (by as_aux_lemma => kernel_rfl) hsh (by decide) (by as_aux_lemma => kernel_rfl) (by intro _ _ _ h; exact h) (by assumption) (Or.inl ⟨by rfl, ?hy⟩) ?_; (case hy => (rintro W ⟨a1, a2, a3, a4⟩; go_simp; (try with_reducible rfl))); clear hsh; intro hsh
        refine wpAnyC_take0 (i := 19) (k := 20) (v := ?_) (d := some 100) rfl (by rfl) (by as_aux_lemma => kernel_rfl) (by as_aux_lemma => kernel_rfl) (by as_aux_lemma => kernel_rfl) hsh (by decide) (by intro _ _ _ h; exact h) (by assumption) (Or.inl ⟨by rfl, ?hy⟩) ?_; (case hy => (intro W _; go_simp; (try with_reducible rfl))); clear hsh; intro hsh
        refine wpAnyC_tail (by as_aux_lemma => kernel_rfl) (by simp) (by as_aux_lemma => kernel_rfl) ?_; simp only [List.drop_succ_cons, List.drop_zero]; clear hsh
        clear HS HS0
        go_simp
        have f0 : V3.frozen? ⟨q, 4, none⟩ = false := block_free H3.out 4
        have g0 : V3.cell? ⟨q, 4, none⟩ = some (.int .i64 gf) := (block_cell H3.out 4).trans rfl
        have f1 : V3.frozen? ⟨q, 5, none⟩ = false := block_free H3.out 5
        have g1 : V3.cell? ⟨q, 5, none⟩ = some (.int .i64 gl) := (block_cell H3.out 5).trans rfl
        go_wp2_with (fail)
        obtain ⟨V4, hV4⟩ : ∃ V, ((V3.setCell ⟨q, 4, none⟩ (.int .i64 (min gf rf))).setCell ⟨q, 5, none⟩ (.int .i64 (max gl rl))).drew = V := ⟨_, rfl⟩
        have H4 := hide (show V4.heap[q]? = some (.cells #[.int .i64 gi, .slice A8 (ps.length + 1) c8, .int .i64 (ge + rv), .int .i64 (gw + rw_), .int .i64 (min gf rf), .int .i64 (max gl rl)] 44 (0, 0)) from hV4 ▸ block_set (block_set H3.out _) _)
        have O4 := hide (show ∀ j o, w8.heap[j]? = some o → j ≠ q → V4.heap[j]? = some o from fun j o e ne => hV4 ▸ block_set_other (block_set_other (O3.out _ _ e ne) _ _ ne) _ _ ne)
        have B4 := hide (show Below (w.heap.size + 2) w8 V4 from hV4 ▸ ((B3.out.setCell (p := ⟨q, 4, none⟩) HQL.out _).setCell (p := ⟨q, 5, none⟩) HQL.out _).drew)
        rw [hV4]
        clear hV4 f0 g0 f1 g1
        have HREL := hide (gr_rel (l := l) (m := m) (x := x) (R := w.heap.size + 1) (r := ⟨rp, rg, rv, rw_, rf, rl⟩) HM.out HI.out HGV.out HQ.out HRP.out HO8.out (by rw [HGD.out]; exact HOWN.out) HAT.out HG8.out HZX.out O4.out B4.out (by rw [HGD.out]; exact H4.out) HRG.out HBX.out HMB.out rfl HGS.out HF.out HSUB.out HR0.out HN.out)
        go_roundw
        case rel => exact HREL.out.2
        case measure => rw [HREL.out.1.left_eq, HRG0.out.left_eq]; exact hlt
      · have HOW := hide HM1.out.own
        have HMP := hide (HM1.out.map.out rg hI)
        have hn1 : n < 1000 := by omega
        have HNN := hide (show n + 1 ≤ m.length + 1 by omega)
        have HNI := hide hI
        have hml : m.length < 1000 := by omega
        have HCP := HCr
        have HB0 := HB1
        clear hI hroom hn hr0 hr1 HCr HB1
        go_wp2_with (first
          | (at_lookup; refine wpList_lookup_none _ rfl _ _ 74 rfl 3 75 law_i Tryz.underlying74 (zero_g _) w.heap.size n D rfl HOW.out (.int .i64 rg) _ rfl (key_i HGR.out) HMP.out ?_))
        have HS0 := hide (show ∀ U, Below w1.heap.size w1 U → (fun U => U.cell? ⟨k, 0, none⟩ = some (.int .i64 rg) ∧ U.cell? ⟨k, 3, none⟩ = some (.int .i64 rf) ∧ U.cell? ⟨k, 4, none⟩ = some (.int .i64 rl)) U from fun U hb => ⟨(block_cell (block_below HCP.out hb) 0).trans rfl, (block_cell (block_below HCP.out hb) 3).trans rfl, (block_cell (block_below HCP.out hb) 4).trans rfl⟩)
        refine wp_region_chain (fun U => U.cell? ⟨k, 0, none⟩ = some (.int .i64 rg) ∧ U.cell? ⟨k, 3, none⟩ = some (.int .i64 rf) ∧ U.cell? ⟨k, 4, none⟩ = some (.int .i64 rl)) 13 (by as_aux_lemma => kernel_rfl) (N := 15) (by as_aux_lemma => kernel_rfl) ?_; intro hsh
        have HS := HS0.out w1.drew (below_drewN (Below.refl _ _) 1)
        refine wpAnyC_take0 (i := 0) (k := 13) (v := ?_) (d := some 29) rfl (by rfl) (by as_aux_lemma => kernel_rfl) (by as_aux_lemma => kernel_rfl) (by as_aux_lemma => kernel_rfl) hsh (by decide) (by intro _ _ _ h; exact h) (by assumption) (Or.inl ⟨by rfl, ?hy⟩) ?_; (case hy => (intro W _; go_simp; (try with_reducible rfl))); clear hsh; intro hsh
        refine wpAnyC_take0 (i := 1) (k := 13) (v := ?_) (d := some 30) rfl (by rfl) (by as_aux_lemma => kernel_rfl) (by as_aux_lemma => kernel_rfl) (by as_aux_lemma => kernel_rfl) hsh (by decide) (by intro _ _ _ h; exact h) (by assumption) (Or.inl ⟨by rfl, ?hy⟩) ?_; (case hy => (intro W _; go_simp; (try with_reducible rfl))); clear hsh; intro hsh
        refine wpAnyC_take0 (i := 2) (k := 13) (v := ?_) (d := some 31) rfl (by rfl) (by as_aux_lemma => kernel_rfl) (by as_aux_lemma => kernel_rfl) (by as_aux_lemma => kernel_rfl) hsh (by decide) (by intro _ _ _ h; exact h) (by assumption) (Or.inl ⟨by rfl, ?hy⟩) ?_; (case hy => (intro W _; go_simp; (try with_reducible rfl))); clear hsh; intro hsh
        refine wpAnyC_take (i := 3) (k := 13) (f := 40) (v := ?_) (d := some 32) rfl (by rfl) (by as_aux_lemma => kernel_rfl) (by as_aux_lemma => kernel_rfl) (by as_aux_lemma => kernel_rfl) hsh (by decide) (by as_aux_lemma => kernel_rfl) (by intro _ _ _ h; exact h) (by assumption) (Or.inl ⟨by rfl, ?hy⟩) ?_; (case hy => (rintro W ⟨a1, a2, a3⟩; go_simp; (try with_reducible rfl))); clear hsh; intro hsh
        refine wpAnyC_take0 (i := 4) (k := 13) (v := ?_) (d := some 33) rfl (by rfl) (by as_aux_lemma => kernel_rfl) (by as_aux_lemma => kernel_rfl) (by as_aux_lemma => kernel_rfl) hsh (by decide) (by intro _ _ _ h; exact h) (by assumption) (Or.inl ⟨by rfl, ?hy⟩) ?_; (case hy => (intro W _; go_simp; (try with_reducible rfl))); clear hsh; intro hsh
        refine wpAnyC_take0 (i := 5) (k := 13) (v := ?_) (d := some 34) rfl (by rfl) (by as_aux_lemma => kernel_rfl) (by as_aux_lemma => kernel_rfl) (by as_aux_lemma => kernel_rfl) hsh (by decide) (by intro _ _ _ h; exact h) (by assumption) (Or.inl ⟨by rfl, ?hy⟩) ?_; (case hy => (intro W _; go_simp; (try with_reducible rfl))); clear hsh; intro hsh
        refine wpAnyC_take0 (i := 6) (k := 13) (v := ?_) (d := some 35) rfl (by rfl) (by as_aux_lemma => kernel_rfl) (by as_aux_lemma => kernel_rfl) (by as_aux_lemma => kernel_rfl) hsh (by decide) (by intro _ _ _ h; exact h) (by assumption) (Or.inl ⟨by rfl, ?hy⟩) ?_; (case hy => (intro W _; go_simp; (try with_reducible rfl))); clear hsh; intro hsh
        refine wpAnyC_take (i := 7) (k := 13) (f := 40) (v := ?_) (d := some 36) rfl (by rfl) (by as_aux_lemma => kernel_rfl) (by as_aux_lemma => kernel_rfl) (by as_aux_lemma => kernel_rfl) hsh (by decide) (by as_aux_lemma => kernel_rfl) (by intro _ _ _ h; exact h) (by assumption) (Or.inl ⟨by rfl, ?hy⟩) ?_; (case hy => (rintro W ⟨a1, a2, a3⟩; go_simp; (try with_reducible rfl))); clear hsh; intro hsh
        refine wpAnyC_take0 (i := 8) (k := 13) (v := ?_) (d := some 37) rfl (by rfl) (by as_aux_lemma => kernel_rfl) (by as_aux_lemma => kernel_rfl) (by as_aux_lemma => kernel_rfl) hsh (by decide) (by intro _ _ _ h; exact h) (by assumption) (Or.inl ⟨by rfl, ?hy⟩) ?_; (case hy => (intro W _; go_simp; (try with_reducible rfl))); clear hsh; intro hsh
        refine wpAnyC_take0 (i := 9) (k := 13) (v := ?_) (d := some 38) rfl (by rfl) (by as_aux_lemma => kernel_rfl) (by as_aux_lemma => kernel_rfl) (by as_aux_lemma => kernel_rfl) hsh (by decide) (by intro _ _ _ h; exact h) (by assumption) (Or.inl ⟨by rfl, ?hy⟩) ?_; (case hy => (intro W _; go_simp; (try with_reducible rfl))); clear hsh; intro hsh
        refine wpAnyC_take0 (i := 10) (k := 13) (v := ?_) (d := some 39) rfl (by rfl) (by as_aux_lemma => kernel_rfl) (by as_aux_lemma => kernel_rfl) (by as_aux_lemma => kernel_rfl) hsh (by decide) (by intro _ _ _ h; exact h) (by assumption) (Or.inl ⟨by rfl, ?hy⟩) ?_; (case hy => (intro W _; go_simp; (try with_reducible rfl))); clear hsh; intro hsh
        refine wpAnyC_take (i := 11) (k := 13) (f := 40) (v := ?_) (d := some 40) rfl (by rfl) (by as_aux_lemma => kernel_rfl) (by as_aux_lemma => kernel_rfl) (by as_aux_lemma => kernel_rfl) hsh (by decide) (by as_aux_lemma => kernel_rfl) (by intro _ _ _ h; exact h) (by assumption) (Or.inl ⟨by rfl, ?hy⟩) ?_; (case hy => (rintro W ⟨a1, a2, a3⟩; go_simp; (try with_reducible rfl))); clear hsh; intro hsh
        refine wpAnyC_take0 (i := 12) (k := 13) (v := ?_) (d := some 41) rfl (by rfl) (by as_aux_lemma => kernel_rfl) (by as_aux_lemma => kernel_rfl) (by as_aux_lemma => kernel_rfl) hsh (by decide) (by intro _ _ _ h; exact h) (by assumption) (Or.inl ⟨by rfl, ?hy⟩) ?_; (case hy => (intro W _; go_simp; (try with_reducible rfl))); clear hsh; intro hsh
        refine wpAnyC_tail (by as_aux_lemma => kernel_rfl) (by simp) (by as_aux_lemma => kernel_rfl) ?_; simp only [List.drop_succ_cons, List.drop_zero]; clear hsh
        clear HS HS0
        go_simp
        go_wp2_with (first
          | (at_mapUpdate; (refine wpList_mapUpdate_own _ rfl (.tmp 43) (.tmp 47) (.tmp 48) 74 rfl 3 75 law_i Tryz.underlying74 ptE w.heap.size n D rfl (HOW.out.alloc _) (by unfold maxLen; omega) (.int .i64 rg) (.pointer (some ⟨w1.heap.size, 0, none⟩)) _ rfl rfl (key_i HGR.out) _ [] (ptE_mk (some w1.heap.size)) ?_; intro w5 hown5 hg5; obtain ⟨wA, hwA⟩ : ∃ wA, (w1.alloc (.cells #[.int .i64 rg, .slice none 0 0, .int .i64 0, .int .i64 0, .int .i64 rf, .int .i64 rl] 44)).drew = wA := ⟨_, rfl⟩; rw [hwA] at hg5; have hA0 : Below w1.heap.size w1 wA := hwA ▸ ((Below.refl _ _).alloc (Nat.le_refl _) _).drew; have hA1 : wA.heap[w1.heap.size]? = some (.cells #[.int .i64 rg, .slice none 0 0, .int .i64 0, .int .i64 0, .int .i64 rf, .int .i64 rl] 44 (0, 0)) := hwA ▸ heap_alloc_new w1 _; clear hwA; have hzA := hA0.size; have hz5 := hg5.size; have hst : ∀ j o, w1.heap[j]? = some o → j ≠ w.heap.size → w5.heap[j]? = some o := fun j o e ne => (hg5.block j (by have := lt_of_block e; omega) (fun e2 => ne (by cases e2; rfl))).trans (block_below e hA0); have hnew : w5.heap[w1.heap.size]? = some (.cells #[.int .i64 rg, .slice none 0 0, .int .i64 0, .int .i64 0, .int .i64 rf, .int .i64 rl] 44 (0, 0)) := (hg5.block _ (lt_of_block hA1) (fun e2 => by have := Option.some.inj e2; omega)).trans hA1; have hC5 := hst k _ HCP.out (by omega); have hM5 := HM1.out.new HNI.out (zerG ⟨rp, rg, rv, rw_, rf, rl⟩) rfl rfl (Nat.le_refl _) hz1 hnew hown5 hst law_i; have hIF := HIN.out.new (r := ⟨rp, rg, rv, rw_, rf, rl⟩) HNI.out; have HRG := hide ((HRG1.out.kept (grown_b hA0) (by simp) (by simp)).kept hg5 (by have := HMB.out; simp; omega) (by simp)); have HBX := hide ((HB0.out.trans (hA0.mono (by omega))).grown hg5 (by omega) (fun j hj => by cases hj; exact Nat.le_refl _)); have HZX := hide (show w.heap.size + 2 ≤ w5.heap.size by omega); obtain ⟨hI, hG9, hq9⟩ : rg ∈ is ++ [rg] ∧ upd gd rg (zerG ⟨rp, rg, rv, rw_, rf, rl⟩) rg = ⟨rg, [], 0, 0, rf, rl⟩ ∧ upd gk rg w1.heap.size rg = w1.heap.size := ⟨by simp, upd_same _ _ _, upd_same _ _ _⟩; generalize is ++ [rg] = is2 at hM5 hIF hI; generalize upd gd rg (zerG ⟨rp, rg, rv, rw_, rf, rl⟩) = gd2 at hM5 hIF hG9; generalize upd gk rg w1.heap.size = gk2 at hM5 hq9; generalize upd gv rg (.slice none 0 0) = gv2 at hM5; generalize D.put _ _ = D2 at hM5; obtain ⟨q, hq⟩ : ∃ q, w1.heap.size = q := ⟨_, rfl⟩; rw [hq] at hq9 hz1 ⊢; have hHG := hM5.cell rg hI; have hHR := hM5.row rg hI; have hsq := (hM5.rsep hI hI).1; obtain ⟨A, cc, hv⟩ := own_sl hHR; obtain ⟨G, hG⟩ : ∃ G, gd2 rg = G := ⟨_, rfl⟩; have hGr : (0 ≤ G.ev ∧ G.ev ≤ 1000000000) ∧ (0 ≤ G.wt ∧ G.wt ≤ 1000000000000000) ∧ G.ps.length = 0 := (by rw [← hG, hG9]; simp); clear hG9; rw [hG] at hv; have HGD := hide hG; have HGV := hide hv; rw [hG, hv, hq9] at hHG; rw [hG, hv] at hHR; rw [hv, hq9] at hsq; have HQ := hide hq9; have HQL := hide hz1; obtain ⟨gi, ps, ge, gw, gf, gl⟩ := G; simp only at hGr hHR hsq HGV; obtain ⟨hr01, hr02, hpl⟩ := hGr; have HPL := hide (show ps.length + 1 ≤ 1000 by omega); have HR := hide hHR; have HSQ := hide hsq; have HSC := hide (own_other' hHR hC5 (by decide)); have HKQ := hide (show k ≠ q by omega); have HC := hide hC5; have HG := hide (show w5.heap[q]? = some (.cells #[.int .i64 gi, .slice A ps.length cc, .int .i64 ge, .int .i64 gw, .int .i64 gf, .int .i64 gl] 44 (0, 0)) from hHG); have g1 : w5.cell? ⟨q, 1, none⟩ = some (.slice A ps.length cc) := (block_cell HG.out 1).trans rfl; have HM := hide hM5; have HF := hide hIF; have HN := HNN; have HI := hide hI; clear hv hG hq hHG hHR hsq hI hM5 hIF hst hnew hC5 hg5 hown5 hA0 hA1 hzA hz5 hz1 hq9 hpl))
          | (at_builtin; (refine wpList_append_own_at _ rfl (.tmp 53) (.tmp 55) 30 rfl (w.heap.size + 2) 9 i0 (.string ByteArray.empty) 1 16 Tryz.underlying30 hi0 iz0 iz1 iz2 rfl (by decide) (.slice A ps.length cc) ps.length (ps.map encStr) rfl (HR.out.alloc _) ⟨w5.heap.size, 0, none⟩ 1 1 [.string x] rfl rfl (cell_one_new _ _ _) (by intro u hu; simp at hu; subst hu; rfl) (by have := HPL.out; unfold maxLen; omega) (by have := HPL.out; omega) (by have := HZX.out; simp; omega) ?_; intro v8 w8 hown8 hg8 _ hat8; obtain ⟨A8, c8, rfl⟩ := own_sl hown8; have ho8 : ∀ j o, w5.heap[j]? = some o → (Value.slice A ps.length cc).ownBlock ≠ some j → w8.heap[j]? = some o := fun j o e ne => (hg8.block j (by have := lt_of_block e; simp; omega) (fun e2 => ne e2.symm)).trans (block_below e ((Below.refl _ _).alloc (Nat.le_refl _) _)); have HO8 := hide ho8; have HOWN := hide hown8; have HAT := hide hat8; have HG8 := hide hg8; have HC8 := hide (ho8 _ _ HC.out HSC.out); have HGG := hide (ho8 _ _ HG.out HSQ.out); have g1 : w8.cell? ⟨q, 1, none⟩ = some (.slice A ps.length cc) := (block_cell HGG.out 1).trans rfl; have f1 := block_free HGG.out 1; clear hown8 hat8 hg8 ho8)))
        obtain ⟨V1, hV1⟩ : ∃ V, (w8.setCell ⟨q, 1, none⟩ (.slice A8 (ps.length + 1) c8)) = V := ⟨_, rfl⟩
        have H1 := hide (show V1.heap[q]? = some (.cells #[.int .i64 gi, (.slice A8 (ps.length + 1) c8), .int .i64 ge, .int .i64 gw, .int .i64 gf, .int .i64 gl] 44 (0, 0)) from hV1 ▸ block_set HGG.out (.slice A8 (ps.length + 1) c8))
        have C1 := hide (show V1.heap[k]? = some (.cells #[.int .i64 rg, .int .i64 rv, .int .i64 rw_, .int .i64 rf, .int .i64 rl] 60 (0, 0)) from hV1 ▸ block_set_other HC8.out _ _ HKQ.out)
        have O1 := hide (show ∀ j o, w8.heap[j]? = some o → j ≠ q → V1.heap[j]? = some o from fun j o e ne => hV1 ▸ block_set_other e _ _ ne)
        have B1 := hide (show Below (w.heap.size + 2) w8 V1 from hV1 ▸ (Below.refl _ _).setCell (p := ⟨q, 1, none⟩) HQL.out _)
        rw [hV1]
        clear hV1 g1 f1
        have HS0 := hide (show ∀ U, Below V1.heap.size V1 U → (fun U => U.cell? ⟨q, 2, none⟩ = some (.int .i64 ge) ∧ U.cell? ⟨k, 1, none⟩ = some (.int .i64 rv)) U from fun U hb => ⟨(block_cell (block_below H1.out hb) 2).trans rfl, (block_cell (block_below C1.out hb) 1).trans rfl⟩)
        refine wp_region_chain (fun U => U.cell? ⟨q, 2, none⟩ = some (.int .i64 ge) ∧ U.cell? ⟨k, 1, none⟩ = some (.int .i64 rv)) 11 (by as_aux_lemma => kernel_rfl) (N := 12) (by as_aux_lemma => kernel_rfl) ?_; intro hsh
        have HS := HS0.out V1.drew (below_drewN (Below.refl _ _) 1)
        refine wpAnyC_take0 (i := 0) (k := 11) (v := ?_) (d := some 59) rfl (by rfl) (by as_aux_lemma => kernel_rfl) (by as_aux_lemma => kernel_rfl) (by as_aux_lemma => kernel_rfl) hsh (by decide) (by intro _ _ _ h; exact h) (by assumption) (Or.inl ⟨by rfl, ?hy⟩) ?_; (case hy => (intro W _; go_simp; (try with_reducible rfl))); clear hsh; intro hsh
        refine wpAnyC_take0 (i := 1) (k := 11) (v := ?_) (d := some 60) rfl (by rfl) (by as_aux_lemma => kernel_rfl) (by as_aux_lemma => kernel_rfl) (by as_aux_lemma => kernel_rfl) hsh (by decide) (by intro _ _ _ h; exact h) (by assumption) (Or.inl ⟨by rfl, ?hy⟩) ?_; (case hy => (intro W _; go_simp; (try with_reducible rfl))); clear hsh; intro hsh
        refine wpAnyC_take0 (i := 2) (k := 11) (v := ?_) (d := some 61) rfl (by rfl) (by as_aux_lemma => kernel_rfl) (by as_aux_lemma => kernel_rfl) (by as_aux_lemma => kernel_rfl) hsh (by decide) (by intro _ _ _ h; exact h) (by assumption) (Or.inl ⟨by rfl, ?hy⟩) ?_; (case hy => (intro W _; go_simp; (try with_reducible rfl))); clear hsh; intro hsh
        refine wpAnyC_take (i := 3) (k := 11) (f := 40) (v := ?_) (d := some 62) rfl (by rfl) (by as_aux_lemma => kernel_rfl) (by as_aux_lemma => kernel_rfl) (by as_aux_lemma => kernel_rfl) hsh (by decide) (by as_aux_lemma => kernel_rfl) (by intro _ _ _ h; exact h) (by assumption) (Or.inl ⟨by rfl, ?hy⟩) ?_; (case hy => (rintro W ⟨a1, a2⟩; go_simp; (try with_reducible rfl))); clear hsh; intro hsh
        refine wpAnyC_take0 (i := 4) (k := 11) (v := ?_) (d := some 63) rfl (by rfl) (by as_aux_lemma => kernel_rfl) (by as_aux_lemma => kernel_rfl) (by as_aux_lemma => kernel_rfl) hsh (by decide) (by intro _ _ _ h; exact h) (by assumption) (Or.inl ⟨by rfl, ?hy⟩) ?_; (case hy => (intro W _; go_simp; (try with_reducible rfl))); clear hsh; intro hsh
        refine wpAnyC_take0 (i := 5) (k := 11) (v := ?_) (d := some 64) rfl (by rfl) (by as_aux_lemma => kernel_rfl) (by as_aux_lemma => kernel_rfl) (by as_aux_lemma => kernel_rfl) hsh (by decide) (by intro _ _ _ h; exact h) (by assumption) (Or.inl ⟨by rfl, ?hy⟩) ?_; (case hy => (intro W _; go_simp; (try with_reducible rfl))); clear hsh; intro hsh
        refine wpAnyC_take0 (i := 6) (k := 11) (v := ?_) (d := some 65) rfl (by rfl) (by as_aux_lemma => kernel_rfl) (by as_aux_lemma => kernel_rfl) (by as_aux_lemma => kernel_rfl) hsh (by decide) (by intro _ _ _ h; exact h) (by assumption) (Or.inl ⟨by rfl, ?hy⟩) ?_; (case hy => (intro W _; go_simp; (try with_reducible rfl))); clear hsh; intro hsh
        refine wpAnyC_take (i := 7) (k := 11) (f := 40) (v := ?_) (d := some 66) rfl (by rfl) (by as_aux_lemma => kernel_rfl) (by as_aux_lemma => kernel_rfl) (by as_aux_lemma => kernel_rfl) hsh (by decide) (by as_aux_lemma => kernel_rfl) (by intro _ _ _ h; exact h) (by assumption) (Or.inl ⟨by rfl, ?hy⟩) ?_; (case hy => (rintro W ⟨a1, a2⟩; go_simp; (try with_reducible rfl))); clear hsh; intro hsh
        refine wpAnyC_take0 (i := 8) (k := 11) (v := ?_) (d := some 67) rfl (by rfl) (by as_aux_lemma => kernel_rfl) (by as_aux_lemma => kernel_rfl) (by as_aux_lemma => kernel_rfl) hsh (by decide) (by intro _ _ _ h; exact h) (by assumption) (Or.inl ⟨by rfl, ?hy⟩) ?_; (case hy => (intro W _; go_simp; (try with_reducible rfl))); clear hsh; intro hsh
        refine wpAnyC_take0 (i := 9) (k := 11) (v := ?_) (d := some 68) rfl (by rfl) (by as_aux_lemma => kernel_rfl) (by as_aux_lemma => kernel_rfl) (by as_aux_lemma => kernel_rfl) hsh (by decide) (by intro _ _ _ h; exact h) (by assumption) (Or.inl ⟨by rfl, ?hy⟩) ?_; (case hy => (intro W _; go_simp; (try with_reducible rfl))); clear hsh; intro hsh
        refine wpAnyC_take0 (i := 10) (k := 11) (v := ?_) (d := some 69) rfl (by rfl) (by as_aux_lemma => kernel_rfl) (by as_aux_lemma => kernel_rfl) (by as_aux_lemma => kernel_rfl) hsh (by decide) (by intro _ _ _ h; exact h) (by assumption) (Or.inl ⟨by rfl, ?hy⟩) ?_; (case hy => (intro W _; go_simp; (try with_reducible rfl))); clear hsh; intro hsh
        refine wpAnyC_tail (by as_aux_lemma => kernel_rfl) (by simp) (by as_aux_lemma => kernel_rfl) ?_; simp only [List.drop_succ_cons, List.drop_zero]; clear hsh
        clear HS HS0
        go_simp
        have f0 : V1.frozen? ⟨q, 2, none⟩ = false := block_free H1.out 2
        have g0 : V1.cell? ⟨q, 2, none⟩ = some (.int .i64 ge) := (block_cell H1.out 2).trans rfl
        go_wp2_with (fail)
        obtain ⟨V2, hV2⟩ : ∃ V, (V1.setCell ⟨q, 2, none⟩ (.int .i64 (ge + rv))).drew = V := ⟨_, rfl⟩
        have H2 := hide (show V2.heap[q]? = some (.cells #[.int .i64 gi, (.slice A8 (ps.length + 1) c8), .int .i64 (ge + rv), .int .i64 gw, .int .i64 gf, .int .i64 gl] 44 (0, 0)) from hV2 ▸ block_set H1.out _)
        have C2 := hide (show V2.heap[k]? = some (.cells #[.int .i64 rg, .int .i64 rv, .int .i64 rw_, .int .i64 rf, .int .i64 rl] 60 (0, 0)) from hV2 ▸ block_set_other C1.out _ _ HKQ.out)
        have O2 := hide (show ∀ j o, w8.heap[j]? = some o → j ≠ q → V2.heap[j]? = some o from fun j o e ne => hV2 ▸ block_set_other (O1.out _ _ e ne) _ _ ne)
        have B2 := hide (show Below (w.heap.size + 2) w8 V2 from hV2 ▸ (B1.out.setCell (p := ⟨q, 2, none⟩) HQL.out _).drew)
        rw [hV2]
        clear hV2 f0 g0
        have HS0 := hide (show ∀ U, Below V2.heap.size V2 U → (fun U => U.cell? ⟨q, 3, none⟩ = some (.int .i64 gw) ∧ U.cell? ⟨k, 2, none⟩ = some (.int .i64 rw_)) U from fun U hb => ⟨(block_cell (block_below H2.out hb) 3).trans rfl, (block_cell (block_below C2.out hb) 2).trans rfl⟩)
        refine wp_region_chain (fun U => U.cell? ⟨q, 3, none⟩ = some (.int .i64 gw) ∧ U.cell? ⟨k, 2, none⟩ = some (.int .i64 rw_)) 11 (by as_aux_lemma => kernel_rfl) (N := 12) (by as_aux_lemma => kernel_rfl) ?_; intro hsh
        have HS := HS0.out V2.drew (below_drewN (Below.refl _ _) 1)
        refine wpAnyC_take0 (i := 0) (k := 11) (v := ?_) (d := some 70) rfl (by rfl) (by as_aux_lemma => kernel_rfl) (by as_aux_lemma => kernel_rfl) (by as_aux_lemma => kernel_rfl) hsh (by decide) (by intro _ _ _ h; exact h) (by assumption) (Or.inl ⟨by rfl, ?hy⟩) ?_; (case hy => (intro W _; go_simp; (try with_reducible rfl))); clear hsh; intro hsh
        refine wpAnyC_take0 (i := 1) (k := 11) (v := ?_) (d := some 71) rfl (by rfl) (by as_aux_lemma => kernel_rfl) (by as_aux_lemma => kernel_rfl) (by as_aux_lemma => kernel_rfl) hsh (by decide) (by intro _ _ _ h; exact h) (by assumption) (Or.inl ⟨by rfl, ?hy⟩) ?_; (case hy => (intro W _; go_simp; (try with_reducible rfl))); clear hsh; intro hsh
        refine wpAnyC_take0 (i := 2) (k := 11) (v := ?_) (d := some 72) rfl (by rfl) (by as_aux_lemma => kernel_rfl) (by as_aux_lemma => kernel_rfl) (by as_aux_lemma => kernel_rfl) hsh (by decide) (by intro _ _ _ h; exact h) (by assumption) (Or.inl ⟨by rfl, ?hy⟩) ?_; (case hy => (intro W _; go_simp; (try with_reducible rfl))); clear hsh; intro hsh
        refine wpAnyC_take (i := 3) (k := 11) (f := 40) (v := ?_) (d := some 73) rfl (by rfl) (by as_aux_lemma => kernel_rfl) (by as_aux_lemma => kernel_rfl) (by as_aux_lemma => kernel_rfl) hsh (by decide) (by as_aux_lemma => kernel_rfl) (by intro _ _ _ h; exact h) (by assumption) (Or.inl ⟨by rfl, ?hy⟩) ?_; (case hy => (rintro W ⟨a1, a2⟩; go_simp; (try with_reducible rfl))); clear hsh; intro hsh
        refine wpAnyC_take0 (i := 4) (k := 11) (v := ?_) (d := some 74) rfl (by rfl) (by as_aux_lemma => kernel_rfl) (by as_aux_lemma => kernel_rfl) (by as_aux_lemma => kernel_rfl) hsh (by decide) (by intro _ _ _ h; exact h) (by assumption) (Or.inl ⟨by rfl, ?hy⟩) ?_; (case hy => (intro W _; go_simp; (try with_reducible rfl))); clear hsh; intro hsh
        refine wpAnyC_take0 (i := 5) (k := 11) (v := ?_) (d := some 75) rfl (by rfl) (by as_aux_lemma => kernel_rfl) (by as_aux_lemma => kernel_rfl) (by as_aux_lemma => kernel_rfl) hsh (by decide) (by intro _ _ _ h; exact h) (by assumption) (Or.inl ⟨by rfl, ?hy⟩) ?_; (case hy => (intro W _; go_simp; (try with_reducible rfl))); clear hsh; intro hsh
        refine wpAnyC_take0 (i := 6) (k := 11) (v := ?_) (d := some 76) rfl (by rfl) (by as_aux_lemma => kernel_rfl) (by as_aux_lemma => kernel_rfl) (by as_aux_lemma => kernel_rfl) hsh (by decide) (by intro _ _ _ h; exact h) (by assumption) (Or.inl ⟨by rfl, ?hy⟩) ?_; (case hy => (intro W _; go_simp; (try with_reducible rfl))); clear hsh; intro hsh
        refine wpAnyC_take (i := 7) (k := 11) (f := 40) (v := ?_) (d := some 77) rfl (by rfl) (by as_aux_lemma => kernel_rfl) (by as_aux_lemma => kernel_rfl) (by as_aux_lemma => kernel_rfl) hsh (by decide) (by as_aux_lemma => kernel_rfl) (by intro _ _ _ h; exact h) (by assumption) (Or.inl ⟨by rfl, ?hy⟩) ?_; (case hy => (rintro W ⟨a1, a2⟩; go_simp; (try with_reducible rfl))); clear hsh; intro hsh
        refine wpAnyC_take0 (i := 8) (k := 11) (v := ?_) (d := some 78) rfl (by rfl) (by as_aux_lemma => kernel_rfl) (by as_aux_lemma => kernel_rfl) (by as_aux_lemma => kernel_rfl) hsh (by decide) (by intro _ _ _ h; exact h) (by assumption) (Or.inl ⟨by rfl, ?hy⟩) ?_; (case hy => (intro W _; go_simp; (try with_reducible rfl))); clear hsh; intro hsh
        refine wpAnyC_take0 (i := 9) (k := 11) (v := ?_) (d := some 79) rfl (by rfl) (by as_aux_lemma => kernel_rfl) (by as_aux_lemma => kernel_rfl) (by as_aux_lemma => kernel_rfl) hsh (by decide) (by intro _ _ _ h; exact h) (by assumption) (Or.inl ⟨by rfl, ?hy⟩) ?_; (case hy => (intro W _; go_simp; (try with_reducible rfl))); clear hsh; intro hsh
        refine wpAnyC_take0 (i := 10) (k := 11) (v := ?_) (d := some 80) rfl (by rfl) (by as_aux_lemma => kernel_rfl) (by as_aux_lemma => kernel_rfl) (by as_aux_lemma => kernel_rfl) hsh (by decide) (by intro _ _ _ h; exact h) (by assumption) (Or.inl ⟨by rfl, ?hy⟩) ?_; (case hy => (intro W _; go_simp; (try with_reducible rfl))); clear hsh; intro hsh
        refine wpAnyC_tail (by as_aux_lemma => kernel_rfl) (by simp) (by as_aux_lemma => kernel_rfl) ?_; simp only [List.drop_succ_cons, List.drop_zero]; clear hsh
        clear HS HS0
        go_simp
        have f0 : V2.frozen? ⟨q, 3, none⟩ = false := block_free H2.out 3
        have g0 : V2.cell? ⟨q, 3, none⟩ = some (.int .i64 gw) := (block_cell H2.out 3).trans rfl
        go_wp2_with (fail)
        obtain ⟨V3, hV3⟩ : ∃ V, (V2.setCell ⟨q, 3, none⟩ (.int .i64 (gw + rw_))).drew = V := ⟨_, rfl⟩
        have H3 := hide (show V3.heap[q]? = some (.cells #[.int .i64 gi, (.slice A8 (ps.length + 1) c8), .int .i64 (ge + rv), .int .i64 (gw + rw_), .int .i64 gf, .int .i64 gl] 44 (0, 0)) from hV3 ▸ block_set H2.out _)
        have C3 := hide (show V3.heap[k]? = some (.cells #[.int .i64 rg, .int .i64 rv, .int .i64 rw_, .int .i64 rf, .int .i64 rl] 60 (0, 0)) from hV3 ▸ block_set_other C2.out _ _ HKQ.out)
        have O3 := hide (show ∀ j o, w8.heap[j]? = some o → j ≠ q → V3.heap[j]? = some o from fun j o e ne => hV3 ▸ block_set_other (O2.out _ _ e ne) _ _ ne)
        have B3 := hide (show Below (w.heap.size + 2) w8 V3 from hV3 ▸ (B2.out.setCell (p := ⟨q, 3, none⟩) HQL.out _).drew)
        rw [hV3]
        clear hV3 f0 g0
        have HS0 := hide (show ∀ U, Below V3.heap.size V3 U → (fun U => U.cell? ⟨q, 4, none⟩ = some (.int .i64 gf) ∧ U.cell? ⟨q, 5, none⟩ = some (.int .i64 gl) ∧ U.cell? ⟨k, 3, none⟩ = some (.int .i64 rf) ∧ U.cell? ⟨k, 4, none⟩ = some (.int .i64 rl)) U from fun U hb => ⟨(block_cell (block_below H3.out hb) 4).trans rfl, (block_cell (block_below H3.out hb) 5).trans rfl, (block_cell (block_below C3.out hb) 3).trans rfl, (block_cell (block_below C3.out hb) 4).trans rfl⟩)
        refine wp_region_chain (fun U => U.cell? ⟨q, 4, none⟩ = some (.int .i64 gf) ∧ U.cell? ⟨q, 5, none⟩ = some (.int .i64 gl) ∧ U.cell? ⟨k, 3, none⟩ = some (.int .i64 rf) ∧ U.cell? ⟨k, 4, none⟩ = some (.int .i64 rl)) 20 (by as_aux_lemma => kernel_rfl) (N := 26) (by as_aux_lemma => kernel_rfl) ?_; intro hsh
        have HS := HS0.out V3.drew (below_drewN (Below.refl _ _) 1)
        refine wpAnyC_take0 (i := 0) (k := 20) (v := ?_) (d := some 81) rfl (by rfl) (by as_aux_lemma => kernel_rfl) (by as_aux_lemma => kernel_rfl) (by as_aux_lemma => kernel_rfl) hsh (by decide) (by intro _ _ _ h; exact h) (by assumption) (Or.inl ⟨by rfl, ?hy⟩) ?_; (case hy => (intro W _; go_simp; (try with_reducible rfl))); clear hsh; intro hsh
        refine wpAnyC_take0 (i := 1) (k := 20) (v := ?_) (d := some 82) rfl (by rfl) (by as_aux_lemma => kernel_rfl) (by as_aux_lemma => kernel_rfl) (by as_aux_lemma => kernel_rfl) hsh (by decide) (by intro _ _ _ h; exact h) (by assumption) (Or.inl ⟨by rfl, ?hy⟩) ?_; (case hy => (intro W _; go_simp; (try with_reducible rfl))); clear hsh; intro hsh
        refine wpAnyC_take0 (i := 2) (k := 20) (v := ?_) (d := some 83) rfl (by rfl) (by as_aux_lemma => kernel_rfl) (by as_aux_lemma => kernel_rfl) (by as_aux_lemma => kernel_rfl) hsh (by decide) (by intro _ _ _ h; exact h) (by assumption) (Or.inl ⟨by rfl, ?hy⟩) ?_; (case hy => (intro W _; go_simp; (try with_reducible rfl))); clear hsh; intro hsh
        refine wpAnyC_take0 (i := 3) (k := 20) (v := ?_) (d := some 84) rfl (by rfl) (by as_aux_lemma => kernel_rfl) (by as_aux_lemma => kernel_rfl) (by as_aux_lemma => kernel_rfl) hsh (by decide) (by intro _ _ _ h; exact h) (by assumption) (Or.inl ⟨by rfl, ?hy⟩) ?_; (case hy => (intro W _; go_simp; (try with_reducible rfl))); clear hsh; intro hsh
        refine wpAnyC_take0 (i := 4) (k := 20) (v := ?_) (d := some 85) rfl (by rfl) (by as_aux_lemma => kernel_rfl) (by as_aux_lemma => kernel_rfl) (by as_aux_lemma => kernel_rfl) hsh (by decide) (by intro _ _ _ h; exact h) (by assumption) (Or.inl ⟨by rfl, ?hy⟩) ?_; (case hy => (intro W _; go_simp; (try with_reducible rfl))); clear hsh; intro hsh
        refine wpAnyC_take (i := 5) (k := 20) (f := 40) (v := ?_) (d := some 86) rfl (by rfl) (by as_aux_lemma => kernel_rfl) (by as_aux_lemma => kernel_rfl) (by as_aux_lemma => kernel_rfl) hsh (by decide) (by as_aux_lemma => kernel_rfl) (by intro _ _ _ h; exact h) (by assumption) (Or.inl ⟨by rfl, ?hy⟩) ?_; (case hy => (rintro W ⟨a1, a2, a3, a4⟩; go_simp; (try with_reducible rfl))); clear hsh; intro hsh
        refine wpAnyC_take0 (i := 6) (k := 20) (v := ?_) (d := some 87) rfl (by rfl) (by as_aux_lemma => kernel_rfl) (by as_aux_lemma => kernel_rfl) (by as_aux_lemma => kernel_rfl) hsh (by decide) (by intro _ _ _ h; exact h) (by assumption) (Or.inl ⟨by rfl, ?hy⟩) ?_; (case hy => (intro W _; go_simp; (try with_reducible rfl))); clear hsh; intro hsh
        refine wpAnyC_take0 (i := 7) (k := 20) (v := ?_) (d := some 88) rfl (by rfl) (by as_aux_lemma => kernel_rfl) (by as_aux_lemma => kernel_rfl) (by as_aux_lemma => kernel_rfl) hsh (by decide) (by intro _ _ _ h; exact h) (by assumption) (Or.inl ⟨by rfl, ?hy⟩) ?_; (case hy => (intro W _; go_simp; (try with_reducible rfl))); clear hsh; intro hsh
        refine wpAnyC_take0 (i := 8) (k := 20) (v := ?_) (d := some 89) rfl (by rfl) (by as_aux_lemma => kernel_rfl) (by as_aux_lemma => kernel_rfl) (by as_aux_lemma => kernel_rfl) hsh (by decide) (by intro _ _ _ h; exact h) (by assumption) (Or.inl ⟨by rfl, ?hy⟩) ?_; (case hy => (intro W _; go_simp; (try with_reducible rfl))); clear hsh; intro hsh
        refine wpAnyC_take (i := 9) (k := 20) (f := 40) (v := ?_) (d := some 90) rfl (by rfl) (by as_aux_lemma => kernel_rfl) (by as_aux_lemma => kernel_rfl) (by as_aux_lemma => kernel_rfl) hsh (by decide) (by as_aux_lemma => kernel_rfl) (by intro _ _ _ h; exact h) (by assumption) (Or.inl ⟨by rfl, ?hy⟩) ?_; (case hy => (rintro W ⟨a1, a2, a3, a4⟩; go_simp; (try with_reducible rfl))); clear hsh; intro hsh
        refine wpAnyC_take0 (i := 10) (k := 20) (v := ?_) (d := some 91) rfl (by rfl) (by as_aux_lemma => kernel_rfl) (by as_aux_lemma => kernel_rfl) (by as_aux_lemma => kernel_rfl) hsh (by decide) (by intro _ _ _ h; exact h) (by assumption) (Or.inl ⟨by rfl, ?hy⟩) ?_; (case hy => (intro W _; go_simp; (try with_reducible rfl))); clear hsh; intro hsh
        refine wpAnyC_take0 (i := 11) (k := 20) (v := ?_) (d := some 92) rfl (by rfl) (by as_aux_lemma => kernel_rfl) (by as_aux_lemma => kernel_rfl) (by as_aux_lemma => kernel_rfl) hsh (by decide) (by intro _ _ _ h; exact h) (by assumption) (Or.inl ⟨by rfl, ?hy⟩) ?_; (case hy => (intro W _; go_simp; (try with_reducible rfl))); clear hsh; intro hsh
        refine wpAnyC_take0 (i := 12) (k := 20) (v := ?_) (d := some 93) rfl (by rfl) (by as_aux_lemma => kernel_rfl) (by as_aux_lemma => kernel_rfl) (by as_aux_lemma => kernel_rfl) hsh (by decide) (by intro _ _ _ h; exact h) (by assumption) (Or.inl ⟨by rfl, ?hy⟩) ?_; (case hy => (intro W _; go_simp; (try with_reducible rfl))); clear hsh; intro hsh
        refine wpAnyC_take0 (i := 13) (k := 20) (v := ?_) (d := some 94) rfl (by rfl) (by as_aux_lemma => kernel_rfl) (by as_aux_lemma => kernel_rfl) (by as_aux_lemma => kernel_rfl) hsh (by decide) (by intro _ _ _ h; exact h) (by assumption) (Or.inl ⟨by rfl, ?hy⟩) ?_; (case hy => (intro W _; go_simp; (try with_reducible rfl))); clear hsh; intro hsh
        refine wpAnyC_take (i := 14) (k := 20) (f := 40) (v := ?_) (d := some 95) rfl (by rfl) (by as_aux_lemma => kernel_rfl) (by as_aux_lemma => kernel_rfl) (by as_aux_lemma => kernel_rfl) hsh (by decide) (by as_aux_lemma => kernel_rfl) (by intro _ _ _ h; exact h) (by assumption) (Or.inl ⟨by rfl, ?hy⟩) ?_; (case hy => (rintro W ⟨a1, a2, a3, a4⟩; go_simp; (try with_reducible rfl))); clear hsh; intro hsh
        refine wpAnyC_take0 (i := 15) (k := 20) (v := ?_) (d := some 96) rfl (by rfl) (by as_aux_lemma => kernel_rfl) (by as_aux_lemma => kernel_rfl) (by as_aux_lemma => kernel_rfl) hsh (by decide) (by intro _ _ _ h; exact h) (by assumption) (Or.inl ⟨by rfl, ?hy⟩) ?_; (case hy => (intro W _; go_simp; (try with_reducible rfl))); clear hsh; intro hsh
        refine wpAnyC_take0 (i := 16) (k := 20) (v := ?_) (d := some 97) rfl (by rfl) (by as_aux_lemma => kernel_rfl) (by as_aux_lemma => kernel_rfl) (by as_aux_lemma => kernel_rfl) hsh (by decide) (by intro _ _ _ h; exact h) (by assumption) (Or.inl ⟨by rfl, ?hy⟩) ?_; (case hy => (intro W _; go_simp; (try with_reducible rfl))); clear hsh; intro hsh
        refine wpAnyC_take0 (i := 17) (k := 20) (v := ?_) (d := some 98) rfl (by rfl) (by as_aux_lemma => kernel_rfl) (by as_aux_lemma => kernel_rfl) (by as_aux_lemma => kernel_rfl) hsh (by decide) (by intro _ _ _ h; exact h) (by assumption) (Or.inl ⟨by rfl, ?hy⟩) ?_; (case hy => (intro W _; go_simp; (try with_reducible rfl))); clear hsh; intro hsh
        refine wpAnyC_take (i := 18) (k := 20) (f := 40) (v := ?_) (d := some 99) rfl (by rfl) (by as_aux_lemma => kernel_rfl) (by as_aux_lemma => kernel_rfl) (by as_aux_lemma => kernel_rfl) hsh (by decide) (by as_aux_lemma => kernel_rfl) (by intro _ _ _ h; exact h) (by assumption) (Or.inl ⟨by rfl, ?hy⟩) ?_; (case hy => (rintro W ⟨a1, a2, a3, a4⟩; go_simp; (try with_reducible rfl))); clear hsh; intro hsh
        refine wpAnyC_take0 (i := 19) (k := 20) (v := ?_) (d := some 100) rfl (by rfl) (by as_aux_lemma => kernel_rfl) (by as_aux_lemma => kernel_rfl) (by as_aux_lemma => kernel_rfl) hsh (by decide) (by intro _ _ _ h; exact h) (by assumption) (Or.inl ⟨by rfl, ?hy⟩) ?_; (case hy => (intro W _; go_simp; (try with_reducible rfl))); clear hsh; intro hsh
        refine wpAnyC_tail (by as_aux_lemma => kernel_rfl) (by simp) (by as_aux_lemma => kernel_rfl) ?_; simp only [List.drop_succ_cons, List.drop_zero]; clear hsh
        clear HS HS0
        go_simp
        have f0 : V3.frozen? ⟨q, 4, none⟩ = false := block_free H3.out 4
        have g0 : V3.cell? ⟨q, 4, none⟩ = some (.int .i64 gf) := (block_cell H3.out 4).trans rfl
        have f1 : V3.frozen? ⟨q, 5, none⟩ = false := block_free H3.out 5
        have g1 : V3.cell? ⟨q, 5, none⟩ = some (.int .i64 gl) := (block_cell H3.out 5).trans rfl
        go_wp2_with (fail)
        obtain ⟨V4, hV4⟩ : ∃ V, ((V3.setCell ⟨q, 4, none⟩ (.int .i64 (min gf rf))).setCell ⟨q, 5, none⟩ (.int .i64 (max gl rl))).drew = V := ⟨_, rfl⟩
        have H4 := hide (show V4.heap[q]? = some (.cells #[.int .i64 gi, .slice A8 (ps.length + 1) c8, .int .i64 (ge + rv), .int .i64 (gw + rw_), .int .i64 (min gf rf), .int .i64 (max gl rl)] 44 (0, 0)) from hV4 ▸ block_set (block_set H3.out _) _)
        have O4 := hide (show ∀ j o, w8.heap[j]? = some o → j ≠ q → V4.heap[j]? = some o from fun j o e ne => hV4 ▸ block_set_other (block_set_other (O3.out _ _ e ne) _ _ ne) _ _ ne)
        have B4 := hide (show Below (w.heap.size + 2) w8 V4 from hV4 ▸ ((B3.out.setCell (p := ⟨q, 4, none⟩) HQL.out _).setCell (p := ⟨q, 5, none⟩) HQL.out _).drew)
        rw [hV4]
        clear hV4 f0 g0 f1 g1
        have HREL := hide (gr_rel (l := l) (m := m) (x := x) (R := w.heap.size + 1) (r := ⟨rp, rg, rv, rw_, rf, rl⟩) HM.out HI.out HGV.out HQ.out HRP.out HO8.out (by rw [HGD.out]; exact HOWN.out) HAT.out HG8.out HZX.out O4.out B4.out (by rw [HGD.out]; exact H4.out) HRG.out HBX.out HMB.out rfl HGS.out HF.out HSUB.out HR0.out HN.out)
        go_roundw
        case rel => exact HREL.out.2
        case measure => rw [HREL.out.1.left_eq, HRG0.out.left_eq]; exact hlt
end Go.Proofs.YtapfcnfmonknjaaGreatDoor.Bk
