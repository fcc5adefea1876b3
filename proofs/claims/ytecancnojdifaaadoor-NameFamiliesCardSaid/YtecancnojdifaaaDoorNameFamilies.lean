/- The law NameFamilies. -/
import Derived.Test.YtecancnojdifaaaDoorNmFmE
import Derived.Test.YtecancnojdifaaaDoorOpnStr
import Derived.Test.YtecancnojdifaaaDoorRows
import Derived.LaidMore
import Derived.Stop.LaidErr
import Derived.MakeChecks
namespace Go.Proofs.YtecancnojdifaaaDoor
open Go.RowKit
set_option linter.unusedVariables false
set_option linter.unusedSimpArgs false
theorem tab_ltF {w : World} {name : String} {k : IntKind} {zs : List Int} {g : Nat} (h : Lib.TabIs Tryd.prog w name k zs) (hg : Tryd.prog.globalNamed name = some g) : g < w.heap.size := by
  unfold Lib.TabIs World.var? at h
  rw [hg] at h
  simp only [Option.bind_some] at h
  split at h
  · rename_i cs e fr hb; exact lt_of_block hb
  · cases h
theorem tab10_ofF {W : World} (hL : laidMetH Tryd.prog Rows.nameFamiliesRow.laid W) : Tab10 W.heap.size W := by
  rw [MakeChecks.laidMetH_plain _ _ _ (by kernel_rfl)] at hL
  have h : Lib.TabIs Tryd.prog W "internal/strconv.uint64pow10" .u64 Lib.pow10Tab :=
    Lib.tabIs_of_head (n := 20) (t := 169) (e := 156) (g := 1) (by kernel_rfl) (by kernel_rfl) (by kernel_rfl) (by kernel_rfl) (by kernel_rfl) (by kernel_rfl) (laidMet.tail (laidMet.tail hL))
  exact ⟨h, fun g hg => tab_ltF h hg⟩
theorem Families_long (A : Option Addr) (n c : Nat) (w : World) (hn : 2000 < n) (hm : n ≤ 9000000000000000) :
    Calls Tryd.prog 12 #[.slice A n c] w fun e w' => e = .returned (.tuple #[.slice none 0 0, .int .i64 4]) ∧ w' = w := by
  have h1 : (2000 : Int) < (n : Int) := by omega
  go_enter Tryd.func12, Tryd.ntmps12
  go_wp2_with (fail)
  go_ret2
  exact ⟨rfl, rfl⟩
set_option maxHeartbeats 4000000 in
theorem NameFamilies_all (A : Option Addr) (n c : Nat) (l : List ByteArray) (w : World) (hm : n ≤ 9000000000000000) (hl : Sl w w.heap.size cs 1 A n l) (hs : ∀ s ∈ l, s.size ≤ reachBytes) (htb : Tab10 w.heap.size w) :
    Calls Tryd.prog 4 #[.slice A n c] w fun e w' => e = .returned (.bool true) ∧ Below w.heap.size w w' := by
  by_cases hbig : 2000 < n
  · have HC := hide (Families_long A n c w hbig hm)
    have h1 : (2000 : Int) < (n : Int) := by omega
    clear hl hs htb
    go_enter Tryd.func4, Tryd.ntmps4
    go_wp2_with (go_at_call 12; refine HC.out.mono ?_; rintro e w' ⟨rfl, rfl⟩)
    go_ret
    exact ⟨rfl, Below.refl _ _⟩
  · have h1 : ¬ (2000 : Int) < (n : Int) := by omega
    have h2 : decide ((2000 : Int) < (n : Int)) = false := by simp; omega
    have h3 : decide (2000 < n) = false := by simp; omega
    have HC := hide (Families_any A n c l w (by omega) hl hs htb)
    have HR := hide (fun (W : World) (h : Below w.heap.size w W) => FamiliesOf_any A n c l W (by omega) ((hl.below h).more h.size) hs)
    have hok := fam_ok k2 l
    have hln := hl.len
    have HEQ := hide (fun (B B' : Nat) (v v' : Value) (vs vs' : List Value) (W : World) (h : Fm 37 3 W B v vs (fmly k2 l).2) (h' : Fm 37 3 W B' v' vs' (fmly k2 l).2) => EqualRows B B' v v' vs vs' (fmly k2 l).2 W (by have := hok.len; have := hok.most; omega) (fun x hx => by have := hok.rows x hx; omega) h h')
    have HKK := hide (fam_keys keys_iff l)
    rw [HKK.out] at HC
    clear hl hs htb hok hln HKK
    go_enter Tryd.func4, Tryd.ntmps4
    go_wp2_with (first | (go_at_call 12; refine HC.out.mono ?_; rintro e w1 ⟨⟨v, vs, rfl, hF⟩, hw1⟩; have HF := hide hF; have HB1 := hide hw1; clear hF hw1) | (go_at_call 14; refine (HR.out _ HB1.out).mono ?_; rintro e w2 ⟨⟨v', vs', rfl, hF'⟩, hw2⟩; have HF2 := hide (HF.out.below hw2); have HF' := hide hF'; have HB2 := hide (HB1.out.trans (hw2.mono HB1.out.size)); clear hF' hw2) | (go_at_call 13; refine (HEQ.out _ _ _ _ _ _ _ HF2.out HF'.out).mono ?_; rintro e w3 ⟨rfl, hw3⟩; have HB3 := hide (HB2.out.trans (hw3.mono HB2.out.size)); clear hw3))
    go_ret
    exact ⟨rfl, HB3.out⟩
namespace nameFamilies
set_option maxRecDepth 100000 in
theorem walk {H : Type} {enc : TypeId × Value → H} {d0 : DataW H} {p0 : List MemPlace} {base : Nat} {W : World}
    (v0 : Value) (k0 : DataW.Trod enc Tryd.prog W 0 (fun _ => true) true 32 v0 d0 p0) (ok0 : Value.okWide Tryd.prog W .any base 32 v0) (hw : Wt 32 d0)
    (hL : laidMetH Tryd.prog Rows.nameFamiliesRow.laid W) :
    Calls Tryd.prog 4 #[v0] W fun e w' => e = .returned (.bool true) ∧ Below W.heap.size W w' := by
  obtain ⟨A, n, cap, l, rfl, hl, hn, hm, hb, hs⟩ := open_strs ok0 k0 hw
  have hrb : reachBytes < 140737488355328 := reachBytes_lt
  exact NameFamilies_all A n cap l W (by omega) hl hs (tab10_ofF hL)
end nameFamilies
end Go.Proofs.YtecancnojdifaaaDoor
