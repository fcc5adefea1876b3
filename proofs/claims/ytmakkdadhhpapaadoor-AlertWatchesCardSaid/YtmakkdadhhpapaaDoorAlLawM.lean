/- The law's memory: what the steps of both watches leave. -/
import Derived.Test.YtmakkdadhhpapaaDoorAlLaw
import Derived.Test.YtmakkdadhhpapaaDoorAlOpen
import Derived.Test.YtmakkdadhhpapaaDoorAlCnK
namespace Go.Proofs.YtmakkdadhhpapaaDoor
open Go.RowKit
set_option linter.unusedVariables false
set_option linter.unusedSimpArgs false
theorem sl_of {α : Type} {w : World} {base sz n c : Nat} {e : TypeId} {A : Option Addr} {f : α → List Value} {l : List α} (hf : ∀ a, (f a).length = sz) (hl : l.length = n) (h : w.ownsRow base e sz (.slice A n c) n (l.flatMap f)) : Sl w w.heap.size f sz A n l := by
  obtain ⟨A', c', hv, hsl, _⟩ := sl_of_own (f := f) (sz := sz) hf hl h
  simp only [Value.slice.injEq, true_and] at hv
  obtain ⟨rfl, rfl⟩ := hv
  exact hsl
theorem wd_sl {w : World} {base n c : Nat} {A : Option Addr} {l : List Wd} (hl : l.length = n) (h : w.ownsRow base 60 11 (.slice A n c) n (l.flatMap Wd.cs)) : Sl w w.heap.size Wd.cs 11 A n l := sl_of (fun _ => rfl) hl h
theorem st_sl {w : World} {base n c : Nat} {A : Option Addr} {l : List Stt} (hl : l.length = n) (h : w.ownsRow base 46 4 (.slice A n c) n (l.flatMap Stt.cs)) : Sl w w.heap.size Stt.cs 4 A n l := sl_of (fun _ => rfl) hl h
theorem cb_sl {w : World} {base n c : Nat} {A : Option Addr} {l : List Bool} (hl : l.length = n) (h : w.ownsRow base 4 1 (.slice A n c) n (l.flatMap cb)) : Sl w w.heap.size cb 1 A n l := sl_of (fun _ => rfl) hl h
theorem nt_sl {w : World} {base c : Nat} {A : Option Addr} {l : List Nt} (h : w.ownsRow base 41 4 (.slice A l.length c) l.length (l.flatMap Nt.cs)) : Sl w w.heap.size Nt.cs 4 A l.length l := sl_of (fun _ => rfl) rfl h
theorem Sl.drew {α : Type} {w : World} {B sz n : Nat} {f : α → List Value} {A : Option Addr} {l : List α} (h : Sl w B f sz A n l) : Sl w.drew B f sz A n l := ⟨h.len, h.cells⟩
theorem sl_args {α : Type} {w w' : World} {sz n : Nat} {f : α → List Value} {A : Option Addr} {l : List α} (h : Sl w w.heap.size f sz A n l) (hb : Below w.heap.size w w') : Sl w' w'.heap.size f sz A n l := (h.below hb).more hb.size
theorem rStatus_any (rw_ n c : Nat) (A : Option Addr) (w : World) (hc : w.cell? ⟨rw_, 5, none⟩ = some (.slice A n c)) :
    Calls Tryd.prog 17 #[.pointer (some ⟨rw_, 0, none⟩)] w fun e w' => e = .returned (.slice A n c) ∧ w' = w := by
  go_enter Tryd.func17, Tryd.ntmps17
  go_wp2_with (fail)
  go_ret
  exact ⟨rfl, rfl⟩
theorem rl_ok {l : List Rl} (h : rlErr l = 0) : l.length ≤ 50 ∧ ∀ x ∈ l, 1 ≤ x.ask ∧ x.ask ≤ 4 ∧ 1 ≤ x.window ∧ x.window ≤ 604800 := by
  unfold rlErr at h
  split at h
  · cases h
  refine ⟨by omega, fun x hx => ?_⟩
  obtain ⟨i, hi, rfl⟩ := List.mem_iff_getElem.1 hx
  have h2 := firstErr_all h i hi
  unfold rlErrAt at h2
  rw [List.getElem?_eq_getElem hi] at h2
  simp only at h2
  split at h2
  · split at h2
    · cases h2
    · unfold ruleErr at h2
      split at h2
      · split at h2
        · cases h2
        · rename_i ha
          split at h2
          · cases h2
          · rename_i hr
            simp [outsideB] at ha
            simp [rangeB, outsideB] at hr
            omega
      · rename_i hk; exact absurd h2 hk
  · cases h2
theorem sils_len {l : List Sil} (h : silsErr l = 0) : l.length ≤ 50 := by
  unfold silsErr at h
  split at h
  · cases h
  · omega
/-- A beat in its box. -/
structure BtX (q : Nat) (wt at_ bn : Int) (ky : ByteArray) (sa : Option Addr) (sk scap : Nat) (W : World) : Prop where
  b0 : W.cell? ⟨q, 0, none⟩ = some (.int .i64 wt)
  b1 : W.cell? ⟨q, 1, none⟩ = some (.int .i64 at_)
  b2 : W.cell? ⟨q, 2, none⟩ = some (.int .i64 bn)
  b3 : W.cell? ⟨q, 3, none⟩ = some (.string ky)
  b4 : W.cell? ⟨q, 4, none⟩ = some (.slice sa sk scap)
structure BtB (q : Nat) (wt at_ bn : Int) (ky : ByteArray) (sa : Option Addr) (sk scap : Nat) (W : World) : Prop where
  blk : W.heap[q]? = some (.cells #[.int .i64 wt, .int .i64 at_, .int .i64 bn, .string ky, .slice sa sk scap] 34 (0, 0))
section
variable {q : Nat} {wt at_ bn : Int} {ky : ByteArray} {sa : Option Addr} {sk scap : Nat} {W W' : World} {B : Nat} {T : List TypeId}
theorem BtB.x (h : BtB q wt at_ bn ky sa sk scap W) : BtX q wt at_ bn ky sa sk scap W := ⟨block_cell h.blk 0, block_cell h.blk 1, block_cell h.blk 2, block_cell h.blk 3, block_cell h.blk 4⟩
theorem BtB.drew (h : BtB q wt at_ bn ky sa sk scap W) : BtB q wt at_ bn ky sa sk scap W.drew := ⟨h.blk⟩
theorem BtB.keep (h : BtB q wt at_ bn ky sa sk scap W) (hk : KeepT B T W W') (hT : 34 ∉ T) : BtB q wt at_ bn ky sa sk scap W' := ⟨hk.keep _ _ _ _ h.blk hT⟩
theorem BtB.below (h : BtB q wt at_ bn ky sa sk scap W) (hb : Below W.heap.size W W') : BtB q wt at_ bn ky sa sk scap W' := ⟨block_below h.blk hb⟩
end
section
variable {B pw n m sn cr mc sc : Nat} {R A SA : Option Addr} {ws : List Wd} {cs : List Ct} {sl : List Sil} {wat g : Int} {w w' : World} {rw_ kc tc : Nat} {KA ST : Option Addr} {rl : List Rl} {stl : List Stt} {ks : List Bool}
theorem PM.drew (h : PM B pw n m sn cr mc sc R A SA ws cs sl wat g w) : PM B pw n m sn cr mc sc R A SA ws cs sl wat g w.drew := h.keep ⟨(Below.refl _ _).drew, fun _ _ _ _ h _ => h⟩
theorem RM.drew (h : RM B rw_ n m sn cr mc kc sc tc R A KA SA ST rl stl cs ks sl wat w) : RM B rw_ n m sn cr mc kc sc tc R A KA SA ST rl stl cs ks sl wat w.drew := h.keep ⟨(Below.refl _ _).drew, fun _ _ _ _ h _ => h⟩
theorem PM.count {key : ByteArray} {t c : Int} {A2 : Option Addr} {mc2 : Nat} (h : PM B pw n m sn cr mc sc R A SA ws cs sl wat g w) (hk : Keep B (fun k => k = pw ∨ (Value.slice A m mc).ownBlock = some k) w w')
    (hb : w'.heap[pw]? = some (.cells ((#[.slice R n cr, .slice A m mc, .slice SA sn sc, .int .i64 wat, .int .i64 g].setIfInBounds 3 (.int .i64 t)).setIfInBounds 1 (.slice A2 (m + 1) mc2)) 53 (0, 0)))
    (ho : w'.ownsRow B 71 3 (.slice A2 (m + 1) mc2) (m + 1) (cs.flatMap Ct.cs ++ [.string key, .int .i64 t, .int .i64 c])) : PM B pw n (m + 1) sn cr mc2 sc R A2 SA ws (cs ++ [⟨key, t, c⟩]) sl t g w' := by
  have hkt := KeepT.of_keep (T := [53, 71]) hk (fun k cs ty fr hh hp => by
    rcases hp with rfl | hp
    · rw [box_type h.box hh]; decide
    · rw [own_type h.crow hp hh]; decide)
  exact ⟨by simpa using hb, hkt.own h.rrow (by decide), by simpa [Ct.cs] using ho, hkt.own h.srow (by decide), h.hB, h.hn, by rw [List.length_append, h.hm]; rfl, h.hs⟩
theorem PM.sils {xs : List Sil} {sk : Nat} {A2 : Option Addr} {mc2 : Nat} (h : PM B pw n m sn cr mc sc R A SA ws cs sl wat g w) (hk : ButAt pw w w')
    (hb : w'.heap[pw]? = some (.cells (#[.slice R n cr, .slice A m mc, .slice SA sn sc, .int .i64 wat, .int .i64 g].setIfInBounds 2 (.slice A2 sk mc2)) 53 (0, 0)))
    (ho : w'.ownsRow B 87 3 (.slice A2 sk mc2) sk (xs.flatMap Sil.cs)) (hx : xs.length = sk) : PM B pw n m sk cr mc mc2 R A A2 ws cs xs wat g w' := by
  have hkt := KeepT.of_keep (T := [53]) (Keep.of_but (P := fun k => k = pw) hk h.hB rfl) (fun k cs ty fr hh hp => by
    subst hp; rw [box_type h.box hh]; decide)
  exact ⟨by simpa using hb, hkt.own h.rrow (by decide), hkt.own h.crow (by decide), ho, h.hB, h.hn, h.hm, hx⟩
theorem RM.count {key : ByteArray} {t c : Int} {A2 KA2 : Option Addr} {mc2 kc2 : Nat} (h : RM B rw_ n m sn cr mc kc sc tc R A KA SA ST rl stl cs ks sl wat w) (hk : Keep B (fun k => k = rw_ ∨ (Value.slice A m mc).ownBlock = some k ∨ (Value.slice KA m kc).ownBlock = some k) w w')
    (hb : w'.heap[rw_]? = some (.cells (((#[.slice R n cr, .int .i64 wat, .slice A m mc, .slice KA m kc, .slice SA sn sc, .slice ST n tc].setIfInBounds 1 (.int .i64 t)).setIfInBounds 2 (.slice A2 (m + 1) mc2)).setIfInBounds 3 (.slice KA2 (m + 1) kc2)) 69 (0, 0)))
    (ho : w'.ownsRow B 73 3 (.slice A2 (m + 1) mc2) (m + 1) (cs.flatMap Ct.cs ++ [.string key, .int .i64 t, .int .i64 c])) (ho2 : w'.ownsRow B 4 1 (.slice KA2 (m + 1) kc2) (m + 1) (ks.flatMap cb ++ [.bool true])) :
    RM B rw_ n (m + 1) sn cr mc2 kc2 sc tc R A2 KA2 SA ST rl stl (cs ++ [⟨key, t, c⟩]) (ks ++ [true]) sl t w' := by
  have hkt := KeepT.of_keep (T := [69, 73, 4]) hk (fun k cs ty fr hh hp => by
    rcases hp with rfl | hp | hp
    · rw [box_type h.box hh]; decide
    · rw [own_type h.crow hp hh]; decide
    · rw [own_type h.krow hp hh]; decide)
  exact ⟨by simpa using hb, h.rules.below hkt.be, hkt.own h.strow (by decide), by simpa [Ct.cs] using ho, by simpa [cb] using ho2, hkt.own h.srow (by decide), h.hB, h.hn, by rw [List.length_append, h.hm]; rfl, by rw [List.length_append, h.hk]; rfl, h.hs⟩
theorem RM.sils {xs : List Sil} {sk : Nat} {A2 : Option Addr} {mc2 : Nat} (h : RM B rw_ n m sn cr mc kc sc tc R A KA SA ST rl stl cs ks sl wat w) (hk : ButAt rw_ w w')
    (hb : w'.heap[rw_]? = some (.cells (#[.slice R n cr, .int .i64 wat, .slice A m mc, .slice KA m kc, .slice SA sn sc, .slice ST n tc].setIfInBounds 4 (.slice A2 sk mc2)) 69 (0, 0)))
    (ho : w'.ownsRow B 87 3 (.slice A2 sk mc2) sk (xs.flatMap Sil.cs)) (hx : xs.length = sk) : RM B rw_ n m sk cr mc kc mc2 tc R A KA A2 ST rl stl cs ks xs wat w' := by
  have hkt := KeepT.of_keep (T := [69]) (Keep.of_but (P := fun k => k = rw_) hk h.hB rfl) (fun k cs ty fr hh hp => by
    subst hp; rw [box_type h.box hh]; decide)
  exact ⟨by simpa using hb, h.rules.below hkt.be, hkt.own h.strow (by decide), hkt.own h.crow (by decide), hkt.own h.krow (by decide), ho, h.hB, h.hn, h.hm, h.hk, hx⟩
end
end Go.Proofs.YtmakkdadhhpapaaDoor
