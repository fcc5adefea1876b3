/- The law RateBuckets: its cases joined. -/
import Derived.Test.YtnbmohekikhknaaRateBucketsA
import Derived.Test.YtnbmohekikhknaaRateBucketsB
import Derived.Test.YtnbmohekikhknaaRateBucketsC
import Derived.Test.YtnbmohekikhknaaRateBucketsD
import Derived.Test.YtnbmohekikhknaaRows
import Derived.Lib.SmallJoins
import Derived.ProofKit
namespace Go.Proofs.Ytnbmohekikhknaa
open Go.RowKit Go.ChangeShapes Go.WideShapes Go.Joins
theorem trod_int' {H : Type} {enc : TypeId × Value → H} {w : World} {base : Nat} {spare : Nat → Bool} {held : Bool} {n : Nat} {v : Value} {y : DataW H × List MemPlace}
    (h : DataW.trod enc Try.prog w base spare held n 3 [v] = some y) : ∃ a : Int, v = .int .i64 a := by
  obtain ⟨a, e, _, _⟩ := DataW.trod_int Try.underlying3 h
  simp at e
  exact ⟨a, e⟩
theorem cells_bucket : Try.prog.cellsOf 29 = 3 := by kernel_rfl
theorem cells_level : Try.prog.cellsOf 31 = 3 := by kernel_rfl
set_option maxRecDepth 100000 in
theorem open_bucket {H : Type} {enc : TypeId × Value → H} {w : World} {base b0 : Nat} {spare : Nat → Bool} {held : Bool} {v : Value} {d : DataW H} {p : List MemPlace} {r : Reach}
    (hv : Value.okWide Try.prog w r b0 29 v) (h : DataW.Trod enc Try.prog w base spare held 29 v d p) : ∃ s a e : Int, v = v3 s a e := by
  obtain ⟨c0, c1, c2, y0, y1, y2, m, rfl, _, _, h0, h1, h2⟩ := open_agg3 Try.underlying29 (by kernel_rfl) cells_bucket hv h
  obtain ⟨s, rfl⟩ := trod_int' h0
  obtain ⟨a, rfl⟩ := trod_int' h1
  obtain ⟨e, rfl⟩ := trod_int' h2
  exact ⟨s, a, e, rfl⟩
set_option maxRecDepth 100000 in
theorem open_level {H : Type} {enc : TypeId × Value → H} {w : World} {base b0 : Nat} {spare : Nat → Bool} {held : Bool} {v : Value} {d : DataW H} {p : List MemPlace} {r : Reach}
    (hv : Value.okWide Try.prog w r b0 31 v) (h : DataW.Trod enc Try.prog w base spare held 31 v d p) : ∃ s a e : Int, v = v3 s a e := by
  obtain ⟨c0, c1, c2, y0, y1, y2, m, rfl, _, _, h0, h1, h2⟩ := open_agg3 Try.underlying31 (by kernel_rfl) cells_level hv h
  obtain ⟨s, rfl⟩ := trod_int' h0
  obtain ⟨a, rfl⟩ := trod_int' h1
  obtain ⟨e, rfl⟩ := trod_int' h2
  exact ⟨s, a, e, rfl⟩
theorem rb_all (s a e h t r at_ n : Int) (w : World) :
    Calls Try.prog 5 #[v3 s a e, v3 h t r, .int .i64 at_, .int .i64 n] w fun x w' => x = .returned (.bool true) ∧ Below w.heap.size w w' := by
  by_cases hb : bkErr s a e = 0
  · by_cases hl : lvErr s a e h t r = 0
    · cases hm : outsideB at_ 0 3155759999
      · have hm' : 0 ≤ at_ ∧ at_ ≤ 3155759999 := by simpa [outsideB] using hm
        by_cases hx : at_ < t
        · by_cases n0 : n < 0
          · exact rb_P2W1a s a e h t r at_ n w hl hm hx n0
          · by_cases n1 : 1000000000 < n
            · exact rb_P2W1b s a e h t r at_ n w hl hm hx n1
            · by_cases ns : s < n
              · exact rb_P2W2 s a e h t r at_ n w hl hm hx (by omega) (by omega) ns
              · by_cases hT : 3155759999 < t + waitT a e h r n
                · exact rb_P2W3 s a e h t r at_ n w hl hm hx (by omega) (by omega) (by omega) hT
                · exact rb_P2W4 s a e h t r at_ n w hl hm hx (by omega) (by omega) (by omega) (by omega)
        · have hp : pourE s a e h t r at_ = 0 := by rw [pourE, if_pos hl, hm, if_neg (by simp), if_neg hx]
          by_cases n0 : n < 0
          · exact rb_P3aW1a s a e h t r at_ n w hp n0
          · by_cases n1 : 1000000000 < n
            · exact rb_P3aW1b s a e h t r at_ n w hp n1
            · by_cases hk : n ≤ pH s a e h t r at_
              · have hs : pH s a e h t r at_ ≤ s := by unfold pH; split <;> omega
                by_cases hT : 3155759999 < t + waitT a e h r n
                · exact rb_P3bW3 s a e h t r at_ n w hp (by omega) (by omega) (by omega) hT hk
                · exact rb_P3bW4 s a e h t r at_ n w hp (by omega) (by omega) (by omega) (by omega) hk
              · by_cases ns : s < n
                · exact rb_P3cW2 s a e h t r at_ n w hp (by omega) (by omega) ns (by omega)
                · by_cases hT : 3155759999 < t + waitT a e h r n
                  · exact rb_P3cW3 s a e h t r at_ n w hp (by omega) (by omega) (by omega) hT (by omega)
                  · exact rb_P3cW4 s a e h t r at_ n w hp (by omega) (by omega) (by omega) (by omega) (by omega)
      · by_cases n0 : n < 0
        · exact rb_P1W1a s a e h t r at_ n w hl hm n0
        · by_cases n1 : 1000000000 < n
          · exact rb_P1W1b s a e h t r at_ n w hl hm n1
          · by_cases ns : s < n
            · exact rb_P1W2 s a e h t r at_ n w hl hm (by omega) (by omega) ns
            · by_cases hT : 3155759999 < t + waitT a e h r n
              · exact rb_P1W3 s a e h t r at_ n w hl hm (by omega) (by omega) (by omega) hT
              · exact rb_P1W4 s a e h t r at_ n w hl hm (by omega) (by omega) (by omega) (by omega)
    · cases hm : outsideB at_ 0 3155759999
      · exact rb_B1 s a e h t r at_ n w hb hl hm
      · exact rb_B2 s a e h t r at_ n w hb hl hm
  · exact rb_A s a e h t r at_ n w hb
namespace rateBuckets
set_option maxRecDepth 100000 in
theorem walk {H : Type} {enc : TypeId × Value → H} {d0 d1 : DataW H} {p0 p1 : List MemPlace} {base : Nat} {W : World}
    (v0 : Value) (k0 : DataW.Trod enc Try.prog W 0 (fun _ => true) true 29 v0 d0 p0) (ok0 : Value.okWide Try.prog W .any base 29 v0)
    (v1 : Value) (k1 : DataW.Trod enc Try.prog W 0 (fun _ => true) true 31 v1 d1 p1) (ok1 : Value.okWide Try.prog W .any base 31 v1)
    (a2 : Int) (_w2 : (Lit.int .i64 a2).wf = true) (a3 : Int) (_w3 : (Lit.int .i64 a3).wf = true) :
    Calls Try.prog 5 #[v0, v1, .int .i64 a2, .int .i64 a3] W fun e w' => e = .returned (.bool true) ∧ Below W.heap.size W w' := by
  obtain ⟨s, a, e, rfl⟩ := open_bucket ok0 k0
  obtain ⟨h, t, r, rfl⟩ := open_level ok1 k1
  exact rb_all s a e h t r a2 a3 W
end rateBuckets
end Go.Proofs.Ytnbmohekikhknaa
