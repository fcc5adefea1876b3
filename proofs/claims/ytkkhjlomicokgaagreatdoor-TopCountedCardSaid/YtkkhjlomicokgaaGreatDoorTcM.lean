/- TopCounted: the gate, the watch and the book side by side in memory; Ask, Take and Count over them. -/
import Derived.Test.YtkkhjlomicokgaaGreatDoorTcL
import Derived.Test.YtkkhjlomicokgaaGreatDoorBkGr
import Derived.Test.YtkkhjlomicokgaaGreatDoorTpG
namespace Go.Proofs.YtkkhjlomicokgaaGreatDoor.Bk
open Go.RowKit Go.Maps
set_option linter.unusedVariables false
set_option linter.unusedSimpArgs false
/-- The gate (made below G1), the watch (made at G1 and above), the book (made at G2 and above). -/
structure TX where
  Wz : Nat
  G1 : Nat
  G2 : Nat
  p : Nat
  n : Nat
  qc : Nat
  lc : Nat
  rb : Nat
  tb : Nat
  m : Nat
  qA : Option Addr
  lA : Option Addr
  RD : DataW Unit
  Q : List Qt
  pw : Nat
  pb : Nat
  mb : Nat
structure TX.Ok (X : TX) : Prop where
  pb : ∀ j, PB X.p X.n X.qc X.lc X.rb X.tb X.qA X.lA j → j < X.G1
  g12 : X.G1 ≤ X.G2
  wz : X.Wz ≤ X.G1
  q : X.Q.length = X.n
  n5 : X.n ≤ 50
  nm : ∀ q ∈ X.Q, q.name.size ≤ maxLen
def TJ (X : TX) (j kb kw : Nat) (at_ : Int) (w : World) : Prop :=
  ∃ (tn : Nat) (g : Int) (V : List Lv) (TL : List Tl) (T : Nat → Prop) (cs : List al.Ct) (wat : Int) (mn : Nat) (last : Int) (l : List Pr) (bk : List UInt8 → Nat),
    (GP X.Wz w X.p X.n X.qc X.lc X.rb X.tb X.m tn X.qA X.lA X.RD X.Q [] g V TL ∧ VI X.Q V g ∧ TI TL j ∧ tn ≤ j ∧ g ≤ at_) ∧
    (al.PW X.G1 X.pw T [al.wd0 0 rlAll] cs wat 604800 w ∧ Cnt1 cs wat ∧ cs.length = kw ∧ 0 ≤ wat ∧ wat ≤ at_ ∧ ∀ i, T i → X.G1 ≤ i) ∧
    (BM X.G2 w X.pb X.mb mn last (.slice none 0 0) l bk ∧ One l kb last j ∧ mn ≤ j) ∧ (∀ i, T i → ¬ BB X.pb X.mb l bk i) ∧ X.G2 ≤ w.heap.size
section
variable {X : TX} {j kb kw : Nat} {at_ : Int} {w w' : World}
theorem TJ.below (h : TJ X j kb kw at_ w) (hb : Below w.heap.size w w') : TJ X j kb kw at_ w' := by
  obtain ⟨tn, g, V, TL, T, cs, wat, mn, last, l, bk, ⟨h1, h2, h3, h4, h5⟩, ⟨h6, h7, h8, h9, h10, h11⟩, ⟨h12, h13, h14⟩, h15, h16⟩ := h
  have := hb.size
  exact ⟨tn, g, V, TL, T, cs, wat, mn, last, l, bk, ⟨h1.below hb, h2, h3, h4, h5⟩, ⟨h6.below hb, h7, h8, h9, h10, h11⟩, ⟨h12.below hb, h13, h14⟩, h15, by omega⟩
theorem TJ.later (h : TJ X j kb kw at_ w) {t : Int} (ht : at_ ≤ t) : TJ X j kb kw t w := by
  obtain ⟨tn, g, V, TL, T, cs, wat, mn, last, l, bk, ⟨h1, h2, h3, h4, h5⟩, ⟨h6, h7, h8, h9, h10, h11⟩, ⟨h12, h13, h14⟩, h15, h16⟩ := h
  exact ⟨tn, g, V, TL, T, cs, wat, mn, last, l, bk, ⟨h1, h2, h3, h4, by omega⟩, ⟨h6, h7, h8, h9, by omega, h11⟩, ⟨h12, h13, h14⟩, h15, h16⟩
theorem TJ.more (h : TJ X j kb kw at_ w) {i : Nat} (hi : j ≤ i) : TJ X i kb kw at_ w := by
  obtain ⟨tn, g, V, TL, T, cs, wat, mn, last, l, bk, ⟨h1, h2, h3, h4, h5⟩, ⟨h6, h7, h8, h9, h10, h11⟩, ⟨h12, h13, h14⟩, h15, h16⟩ := h
  exact ⟨tn, g, V, TL, T, cs, wat, mn, last, l, bk, ⟨h1, h2, h3.more hi, by omega, h5⟩, ⟨h6, h7, h8, h9, h10, h11⟩, ⟨h12, ⟨h13.nd, by have := h13.len; omega, h13.eq, h13.rng, h13.sum, by have := h13.la; omega⟩, by omega⟩, h15, h16⟩
theorem askO_top (Q : List Qt) (V : List Lv) (TL : List Tl) (id : ByteArray) (t : Int) : (askO Q [] V TL id ⟨#[107]⟩ t).1.1 = 0 → (askO Q [] V TL id ⟨#[107]⟩ t).1.2.2 = 1000000 := by
  unfold askO
  rw [if_neg (fun h => by cases h.1)]
  cases limF Q V ⟨#[107]⟩ t with
  | some i => intro h; cases h
  | none => intro _; rfl
theorem Ask_tj (hX : X.Ok) (h : TJ X j kb kw at_ w) (hj : j ≤ 100) (h0 : 0 ≤ at_) (h1 : at_ ≤ 400000) (id : ByteArray) (hid : id.size ≤ maxLen) :
    Calls Tryz.prog 8 #[.pointer (some ⟨X.p, 0, none⟩), .string id, .string ⟨#[107]⟩, .int .i64 at_] w fun e w' => ∃ (y : Int) (nm : ByteArray) (nn x : Int), e = .returned (.tuple #[.int .i64 y, .string nm, .int .i64 nn, .int .i64 x]) ∧ (x = 0 → y = 0 → nn = 1000000) ∧ TJ X (j + 1) kb kw at_ w' ∧ Below X.Wz w w' := by
  obtain ⟨tn, g, V, TL, T, cs, wat, mn, last, l, bk, ⟨h1', h2, h3, h4, h5⟩, ⟨h6, h7, h8, h9, h10, h11⟩, ⟨h12, h13, h14⟩, h15, h16⟩ := h
  have hW : X.Wz ≤ w.heap.size := by have := hX.g12; have := hX.wz; omega
  by_cases hs : id.size ≤ 200
  · refine (Ask_gpK h1' at_ id ⟨#[107]⟩ hX.q (h2.len.trans hX.q) h2.ok hX.n5 hW h2.t hX.nm ⟨Int.le_refl _, (show (0 : Int) ≤ 1000000 by decide)⟩ (by omega) (fun x => h3.get (by omega) x) hs (by decide) (by decide) (by
      unfold momE
      rw [if_neg (by simp [outsideB]; omega), if_neg (by omega)])).mono ?_
    rintro e w' ⟨rfl, hg, hk⟩
    have hz := hk.be.size
    have hP : ∀ i, (i = X.p ∨ i = X.tb ∨ (Value.slice X.lA X.n X.lc).ownBlock = some i) → i < X.G1 := fun i hi => hX.pb i (by
      rcases hi with e | e | e
      · exact .inl e
      · exact .inr (.inr (.inl e))
      · exact .inr (.inr (.inr (.inr e))))
    refine ⟨_, _, _, 0, rfl, fun _ hy => askO_top X.Q V TL id at_ hy, ⟨tn + 1, at_, _, _, T, cs, wat, mn, last, l, bk, ⟨hg, h2.asked h5 (by omega) [] TL id ⟨#[107]⟩, h3.ask hX.nm (by decide) [] V id at_, by omega, Int.le_refl _⟩, ⟨h6.keep (P := fun i => i = X.p ∨ i = X.tb ∨ (Value.slice X.lA X.n X.lc).ownBlock = some i) (B' := X.Wz) ⟨hk.be, hk.keep⟩ (fun i hi hp => by have := h11 i hi; have := hP i hp; omega), h7, h8, h9, h10, h11⟩, ⟨h12.keep (fun i o hi e => hk.keep i o e (fun hp => by have h20 := h12.ge hi; have h21 := hP i hp; have := hX.g12; omega)), h13.more, by omega⟩, h15, by omega⟩, hk.be⟩
  · refine (Ask_err X.p g at_ id ⟨#[107]⟩ w hid (by decide) ((block_cell h1'.box 3).trans rfl) (by unfold askE; rw [if_pos (by omega)]; decide)).mono ?_
    rintro e w' ⟨rfl, rfl⟩
    refine ⟨0, ⟨#[]⟩, 0, _, rfl, fun hx => ?_, ⟨tn, g, V, TL, T, cs, wat, mn, last, l, bk, ⟨h1', h2, h3.more (Nat.le_succ _), by omega, h5⟩, ⟨h6, h7, h8, h9, h10, h11⟩, ⟨h12, h13.more, by omega⟩, h15, h16⟩, Below.refl _ _⟩
    unfold askE at hx
    rw [if_pos (by omega)] at hx
    exact absurd hx (by decide)
theorem BB_up {p mb : Nat} {l : List Pr} {bk : List UInt8 → Nat} {s : List UInt8} {t : Int} {i : Nat} (h : BB p mb (upP s t 1 l) bk i) : BB p mb l bk i := by
  rcases h with h | h | ⟨r, hr, h⟩
  · exact .inl h
  · exact .inr (.inl h)
  · obtain ⟨x, hx, rfl⟩ := List.mem_map.1 hr
    refine .inr (.inr ⟨x, hx, ?_⟩)
    rw [h]
    split <;> rfl
theorem Take_tj (hX : X.Ok) (h : TJ X j kb kw at_ w) (hj : j ≤ 100) (hkb : kb ≤ 100) (h0 : 0 ≤ at_) (h1 : at_ ≤ 400000) (s : ByteArray) (hs : s.size ≤ maxLen) :
    Calls Tryz.prog 9 #[.pointer (some ⟨X.pb, 0, none⟩), .string s, .int .i64 at_, .int .i64 1] w fun e w' => ∃ (y : Int) (b : Bool) (x : Int), e = .returned (.tuple #[.int .i64 y, .bool b, .int .i64 x]) ∧ (x = 0 → TJ X (j + 1) (kb + 1) kw at_ w') ∧ (x ≠ 0 → TJ X (j + 1) kb kw at_ w') ∧ Below X.Wz w w' := by
  have hj0 := h
  obtain ⟨tn, g, V, TL, T, cs, wat, mn, last, l, bk, ⟨h1', h2, h3, h4, h5⟩, ⟨h6, h7, h8, h9, h10, h11⟩, ⟨h12, h13, h14⟩, h15, h16⟩ := h
  have hg2 := hX.g12
  have hwz := hX.wz
  have hG : ∀ (w' : World) (P : Nat → Prop), Keep X.G2 P w w' → (∀ i, P i → X.G2 ≤ i) → GP X.Wz w' X.p X.n X.qc X.lc X.rb X.tb X.m tn X.qA X.lA X.RD X.Q [] g V TL := fun w' P hk hP => h1'.keep fun i o hi e => hk.keep i o e (fun hp => by have := hX.pb i hi; have := hP i hp; omega)
  have hPW : ∀ (w' : World) (P : Nat → Prop), Keep X.G2 P w w' → (∀ i, P i → BB X.pb X.mb l bk i) → al.PW X.G1 X.pw T [al.wd0 0 rlAll] cs wat 604800 w' := fun w' P hk hP => h6.keep (P := P) (B' := X.G2) ⟨hk.be, hk.keep⟩ fun i hi hp => h15 i hi (hP i hp)
  by_cases hE : tkE s at_ 1 = 0
  · by_cases hin : s.data.toList ∈ l.map Pr.p
    · obtain ⟨r, hr, hrp⟩ := List.mem_map.1 hin
      have hok := h13.ok (by omega) (by omega) r hr
      refine (Take_old h12 s at_ 1 hE r hr hrp hok.ev hok.wt h16).mono ?_
      rintro e w' ⟨rfl, hb, hk⟩
      have hz := hk.be.size
      have hP : ∀ i, i = bk r.p → BB X.pb X.mb l bk i := fun i hi => .inr (.inr ⟨r, hr, hi⟩)
      refine ⟨_, _, 0, rfl, fun _ => ⟨tn, g, V, TL, T, cs, wat, mn, last, _, bk, ⟨hG w' _ hk (fun i hi => h12.ge (hP i hi)), h2, h3.more (Nat.le_succ _), by omega, h5⟩, ⟨hPW w' _ hk hP, h7, h8, h9, h10, h11⟩, ⟨hb, h13.old hin, by omega⟩, fun i hi hb => h15 i hi (BB_up hb), by omega⟩, fun h => absurd rfl h, hk.be.mono (by omega)⟩
    · have hlen := h13.len
      have hla := h13.la
      refine (Take_new h12 s at_ 1 hE hin (by omega) (by omega) (by omega) h16).mono ?_
      rintro e w' ⟨rfl, ⟨k, hkz, hb⟩, hk⟩
      have hz := hk.be.size
      have hP : ∀ i, (i = X.pb ∨ i = X.mb) → BB X.pb X.mb l bk i := fun i hi => by
        rcases hi with e | e
        · exact .inl e
        · exact .inr (.inl e)
      refine ⟨_, _, 0, rfl, fun _ => ⟨tn, g, V, TL, T, cs, wat, mn + 1, last + 1, _, _, ⟨hG w' _ hk (fun i hi => h12.ge (hP i hi)), h2, h3.more (Nat.le_succ _), by omega, h5⟩, ⟨hPW w' _ hk hP, h7, h8, h9, h10, h11⟩, ⟨hb, h13.new hin, by omega⟩, fun i hi hb => ?_, by omega⟩, fun h => absurd rfl h, hk.be.mono (by omega)⟩
      rcases hb with hb | hb | ⟨r, hr, hb⟩
      · exact h15 i hi (.inl hb)
      · exact h15 i hi (.inr (.inl hb))
      · rcases List.mem_append.1 hr with hr | hr
        · try dsimp only at hb
          rw [if_neg (fun e => hin (List.mem_map.2 ⟨r, hr, e⟩))] at hb
          exact h15 i hi (.inr (.inr ⟨r, hr, hb⟩))
        · obtain rfl : r = newR s.data.toList last at_ 1 := by simpa using hr
          try dsimp only at hb
          rw [show (newR s.data.toList last at_ 1).p = s.data.toList from rfl, if_pos rfl] at hb
          have := h6.lt i hi
          omega
  · refine (Take_bad X.pb s at_ 1 w hs hE).mono ?_
    rintro e w' ⟨rfl, hb⟩
    exact ⟨0, false, _, rfl, fun h => absurd h hE, fun _ => (hj0.below hb).more (Nat.le_succ _), hb.mono (by omega)⟩
theorem Count_tj (hX : X.Ok) (h : TJ X j kb kw at_ w) (hkw : kw ≤ 100) (h0 : 0 ≤ at_) (h1 : at_ ≤ 400000) :
    Calls Tryz.prog 10 #[.pointer (some ⟨X.pw, 0, none⟩), .string ⟨#[107]⟩, .int .i64 at_, .int .i64 1] w fun e w' => e = .returned (.int .i64 0) ∧ TJ X j kb (kw + 1) at_ w' ∧ Below X.Wz w w' := by
  obtain ⟨tn, g, V, TL, T, cs, wat, mn, last, l, bk, ⟨h1', h2, h3, h4, h5⟩, ⟨h6, h7, h8, h9, h10, h11⟩, ⟨h12, h13, h14⟩, h15, h16⟩ := h
  have hg2 := hX.g12
  have hwz := hX.wz
  have hE : al.cntErr ⟨#[107]⟩ at_ 1 wat = 0 := by
    unfold al.cntErr
    rw [if_pos (by decide), if_neg (by simp [al.momB, outsideB]; omega), if_neg (by omega)]
  have hC := al.Count_pw h6 ⟨#[107]⟩ at_ 1 (by decide) (by omega)
  rw [hE, if_pos rfl, if_pos rfl] at hC
  refine hC.mono ?_
  rintro e w' ⟨T', rfl, hp, hk, hT⟩
  have hz := hk.be.size
  refine ⟨rfl, ⟨tn, g, V, TL, T', _, at_, mn, last, l, bk, ⟨h1'.keep fun i o hi e => hk.keep i o e (fun hp => by have := hX.pb i hi; have := h11 i hp; omega), h2, h3, h4, h5⟩, ⟨hp, (h7.up h10).snoc h0, by simp [h8], h0, Int.le_refl _, fun i hi => ?_⟩, ⟨h12.keep fun i o hi e => hk.keep i o e (fun hp => h15 i hp hi), h13, h14⟩, fun i hi hb => ?_, by omega⟩, hk.be.mono (by omega)⟩
  · rcases hT i hi with h | h
    · exact h11 i h
    · omega
  · rcases hT i hi with h | h
    · exact h15 i h hb
    · have := h12.lt hb; omega
end
end Go.Proofs.YtkkhjlomicokgaaGreatDoor.Bk
