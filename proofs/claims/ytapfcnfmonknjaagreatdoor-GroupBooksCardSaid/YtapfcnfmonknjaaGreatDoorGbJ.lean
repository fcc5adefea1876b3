/- Both books side by side: what is kept through each deed. -/
import Derived.Test.YtapfcnfmonknjaaGreatDoorGbE
import Derived.Test.YtapfcnfmonknjaaGreatDoorGbO
import Derived.Test.YtapfcnfmonknjaaGreatDoorBkUn
import Derived.Test.YtapfcnfmonknjaaGreatDoorRbTk
import Derived.Test.YtapfcnfmonknjaaGreatDoorRbMe
import Derived.Test.YtapfcnfmonknjaaGreatDoorRbUn
import Derived.Test.YtapfcnfmonknjaaGreatDoorRbSp
import Derived.Test.YtapfcnfmonknjaaGreatDoorRbGr
namespace Go.Proofs.YtapfcnfmonknjaaGreatDoor.Bk
open Go.RowKit Go.Maps Go.Sort
set_option linter.unusedVariables false
set_option linter.unusedSimpArgs false
/-- Where the two books lie. -/
structure GX where
  B : Nat
  p : Nat
  mb : Nat
  q : Nat
/-- Records behind i deeds. -/
structure RecB (l : List Pr) (last : Int) (i : Nat) : Prop where
  nd : (l.map Pr.p).Nodup
  len : l.length ≤ i
  sz : ∀ r ∈ l, r.p.length ≤ 200
  rng : ∀ r ∈ l, (1 ≤ r.g ∧ r.g ≤ last) ∧ (0 ≤ r.ev ∧ r.ev ≤ i) ∧ (0 ≤ r.wt ∧ r.wt ≤ 1000000 * i)
  la : 0 ≤ last ∧ last ≤ i
theorem RecB.start : RecB [] 0 0 := ⟨by simp, Nat.le_refl _, by simp, by simp, by omega⟩
section
variable {l : List Pr} {last : Int} {i : Nat}
theorem RecB.more (h : RecB l last i) : RecB l last (i + 1) := ⟨h.nd, by have := h.len; omega, h.sz, fun r hr => by have := h.rng r hr; omega, by have := h.la; omega⟩
theorem RecB.ok (h : RecB l last i) (hi : i ≤ 1000) : ∀ r ∈ l, PrOk r := fun r hr => by
  have h1 := h.rng r hr
  have h2 := h.la
  exact ⟨by omega, by omega, by omega⟩
theorem mem_upB {s : List UInt8} {t wt : Int} {l : List Pr} {y : Pr} (h : y ∈ upP s t wt l) : ∃ x ∈ l, y = x ∨ y = upR t wt x := by
  obtain ⟨x, hx, rfl⟩ := List.mem_map.1 h
  refine ⟨x, hx, ?_⟩
  split
  · exact .inr rfl
  · exact .inl rfl
theorem RecB.old (h : RecB l last i) {s : List UInt8} {t wt : Int} (hw : 0 ≤ wt ∧ wt ≤ 1000000) : RecB (upP s t wt l) last (i + 1) := by
  refine ⟨by rw [upP_keys]; exact h.nd, by rw [upP, List.length_map]; have := h.len; omega, fun y hy => ?_, fun y hy => ?_, by have := h.la; omega⟩
  · obtain ⟨x, hx, rfl | rfl⟩ := mem_upB hy
    · exact h.sz _ hx
    · have h9 := h.sz x hx; exact h9
  · obtain ⟨x, hx, rfl | rfl⟩ := mem_upB hy
    · have := h.rng _ hx; omega
    · have := h.rng _ hx; simp only [upR]; omega
theorem RecB.new (h : RecB l last i) {s : List UInt8} (hs : s ∉ l.map Pr.p) (hsz : s.length ≤ 200) {t wt : Int} (hw : 0 ≤ wt ∧ wt ≤ 1000000) : RecB (l ++ [newR s last t wt]) (last + 1) (i + 1) := by
  have hin : ∀ y ∈ l ++ [newR s last t wt], y ∈ l ∨ y = newR s last t wt := fun y hy => by simpa using hy
  have hla := h.la
  refine ⟨?_, by have := h.len; simp; omega, fun y hy => ?_, fun y hy => ?_, by omega⟩
  · rw [List.map_append, List.nodup_append]
    refine ⟨h.nd, by simp, fun a ha b hb => ?_⟩
    simp at hb
    subst hb
    exact fun e => hs (by exact e ▸ ha)
  · rcases hin y hy with hy | rfl
    · exact h.sz y hy
    · exact hsz
  · rcases hin y hy with hy | rfl
    · have := h.rng y hy; omega
    · simp only [newR]; omega
theorem RecB.mv (h : RecB l last i) (ps : List (List UInt8)) (id : Int) {last' : Int} (hid : 1 ≤ id ∧ id ≤ last') (hl : last ≤ last') (hl2 : last' ≤ i + 1) : RecB (mvL ps id l) last' (i + 1) := by
  have hla := h.la
  refine ⟨by rw [mvL_keys]; exact h.nd, by rw [mvL, List.length_map]; have := h.len; omega, fun y hy => ?_, fun y hy => ?_, by omega⟩
  · obtain ⟨x, hx, e, _⟩ := mem_mvL hy
    rw [e]; exact h.sz x hx
  · obtain ⟨x, hx, _, ⟨_, rfl⟩ | ⟨_, rfl⟩⟩ := mem_mvL hy
    · have := h.rng x hx
      exact ⟨hid, by show 0 ≤ x.ev ∧ x.ev ≤ _; omega, by show 0 ≤ x.wt ∧ x.wt ≤ _; omega⟩
    · have := h.rng y hx; omega
end
/-- To where a step goes back. -/
def Stp.tgt (st : Stp) : Int := if st.kind = 1 then st.b else st.a
structure StOk (ks : List (List UInt8)) (last : Int) (st : Stp) : Prop where
  kd : st.kind = 1 ∨ st.kind = 2
  len : st.ps.length ≤ 1000
  ps : ∀ s ∈ st.ps, s ∈ ks ∧ s.length ≤ 200
  tg : 1 ≤ st.tgt ∧ st.tgt ≤ last
theorem StOk.more {ks ks' : List (List UInt8)} {last last' : Int} {st : Stp} (h : StOk ks last st) (hk : ∀ s ∈ ks, s ∈ ks') (hl : last ≤ last') : StOk ks' last' st :=
  ⟨h.kd, h.len, fun s hs => ⟨hk s (h.ps s hs).1, (h.ps s hs).2⟩, h.tg.1, Int.le_trans h.tg.2 hl⟩
theorem mvL_perm {l m : List Pr} (h : l.Perm m) (ps : List (List UInt8)) (id : Int) : (mvL ps id l).Perm (mvL ps id m) := h.map _
theorem mE_perm {l m : List Pr} (h : l.Perm m) (a b : Int) : mE l a b = mE m a b := by rw [mE, mE, prs_perm h, prs_perm h]
theorem undL_key {x y : Stp} (h : x.key = y.key) (l : List Pr) : undL x l = undL y l := by
  simp only [Stp.key, Prod.mk.injEq] at h
  obtain ⟨h1, h2, h3, h4⟩ := h
  rw [undL, undL, h1, h2, h3, h4]
structure GD (X : GX) (w : World) (mn : Nat) (last : Int) (sv : Value) (l : List Pr) (bk : List UInt8 → Nat) (ss : List Stp) (lv rsv : Value) (lr : List Pr) (rss : List Stp) (i : Nat) : Prop where
  bs : BS X.B w X.p X.mb mn last sv l bk ss
  rs : RS X.B w X.q lv last rsv lr rss
  rc : RecB l last i
  mn : mn ≤ i
  pm : l.Perm lr
  up : Up lr
  st : ∀ s ∈ ss, StOk (l.map Pr.p) last s
  sl : ss.length ≤ i
  ky : ss.map Stp.key = rss.map Stp.key
  ap : ∀ k, SB X.p X.mb sv l bk ss k → ¬ RSB X.q lv rsv rss k
  bz : X.B ≤ w.heap.size
def GJ (X : GX) (i : Nat) (w : World) : Prop := ∃ (mn : Nat) (last : Int) (sv : Value) (l : List Pr) (bk : List UInt8 → Nat) (ss : List Stp) (lv rsv : Value) (lr : List Pr) (rss : List Stp), GD X w mn last sv l bk ss lv rsv lr rss i
section
variable {X : GX} {w w1 W w2 : World} {mn : Nat} {last : Int} {sv : Value} {l : List Pr} {bk : List UInt8 → Nat} {ss : List Stp} {lv rsv : Value} {lr : List Pr} {rss : List Stp} {i : Nat}
  {mn' : Nat} {last' : Int} {sv' : Value} {l' : List Pr} {bk' : List UInt8 → Nat} {ss' : List Stp} {lv' rsv' : Value} {lr' : List Pr} {rss' : List Stp}
theorem GD.below (h : GD X w mn last sv l bk ss lv rsv lr rss i) (hb : Below w.heap.size w w1) : GD X w1 mn last sv l bk ss lv rsv lr rss i :=
  ⟨h.bs.below hb, h.rs.below hb, h.rc, h.mn, h.pm, h.up, h.st, h.sl, h.ky, h.ap, Nat.le_trans h.bz hb.size⟩
theorem GD.more (h : GD X w mn last sv l bk ss lv rsv lr rss i) : GD X w mn last sv l bk ss lv rsv lr rss (i + 1) :=
  ⟨h.bs, h.rs, h.rc.more, by have := h.mn; omega, h.pm, h.up, h.st, by have := h.sl; omega, h.ky, h.ap, h.bz⟩
theorem GJ.below (h : GJ X i w) (hb : Below w.heap.size w w1) : GJ X i w1 := by
  obtain ⟨a, b, c, d, e, f, g, j, k, m, h⟩ := h
  exact ⟨a, b, c, d, e, f, g, j, k, m, h.below hb⟩
theorem GJ.bz (h : GJ X i w) : X.B ≤ w.heap.size := by
  obtain ⟨a, b, c, d, e, f, g, j, k, m, h⟩ := h
  exact h.bz
theorem GD.nr (h : GD X w mn last sv l bk ss lv rsv lr rss i) : (lr.map Pr.p).Nodup := h.up.nd
theorem GD.lenr (h : GD X w mn last sv l bk ss lv rsv lr rss i) : lr.length ≤ i := by rw [← h.pm.length_eq]; exact h.rc.len
theorem GD.lens (h : GD X w mn last sv l bk ss lv rsv lr rss i) : rss.length = ss.length := by
  have := congrArg List.length h.ky
  simpa using this.symm
/-- The program's book has made its deed: the reference's is as it was. -/
theorem GD.first (h : GD X w mn last sv l bk ss lv rsv lr rss i) (hk : Keep X.B (SB X.p X.mb sv l bk ss) w w1) (hs : ∀ k, SB X.p X.mb sv' l' bk' ss' k → SB X.p X.mb sv l bk ss k ∨ w.heap.size ≤ k) :
    RS X.B w1 X.q lv last rsv lr rss ∧ ∀ k, SB X.p X.mb sv' l' bk' ss' k → ¬ RSB X.q lv rsv rss k := by
  refine ⟨h.rs.keep fun k o hb e => hk.keep k o e (fun hp => h.ap k hp hb), fun k hp hr => ?_⟩
  rcases hs k hp with h1 | h1
  · exact h.ap k h1 hr
  · have := h.rs.lt hr
    omega
/-- .. and then the reference's book. -/
theorem second (hb : BS X.B W X.p X.mb mn' last' sv' l' bk' ss') (ha : ∀ k, SB X.p X.mb sv' l' bk' ss' k → ¬ RSB X.q lv rsv rss k) (hk : Keep X.B (RSB X.q lv rsv rss) W w2) (hs : ∀ k, RSB X.q lv' rsv' rss' k → RSB X.q lv rsv rss k ∨ W.heap.size ≤ k) :
    BS X.B w2 X.p X.mb mn' last' sv' l' bk' ss' ∧ ∀ k, SB X.p X.mb sv' l' bk' ss' k → ¬ RSB X.q lv' rsv' rss' k := by
  refine ⟨hb.keep fun k o hp e => hk.keep k o e (ha k hp), fun k hp hr => ?_⟩
  rcases hs k hr with h1 | h1
  · exact ha k hp h1
  · have := hb.lt hp
    omega
theorem sb_old {s : List UInt8} {t wt : Int} {k : Nat} (h : SB X.p X.mb sv (upP s t wt l) bk ss k) : SB X.p X.mb sv l bk ss k := by
  rcases h with h | h | h
  · rcases h with h | h | ⟨r, hr, h⟩
    · exact .inl (.inl h)
    · exact .inl (.inr (.inl h))
    · have h1 : r.p ∈ (upP s t wt l).map Pr.p := List.mem_map.2 ⟨r, hr, rfl⟩
      rw [upP_keys] at h1
      obtain ⟨x, hx, e⟩ := List.mem_map.1 h1
      exact .inl (.inr (.inr ⟨x, hx, by rw [h, e]⟩))
  · exact .inr (.inl h)
  · exact .inr (.inr h)
/-- Boxes of deeds stay. -/
def DK (w w1 : World) : Prop := ∀ (z : Nat) (cs : Array Value), w.heap[z]? = some (.cells cs 32 (0, 0)) → w1.heap[z]? = some (.cells cs 32 (0, 0))
theorem DK.below (h : Below w.heap.size w w1) : DK w w1 := fun z cs e => block_below e h
theorem BS.dk {B p mb : Nat} (h : BS B w p mb mn last sv l bk ss) {B' : Nat} (hk : Keep B' (SB p mb sv l bk ss) w w1) : DK w w1 := fun z cs e => hk.keep z _ e fun hp => by
  rcases hp with hp | hp | ⟨s, hs, hp⟩
  · obtain ⟨D, ⟨es, ck, h1, _⟩, h2⟩ := h.bm.map
    rcases hp with rfl | rfl | ⟨r, hr, rfl⟩
    · rw [h.bm.box] at e; cases e
    · rw [h1] at e; cases e
    · rw [h.bm.cell r hr] at e; cases e
  · obtain ⟨cur, h1⟩ := row_blkB h.row hp
    rw [h1] at e; cases e
  · obtain ⟨cur, h1⟩ := row_blkB (h.ps s hs) hp
    rw [h1] at e; cases e
/-- What a pair of calls leaves. -/
def Two (X : GX) (f : FuncId) (args : Array Value) (v : Value) (i : Nat) (w w1 : World) : Prop := Below X.B w w1 ∧ DK w w1 ∧ ∀ W, Below w1.heap.size w1 W → Calls Tryz.prog f args W fun e2 w2 => e2 = .returned v ∧ Below X.B W w2 ∧ GJ X i w2
set_option maxHeartbeats 1000000 in
theorem Take_gj (h : GJ X i w) (hi : i ≤ 100) (s : ByteArray) (at_ wt : Int) (hs : s.size ≤ maxLen) :
    Calls Tryz.prog 5 #[.pointer (some ⟨X.p, 0, none⟩), .string s, .int .i64 at_, .int .i64 wt] w fun e w1 => ∃ (y : Int) (b : Bool) (x : Int), e = .returned (.tuple #[.int .i64 y, .bool b, .int .i64 x]) ∧ Two X 6 #[.pointer (some ⟨X.q, 0, none⟩), .string s, .int .i64 at_, .int .i64 wt] (.tuple #[.int .i64 y, .bool b, .int .i64 x]) (i + 1) w w1 := by
  obtain ⟨mn, last, sv, l, bk, ss, lv, rsv, lr, rss, h⟩ := h
  have hlen := h.rc.len
  have hlr := h.lenr
  have hla := h.rc.la
  have hmn := h.mn
  have hbz := h.bz
  by_cases hE : tkE s at_ wt = 0
  · obtain ⟨e1, e2, e3⟩ := tkE_ok hE
    have h16 := isP_size e1
    have hwt : 1 ≤ wt ∧ wt ≤ 1000000 := by simp [outB] at e3; omega
    by_cases hin : s.data.toList ∈ l.map Pr.p
    · obtain ⟨r, hr, hrp⟩ := List.mem_map.1 hin
      have hok := h.rc.ok (by omega) r hr
      refine (Take_old h.bs.bm s at_ wt hE r hr hrp hok.ev hok.wt hbz).mono ?_
      rintro e w1 ⟨rfl, hb, hk⟩
      have hk1 : Keep X.B (SB X.p X.mb sv l bk ss) w w1 := hk.mono (Nat.le_refl _) fun k hk => .inl (.inr (.inr ⟨r, hr, hk⟩))
      have hbs := h.bs.book hb (fun k o e u => hk.keep k o e u) (fun k hk => .inr (.inr ⟨r, hr, hk⟩))
      obtain ⟨hrs, hap⟩ := h.first (sv' := sv) (l' := upP s.data.toList at_ wt l) (bk' := bk) (ss' := ss) hk1 (fun k hk => .inl (sb_old hk))
      refine ⟨r.g, false, 0, rfl, hk.be, h.bs.dk hk1, fun W hW => ?_⟩
      have hbzW : X.B ≤ W.heap.size := Nat.le_trans (Nat.le_trans hbz hk.be.size) hW.size
      refine (RTake_old (hrs.below hW).rm h.up (by omega) s at_ wt hE r (h.pm.subset hr) hrp hok.ev hok.wt hbzW).mono ?_
      rintro e w2 ⟨rfl, hm, hk2⟩
      have hk3 : Keep X.B (RSB X.q lv rsv rss) W w2 := hk2.mono (Nat.le_refl _) fun k hk => .inl (.inr hk)
      obtain ⟨hbs2, hap2⟩ := second (lv' := lv) (rsv' := rsv) (rss' := rss) (hbs.below hW) hap hk3 (fun k hk => .inl hk)
      refine ⟨rfl, hk2.be, mn, last, sv, _, bk, ss, lv, rsv, _, rss, hbs2, (hrs.below hW).book hm (fun k o e u => hk2.keep k o e u) (fun k hk => .inr hk), h.rc.old (by omega), by omega, h.pm.map _, h.up.upP _ _ _, fun st hst => (h.st st hst).more (fun s hs => by rw [upP_keys]; exact hs) (Int.le_refl _), by have := h.sl; omega, h.ky, hap2, Nat.le_trans hbzW hk2.be.size⟩
    · refine (Take_new h.bs.bm s at_ wt hE hin (by omega) (by omega) (by omega) hbz).mono ?_
      rintro e w1 ⟨rfl, ⟨kn, hkz, hb⟩, hk⟩
      have hk1 : Keep X.B (SB X.p X.mb sv l bk ss) w w1 := hk.mono (Nat.le_refl _) fun k hk => by rcases hk with h | h; exact .inl (.inl h); exact .inl (.inr (.inl h))
      have hbs := h.bs.book hb (fun k o e u => hk.keep k o e u) (fun k hk => by rcases hk with h | h; exact .inl h; exact .inr (.inl h))
      have hlt9 : ∀ r ∈ l, r.p ≠ s.data.toList := fun r hr e => hin (List.mem_map.2 ⟨r, hr, e⟩)
      obtain ⟨hrs, hap⟩ := h.first (sv' := sv) (l' := l ++ [newR s.data.toList last at_ wt]) (bk' := fun y => if y = s.data.toList then kn else bk y) (ss' := ss) hk1 (fun k hk => by
        rcases hk with hk | hk | hk
        · rcases hk with hk | hk | ⟨r, hr, hk⟩
          · exact .inl (.inl (.inl hk))
          · exact .inl (.inl (.inr (.inl hk)))
          · rcases List.mem_append.1 hr with hr | hr
            · dsimp only at hk
              rw [if_neg (hlt9 r hr)] at hk
              exact .inl (.inl (.inr (.inr ⟨r, hr, hk⟩)))
            · rw [List.mem_singleton.1 hr] at hk
              dsimp only [newR] at hk
              rw [if_pos rfl] at hk
              exact .inr (by omega)
        · exact .inl (.inr (.inl hk))
        · exact .inl (.inr (.inr hk)))
      refine ⟨last + 1, true, 0, rfl, hk.be, h.bs.dk hk1, fun W hW => ?_⟩
      have hbzW : X.B ≤ W.heap.size := Nat.le_trans (Nat.le_trans hbz hk.be.size) hW.size
      have hinr : s.data.toList ∉ lr.map Pr.p := fun hx => hin ((h.pm.map Pr.p).symm.subset hx)
      refine (RTake_new (hrs.below hW).rm h.up s at_ wt hE hinr (by omega) (by omega) hbzW).mono ?_
      rintro e w2 ⟨rfl, ⟨lv', lr', hp', hu', hm, hlv⟩, hk2⟩
      have hk3 : Keep X.B (RSB X.q lv rsv rss) W w2 := hk2.mono (Nat.le_refl _) fun k hk => .inl hk
      obtain ⟨hbs2, hap2⟩ := second (lv' := lv') (rsv' := rsv) (rss' := rss) (hbs.below hW) hap hk3 (fun k hk => by
        rcases hk with hk | hk
        · rcases hk with hk | hk
          · exact .inl (.inl (.inl hk))
          · rcases hlv k hk with h1 | h1
            · exact .inl (.inl (.inr h1))
            · exact .inr h1
        · exact .inl (.inr hk))
      refine ⟨rfl, hk2.be, mn + 1, last + 1, sv, _, _, ss, lv', rsv, lr', rss, hbs2, (hrs.below hW).book hm (fun k o e u => hk2.keep k o e u) (fun k hk => hk), h.rc.new hin (by rw [show s.data.toList.length = s.size from rfl, h16]; decide) (by omega), by omega, (h.pm.append_right _).trans hp'.symm, hu', fun st hst => (h.st st hst).more (fun s hs => by rw [List.map_append]; exact List.mem_append_left _ hs) (by omega), by have := h.sl; omega, h.ky, hap2, Nat.le_trans hbzW hk2.be.size⟩
  · refine (Take_bad X.p s at_ wt w hs hE).mono ?_
    rintro e w1 ⟨rfl, hb⟩
    refine ⟨0, false, _, rfl, hb.mono hbz, DK.below hb, fun W hW => ?_⟩
    have h1 := (h.below hb).below hW
    refine (RTake_bad X.q s at_ wt W hs hE).mono ?_
    rintro e w2 ⟨rfl, hb2⟩
    exact ⟨rfl, hb2.mono h1.bz, _, _, _, _, _, _, _, _, _, _, (h1.below hb2).more⟩
set_option maxHeartbeats 1000000 in
theorem Merge_gj (h : GJ X i w) (hi : i ≤ 100) (a b : Int) :
    Calls Tryz.prog 7 #[.pointer (some ⟨X.p, 0, none⟩), .int .i64 a, .int .i64 b] w fun e w1 => ∃ x : Int, e = .returned (.int .i64 x) ∧ Two X 8 #[.pointer (some ⟨X.q, 0, none⟩), .int .i64 a, .int .i64 b] (.int .i64 x) (i + 1) w w1 := by
  obtain ⟨mn, last, sv, l, bk, ss, lv, rsv, lr, rss, h⟩ := h
  have hlen := h.rc.len
  have hlr := h.lenr
  have hla := h.rc.la
  have hmn := h.mn
  have hbz := h.bz
  have hsl := h.sl
  have hrl := h.lens
  by_cases hE : mE l a b = 0
  · obtain ⟨n1, n2, n3⟩ := mE_ok hE
    refine (Merge_ok h.bs h.rc.nd (by omega) h.rc.sz a b hE (by omega) hbz).mono ?_
    rintro e w1 ⟨rfl, sv', st, k1, k2, k3, k4, k5, k6, k7⟩
    obtain ⟨hrs, hap⟩ := h.first (sv' := sv') (l' := mvL (prs b l) a l) (bk' := bk) (ss' := ss ++ [st]) k6 k7
    refine ⟨0, rfl, k6.be, h.bs.dk k6, fun W hW => ?_⟩
    have hbzW : X.B ≤ W.heap.size := Nat.le_trans (Nat.le_trans hbz k6.be.size) hW.size
    refine (RMerge_ok (hrs.below hW) h.up (by omega) a b (by rw [← mE_perm h.pm]; exact hE) (by omega) hbzW).mono ?_
    rintro e w2 ⟨rfl, rsv', rst, r1, r2, r3, r4, r5, r6, r7⟩
    obtain ⟨hbs2, hap2⟩ := second (lv' := lv) (rsv' := rsv') (rss' := rss ++ [rst]) (k1.below hW) hap r6 r7
    obtain ⟨s0, hs0⟩ := List.exists_mem_of_ne_nil _ n2
    obtain ⟨r0, hr0, hg0, _⟩ := mem_prs.1 hs0
    have hga := (h.rc.rng r0 hr0).1
    obtain ⟨s1, hs1⟩ := List.exists_mem_of_ne_nil _ n1
    obtain ⟨r9, hr9, hg9, _⟩ := mem_prs.1 hs1
    have hgb := (h.rc.rng r9 hr9).1
    have hpp := prs_perm h.pm b
    refine ⟨rfl, r6.be, mn, last, sv', _, bk, _, lv, rsv', _, _, hbs2, r1, h.rc.mv _ a (by omega) (Int.le_refl _) (by omega), by omega, by rw [hpp]; exact mvL_perm h.pm _ _, h.up.mapG fun r => (by split <;> rfl), fun s hs => ?_, by rw [List.length_append, List.length_singleton]; omega, ?_, hap2, Nat.le_trans hbzW r6.be.size⟩
    · rcases List.mem_append.1 hs with hs | hs
      · exact (h.st s hs).more (fun s hs => by rw [mvL_keys]; exact hs) (Int.le_refl _)
      · rw [List.mem_singleton.1 hs]
        refine ⟨.inl k2, by rw [k5]; have := prs_len b l; omega, fun s hs => ?_, by rw [Stp.tgt, if_pos k2, k4]; omega⟩
        rw [k5] at hs
        obtain ⟨r, hr, _, e⟩ := mem_prs.1 hs
        exact ⟨by rw [mvL_keys]; exact List.mem_map.2 ⟨r, hr, e⟩, by rw [← e]; exact h.rc.sz r hr⟩
    · rw [List.map_append, List.map_append, h.ky, List.map_singleton, List.map_singleton, Stp.key, Stp.key, k2, k3, k4, k5, r2, r3, r4, r5, hpp]
  · refine (Merge_bad h.bs.bm h.rc.nd (by omega) a b hE).mono ?_
    rintro e w1 ⟨rfl, hb⟩
    refine ⟨_, rfl, hb.mono hbz, DK.below hb, fun W hW => ?_⟩
    have h1 := (h.below hb).below hW
    have e9 := mE_perm h.pm a b
    refine (RMerge_bad h1.rs.rm h.up (by omega) a b (by rw [← e9]; exact hE)).mono ?_
    rintro e w2 ⟨rfl, hb2⟩
    exact ⟨by rw [e9], hb2.mono h1.bz, _, _, _, _, _, _, _, _, _, _, (h1.below hb2).more⟩
set_option maxHeartbeats 1000000 in
theorem Split_gj (h : GJ X i w) (hi : i ≤ 100) (a : Int) (A : Option Addr) (n c : Nat) (ps : List (List UInt8)) (hs : Sl w X.B se 1 A n ps) (hn : n ≤ maxLen) (hsz : ∀ s ∈ ps, s.length ≤ maxLen) :
    Calls Tryz.prog 9 #[.pointer (some ⟨X.p, 0, none⟩), .int .i64 a, .slice A n c] w fun e w1 => ∃ z x : Int, e = .returned (.tuple #[.int .i64 z, .int .i64 x]) ∧ Two X 10 #[.pointer (some ⟨X.q, 0, none⟩), .int .i64 a, .slice A n c] (.tuple #[.int .i64 z, .int .i64 x]) (i + 1) w w1 := by
  obtain ⟨mn, last, sv, l, bk, ss, lv, rsv, lr, rss, h⟩ := h
  have hlen := h.rc.len
  have hlr := h.lenr
  have hla := h.rc.la
  have hmn := h.mn
  have hbz := h.bz
  have hsl := h.sl
  have hrl := h.lens
  have hpp := prs_perm h.pm a
  have hup : ∀ {V : World}, Below X.B w V → Sl V V.heap.size se 1 A n ps := fun {V} hV => ⟨hs.len, fun h0 => by
    obtain ⟨b, o, e, hlt, hc⟩ := hs.cells h0
    exact ⟨b, o, e, Nat.lt_of_lt_of_le hlt (Nat.le_trans hbz hV.size), fun i a ha j v hv => (hV.cell (p := ⟨b, o + i * 1 + j, none⟩) hlt).trans (hc i a ha j v hv)⟩⟩
  have hbl : ∀ b o, 0 < n → A = some ⟨b, o, none⟩ → b < X.B := fun b o h0 e => by
    obtain ⟨b', o', e', hlt, _⟩ := hs.cells h0
    rw [e] at e'
    cases e'
    exact hlt
  refine (Split_any h.bs h.rc.nd (by omega) (by omega) a A n c ps (hup (Below.refl _ _)) hn hsz (fun h0 b o e => ⟨fun hb => by have := h.bs.ge (.inl hb); have := hbl b o h0 e; omega, fun hb => by have := h.bs.ge (.inr (.inl hb)); have := hbl b o h0 e; omega⟩) (by omega) hbz).mono ?_
  rintro e w1 ⟨z, x, rfl, ⟨hx, hb, rfl, rfl⟩ | ⟨rfl, hall, hps9, rfl, hE0, sv', st, k1, k2, k3, k4, k5, k6, k7⟩⟩
  · refine ⟨_, _, rfl, hb.mono hbz, DK.below hb, fun W hW => ?_⟩
    have h1 := (h.below hb).below hW
    have hBW : Below X.B w W := (hb.mono hbz).trans (hW.mono (Nat.le_trans hbz hb.size))
    refine (RSplit_any h1.rs h.up (by omega) (by omega) a A n c ps (hup hBW) hn hsz (fun h0 b o e => ⟨fun hb => by have := h1.rs.ge (.inl hb); have := hbl b o h0 e; omega, fun hb => by have := h1.rs.ge (.inr (.inl hb)); have := hbl b o h0 e; omega⟩) (by omega) h1.bz).mono ?_
    rintro e w2 ⟨z2, x2, rfl, ⟨_, hb2, rfl, rfl⟩ | ⟨_, _, _, _, hE0, _⟩⟩
    · exact ⟨by rw [hpp], hb2.mono h1.bz, _, _, _, _, _, _, _, _, _, _, (h1.below hb2).more⟩
    · rw [← hpp] at hE0
      exact absurd hE0 hx
  · obtain ⟨hrs, hap⟩ := h.first (sv' := sv') (l' := mvL ps (last + 1) l) (bk' := bk) (ss' := ss ++ [st]) k6 k7
    refine ⟨_, _, rfl, k6.be, h.bs.dk k6, fun W hW => ?_⟩
    have hbzW : X.B ≤ W.heap.size := Nat.le_trans (Nat.le_trans hbz k6.be.size) hW.size
    have hrsW := hrs.below hW
    have hBW : Below X.B w W := k6.be.trans (hW.mono (Nat.le_trans hbz k6.be.size))
    refine (RSplit_any hrsW h.up (by omega) (by omega) a A n c ps (hup hBW) hn hsz (fun h0 b o e => ⟨fun hb => by have := hrsW.ge (.inl hb); have := hbl b o h0 e; omega, fun hb => by have := hrsW.ge (.inr (.inl hb)); have := hbl b o h0 e; omega⟩) (by omega) hbzW).mono ?_
    rintro e w2 ⟨z2, x2, rfl, ⟨hx2, _, _, rfl⟩ | ⟨rfl, _, _, rfl, _, rsv', rst, r1, r2, r3, r4, r5, r6, r7⟩⟩
    · rw [← hpp] at hx2
      exact absurd hE0 hx2
    · obtain ⟨hbs2, hap2⟩ := second (lv' := lv) (rsv' := rsv') (rss' := rss ++ [rst]) (k1.below hW) hap r6 r7
      obtain ⟨s0, hs0⟩ := List.exists_mem_of_length_pos hps9.1
      obtain ⟨r0, hr0, hg0, _⟩ := hall s0 hs0
      have hga := (h.rc.rng r0 hr0).1
      refine ⟨rfl, r6.be, mn, last + 1, sv', _, bk, _, lv, rsv', _, _, hbs2, r1, h.rc.mv _ (last + 1) (by omega) (by omega) (by omega), by omega, mvL_perm h.pm _ _, h.up.mapG fun r => (by split <;> rfl), fun s hs => ?_, by rw [List.length_append, List.length_singleton]; omega, ?_, hap2, Nat.le_trans hbzW r6.be.size⟩
      · rcases List.mem_append.1 hs with hs | hs
        · exact (h.st s hs).more (fun s hs => by rw [mvL_keys]; exact hs) (by omega)
        · rw [List.mem_singleton.1 hs]
          refine ⟨.inr k2, by rw [k5]; exact hps9.2, fun s hs => ?_, by rw [Stp.tgt, if_neg (by omega), k3]; omega⟩
          rw [k5] at hs
          obtain ⟨r, hr, _, e⟩ := hall s hs
          exact ⟨by rw [mvL_keys]; exact List.mem_map.2 ⟨r, hr, e⟩, by rw [← e]; exact h.rc.sz r hr⟩
      · rw [List.map_append, List.map_append, h.ky, List.map_singleton, List.map_singleton, Stp.key, Stp.key, k2, k3, k4, k5, r2, r3, r4, r5]
set_option maxHeartbeats 1000000 in
theorem Undo_gj (h : GJ X i w) (hi : i ≤ 100) :
    Calls Tryz.prog 11 #[.pointer (some ⟨X.p, 0, none⟩)] w fun e w1 => ∃ x : Bool, e = .returned (.bool x) ∧ Two X 12 #[.pointer (some ⟨X.q, 0, none⟩)] (.bool x) (i + 1) w w1 := by
  obtain ⟨mn, last, sv, l, bk, ss, lv, rsv, lr, rss, h⟩ := h
  have hlen := h.rc.len
  have hlr := h.lenr
  have hla := h.rc.la
  have hmn := h.mn
  have hbz := h.bz
  have hsl := h.sl
  have hrl := h.lens
  rcases List.eq_nil_or_concat ss with rfl | ⟨ss', st, rfl⟩
  · have hr0 : rss = [] := List.eq_nil_of_length_eq_zero (by rw [hrl]; rfl)
    subst hr0
    refine (Undo_none h.bs).mono ?_
    rintro e w1 ⟨rfl, rfl⟩
    refine ⟨false, rfl, Below.refl _ _, DK.below (Below.refl _ _), fun W hW => ?_⟩
    have h1 := h.below hW
    refine (RUndo_none h1.rs).mono ?_
    rintro e w2 ⟨rfl, rfl⟩
    exact ⟨rfl, Below.refl _ _, _, _, _, _, _, _, _, _, _, _, h1.more⟩
  · rw [List.concat_eq_append] at h hsl hrl
    rcases List.eq_nil_or_concat rss with rfl | ⟨rss', rst, rfl⟩
    · simp at hrl
    · rw [List.concat_eq_append] at h hrl
      have hky := h.ky
      rw [List.map_append, List.map_append, List.map_singleton, List.map_singleton] at hky
      obtain ⟨hky1, hky2⟩ := List.append_inj' hky rfl
      have hky3 : st.key = rst.key := by simpa using hky2
      have hso := h.st st (by simp)
      rw [List.length_append, List.length_singleton] at hsl
      rw [List.length_append, List.length_append, List.length_singleton, List.length_singleton] at hrl
      refine (Undo_ok h.bs hso.kd (fun s hs => (hso.ps s hs).1) (fun s hs => by have := (hso.ps s hs).2; unfold maxLen; omega) hso.len (by omega) hbz).mono ?_
      rintro e w1 ⟨rfl, sv', k1, k2, k3⟩
      obtain ⟨hrs, hap⟩ := h.first (sv' := sv') (l' := undL st l) (bk' := bk) (ss' := ss') k3 (fun k hk => .inl (by
        rcases hk with hk | hk | ⟨s, hs, hk⟩
        · rcases hk with hk | hk | ⟨r, hr, hk⟩
          · exact .inl (.inl hk)
          · exact .inl (.inr (.inl hk))
          · obtain ⟨x, hx, e, _⟩ := mem_mvL hr
            exact .inl (.inr (.inr ⟨x, hx, by rw [hk, e]⟩))
        · exact .inr (.inl (by rw [← k2]; exact hk))
        · exact .inr (.inr ⟨s, List.mem_append_left _ hs, hk⟩)))
      refine ⟨true, rfl, k3.be, h.bs.dk k3, fun W hW => ?_⟩
      have hbzW : X.B ≤ W.heap.size := Nat.le_trans (Nat.le_trans hbz k3.be.size) hW.size
      have hks := hky3
      simp only [Stp.key, Prod.mk.injEq] at hks
      obtain ⟨q1, q2, q3, q4⟩ := hks
      refine (RUndo_ok (hrs.below hW) (by rw [← q1]; exact hso.kd) (by rw [← q4]; exact hso.len) (by omega) (by omega) hbzW).mono ?_
      rintro e w2 ⟨rfl, rsv', r1, r2, r3⟩
      obtain ⟨hbs2, hap2⟩ := second (lv' := lv) (rsv' := rsv') (rss' := rss') (k1.below hW) hap r3 (fun k hk => .inl (by
        rcases hk with hk | hk | ⟨s, hs, hk⟩
        · exact .inl hk
        · exact .inr (.inl (by rw [← r2]; exact hk))
        · exact .inr (.inr ⟨s, List.mem_append_left _ hs, hk⟩)))
      rw [← undL_key hky3] at r1
      refine ⟨rfl, r3.be, mn, last, sv', _, bk, _, lv, rsv', _, _, hbs2, r1, h.rc.mv _ _ hso.tg (Int.le_refl _) (by omega), by omega, mvL_perm h.pm _ _, h.up.mapG fun r => (by split <;> rfl), fun s hs => ?_, by omega, hky1, hap2, Nat.le_trans hbzW r3.be.size⟩
      exact (h.st s (List.mem_append_left _ hs)).more (fun s hs => by rw [undL, mvL_keys]; exact hs) (Int.le_refl _)
set_option maxHeartbeats 1000000 in
theorem Of_gj (h : GJ X i w) (hi : i ≤ 100) (s : ByteArray) (hs : s.size ≤ maxLen) :
    Calls Tryz.prog 13 #[.pointer (some ⟨X.p, 0, none⟩), .string s] w fun e w1 => ∃ z x : Int, e = .returned (.tuple #[.int .i64 z, .int .i64 x]) ∧ Two X 14 #[.pointer (some ⟨X.q, 0, none⟩), .string s] (.tuple #[.int .i64 z, .int .i64 x]) (i + 1) w w1 := by
  obtain ⟨mn, last, sv, l, bk, ss, lv, rsv, lr, rss, h⟩ := h
  have hlr := h.lenr
  have hbz := h.bz
  have hR : ∀ {z x : Int}, ofE l s.data.toList z x → Two X 14 #[.pointer (some ⟨X.q, 0, none⟩), .string s] (.tuple #[.int .i64 z, .int .i64 x]) (i + 1) w w := fun {z x} hz => ⟨Below.refl _ _, DK.below (Below.refl _ _), fun W hW => by
    have h1 := h.below hW
    refine (ROf_any h1.rs.rm (by omega) s).mono ?_
    rintro e w2 ⟨z2, x2, rfl, ho, hb2⟩
    have he : z2 = z ∧ x2 = x := by
      rcases hz with ⟨a1, rfl, rfl⟩ | ⟨r, hr, a1, rfl, rfl⟩
      · rcases ho with ⟨_, b2, b3⟩ | ⟨r2, hr2, b1, _⟩
        · exact ⟨b2, b3⟩
        · exact absurd (List.mem_map.2 ⟨r2, h.pm.symm.subset hr2, b1⟩) a1
      · rcases ho with ⟨b1, _⟩ | ⟨r2, hr2, b1, b2, b3⟩
        · exact absurd (List.mem_map.2 ⟨r, h.pm.subset hr, a1⟩) b1
        · rw [all_come.nodup_inj h.nr hr2 (h.pm.subset hr) (b1.trans a1.symm)] at b2
          exact ⟨b2, b3⟩
    rw [he.1, he.2]
    exact ⟨rfl, hb2.mono h1.bz, _, _, _, _, _, _, _, _, _, _, (h1.below hb2).more⟩⟩
  by_cases hin : s.data.toList ∈ l.map Pr.p
  · obtain ⟨r, hr, hrp⟩ := List.mem_map.1 hin
    refine (Of_any h.bs.bm s hs r hr hrp).mono ?_
    rintro e w1 ⟨rfl, rfl⟩
    exact ⟨_, _, rfl, hR (.inr ⟨r, hr, hrp, rfl, rfl⟩)⟩
  · refine (Of_none h.bs.bm s hs hin).mono ?_
    rintro e w1 ⟨rfl, rfl⟩
    exact ⟨_, _, rfl, hR (.inl ⟨hin, rfl, rfl⟩)⟩
/-- Three calls: two rows are asked for, and they are alike. -/
def Three (f g : FuncId) (fn : FuncId) (q : Nat) (v : Value) (w w1 : World) : Prop := Below w.heap.size w w1 ∧ ∀ W, Below w1.heap.size w1 W → Calls Tryz.prog f #[.pointer (some ⟨q, 0, none⟩)] W fun e2 w2 => ∃ v2, e2 = .returned v2 ∧ Below W.heap.size W w2 ∧
  ∀ W3, Below w2.heap.size w2 W3 → Calls Tryz.prog g #[v, v2, .func (.func fn) #[] #[]] W3 fun e3 w3 => e3 = .returned (.bool true) ∧ Below W3.heap.size W3 w3
theorem GrsIn.below {B : Nat} {v : Value} {es : List Ge} (h : GrsIn B w v l es) (hb : Below w.heap.size w w1) : GrsIn B w1 v l es :=
  ⟨own_below h.own hb, h.gr, h.at_, fun e he => own_below (h.ps e he) hb⟩
theorem GrsIn.perm {B : Nat} {v : Value} {es : List Ge} {m : List Pr} (h : GrsIn B w v m es) (hp : l.Perm m) : GrsIn B w v l es := by
  have e := fun id => grO_perm hp id
  refine ⟨h.own, ?_, fun x hx => by rw [e]; exact h.at_ x hx, fun x hx => by rw [e]; exact h.ps x hx⟩
  have e9 : (es.map fun x => grO x.id l) = es.map fun x => grO x.id m := List.map_congr_left fun x _ => e x.id
  rw [e9]
  exact h.gr.perm hp.symm
theorem Groups_gj (h : GJ X i w) (hi : i ≤ 100) :
    Calls Tryz.prog 16 #[.pointer (some ⟨X.p, 0, none⟩)] w fun e w1 => ∃ v, e = .returned v ∧ Three 17 15 18 X.q v w w1 := by
  obtain ⟨mn, last, sv, l, bk, ss, lv, rsv, lr, rss, h⟩ := h
  have hlr := h.lenr
  have hla := h.rc.la
  have hlen := h.rc.len
  obtain ⟨k, rfl⟩ : ∃ k : Nat, last = (k : Int) := ⟨last.toNat, by omega⟩
  refine (Groups_any h.bs.bm h.rc.nd (by omega) (h.rc.ok (by omega))).mono ?_
  rintro e w1 ⟨v, es, rfl, hg, hb⟩
  refine ⟨v, rfl, hb, fun W hW => ?_⟩
  refine (RGroups_any ((h.below hb).below hW).rs.rm h.up (by omega) (by omega) (fun r hr => h.rc.ok (by omega) r (h.pm.symm.subset hr)) (fun r hr => (h.rc.rng r (h.pm.symm.subset hr)).1)).mono ?_
  rintro e w2 ⟨v2, es2, rfl, hg2, hb2⟩
  refine ⟨v2, rfl, hb2, fun W3 hW3 => ?_⟩
  exact EqGb_any (((hg.below hW).below hb2).below hW3) ((hg2.perm h.pm).below hW3) (by omega)
theorem History_gj (h : GJ X i w) (hi : i ≤ 100) :
    Calls Tryz.prog 20 #[.pointer (some ⟨X.p, 0, none⟩)] w fun e w1 => ∃ v, e = .returned v ∧ Three 21 19 22 X.q v w w1 := by
  obtain ⟨mn, last, sv, l, bk, ss, lv, rsv, lr, rss, h⟩ := h
  have hsl := h.sl
  have hrl := h.lens
  refine (History_any h.bs (by omega) (fun s hs => (h.st s hs).len)).mono ?_
  rintro e w1 ⟨v, rfl, es, a1, a2, a3, hb⟩
  rw [List.take_length] at a3
  refine ⟨v, rfl, hb, fun W hW => ?_⟩
  have h1 := ((h.below hb).below hW)
  refine (RHistory_any h1.rs).mono ?_
  rintro e w2 ⟨rfl, rfl⟩
  refine ⟨rsv, rfl, Below.refl _ _, fun W3 hW3 => ?_⟩
  have h2 := h1.below hW3
  have hel : es.length = ss.length := by have := congrArg List.length a3; simpa using this
  exact EqSb_any (own_below (own_below a1 hW) hW3) h2.rs.row (fun s hs => own_below (own_below (a2 s hs) hW) hW3) h2.rs.ps (a3.trans h.ky) (fun s hs => by
    have h9 : s.key ∈ ss.map Stp.key := a3 ▸ List.mem_map.2 ⟨s, hs, rfl⟩
    obtain ⟨x, hx, e⟩ := List.mem_map.1 h9
    simp only [Stp.key, Prod.mk.injEq] at e
    rw [← e.2.2.2]
    exact (h.st x hx).len) (by omega)
end
end Go.Proofs.YtapfcnfmonknjaaGreatDoor.Bk
