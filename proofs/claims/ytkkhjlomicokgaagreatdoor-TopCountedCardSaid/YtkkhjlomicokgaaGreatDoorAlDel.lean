/- Walks of IndexFunc and DeleteFunc over counts, and of the closure of Tick. -/
import Derived.Test.YtkkhjlomicokgaaGreatDoorAlCnt
import Derived.Test.YtkkhjlomicokgaaGreatDoorTpA
import Derived.Lib.SliceRun
import Derived.Lib.LazyBuf
namespace Go.Proofs.YtkkhjlomicokgaaGreatDoor.al
open Go.RowKit
set_option linter.unusedVariables false
set_option linter.unusedSimpArgs false
/-- A count that is forgotten. -/
def oldB (t g : Int) (c : Ct) : Bool := decide (c.at_ ≤ t - 2 * g)
/-- What the closure reads. -/
structure DelIn (b1 b2 pw : Nat) (t g : Int) (w : World) : Prop where
  x1 : w.cell? ⟨b1, 0, none⟩ = some (.int .i64 t)
  x2 : w.cell? ⟨b2, 0, none⟩ = some (.pointer (some ⟨pw, 0, none⟩))
  x3 : w.cell? ⟨pw, 4, none⟩ = some (.int .i64 g)
theorem DelIn.below {b1 b2 pw : Nat} {t g : Int} {w w' : World} (h : DelIn b1 b2 pw t g w) (hb : Below w.heap.size w w') : DelIn b1 b2 pw t g w' :=
  ⟨(hb.cell (World.block_lt_of_cell? w _ h.x1)).trans h.x1, (hb.cell (World.block_lt_of_cell? w _ h.x2)).trans h.x2, (hb.cell (World.block_lt_of_cell? w _ h.x3)).trans h.x3⟩
theorem Keep.cell {B : Nat} {P : Nat → Prop} {w w' : World} (h : Keep B P w w') {a : Addr} {v : Value} (ha : w.cell? a = some v) (hne : ¬ P a.block) : w'.cell? a = some v := by
  have hlt := World.block_lt_of_cell? w a ha
  have e := h.keep a.block w.heap[a.block] (by simp [hlt]) hne
  rw [← ha]
  exact World.cell?_of_block (by rw [e]; simp [hlt])
theorem DelIn.keep {b1 b2 pw B : Nat} {P : Nat → Prop} {t g : Int} {w w' : World} (h : DelIn b1 b2 pw t g w) (hk : Keep B P w w') (h1 : ¬ P b1) (h2 : ¬ P b2) (h3 : ¬ P pw) : DelIn b1 b2 pw t g w' :=
  ⟨hk.cell h.x1 h1, hk.cell h.x2 h2, hk.cell h.x3 h3⟩
set_option maxHeartbeats 4000000 in
theorem DelC_any (ck : ByteArray) (cat cn : Int) (b1 b2 pw : Nat) (t g : Int) (w : World) (h : DelIn b1 b2 pw t g w) (ht0 : 0 ≤ t) (ht1 : t ≤ 3155759999) (hg0 : 0 ≤ g) (hg1 : g ≤ 604800) :
    Calls Tryz.prog 43 #[.agg #[.string ck, .int .i64 cat, .int .i64 cn], .pointer (some ⟨b1, 0, none⟩), .pointer (some ⟨b2, 0, none⟩)] w fun e w' => e = .returned (.bool (decide (cat ≤ t - 2 * g))) ∧ Below w.heap.size w w' := by
  obtain ⟨h1, h2, h3⟩ := h
  go_enter Tryz.func43, Tryz.ntmps43
  go_wp2_with (first | go_quiet (fail))
  go_ret
  exact ⟨rfl, below_drewN ((Below.refl _ _).alloc (Nat.le_refl _) _) _⟩
/-- The place of the first one that is forgotten. -/
theorem IdxC_any (A : Option Addr) (n cap : Nat) (l : List Ct) (b1 b2 pw : Nat) (t g : Int) (w : World) (hn : n ≤ maxLen) (hl : Sl w w.heap.size Ct.cs 3 A n l) (h : DelIn b1 b2 pw t g w) (ht0 : 0 ≤ t) (ht1 : t ≤ 3155759999) (hg0 : 0 ≤ g) (hg1 : g ≤ 604800) :
    Calls Tryz.prog 67 #[.slice A n cap, .func (.func 43) #[] #[.pointer (some ⟨b1, 0, none⟩), .pointer (some ⟨b2, 0, none⟩)]] w fun e w' => Below w.heap.size w w' ∧
      ((e = .returned (.int .i64 (-1)) ∧ l.any (oldB t g) = false) ∨ ∃ j x, e = .returned (.int .i64 (j : Nat)) ∧ l[j]? = some x ∧ oldB t g x = true ∧ (l.take j).any (oldB t g) = false) := by
  unfold maxLen at hn
  have HL := hide hl.len
  have HSL := hide hl
  have HD := hide h
  clear hl h
  go_enter Tryz.func67, Tryz.ntmps67
  go_wp2_with (fail)
  go_loopw [8] (fun i wr => ∃ j : Nat, j ≤ n ∧ i = .int .i64 j ∧ (l.take j).any (oldB t g) = false ∧ Below w.heap.size w wr) (fun i _ => n - (intOf i).toNat)
  case atStart => exact ⟨0, Nat.zero_le _, rfl, rfl, Below.refl _ _⟩
  case round =>
    obtain ⟨j, hj, rfl, hno, hB⟩ := hrel
    have HNO := hide hno
    clear hno
    by_cases hlt : j < n
    · obtain ⟨bb, oo, x, rfl, hbb, hx, hc⟩ := (HSL.out.below hB).at_ hlt
      obtain ⟨ck, cat, cn⟩ := x
      have c0 : wr.cell? ⟨bb, oo + j * 3, none⟩ = some (.string ck) := by simpa using hc 0 _ rfl
      have c1 : wr.cell? ⟨bb, oo + j * 3 + 1, none⟩ = some (.int .i64 cat) := hc 1 _ rfl
      have c2 : wr.cell? ⟨bb, oo + j * 3 + 2, none⟩ = some (.int .i64 cn) := hc 2 _ rfl
      have HX := hide hx
      have hz := hB.size
      have C := hide (DelC_any ck cat cn b1 b2 pw t g wr (HD.out.below hB) ht0 ht1 hg0 hg1)
      clear hc hx
      obtain ⟨y, hy⟩ : ∃ y, decide (cat ≤ t - 2 * g) = y := ⟨_, rfl⟩
      rw [hy] at C
      have HY := hide (show oldB t g ⟨ck, cat, cn⟩ = y from hy)
      clear hy
      cases y
      · go_wp2_with (go_at_call 43; refine C.out.mono ?_; rintro e w1 ⟨rfl, hw1⟩; have hB1 := hB.trans (hw1.mono hB.size))
        go_roundw
        case rel => exact ⟨j + 1, by omega, by go_num, by rw [take_succ_get HX.out, List.any_append, HNO.out]; simp [HY.out], hB1⟩
        case measure => simp [intOf]; omega
      · go_wp2_with (go_at_call 43; refine C.out.mono ?_; rintro e w1 ⟨rfl, hw1⟩; have hB1 := hB.trans (hw1.mono hB.size))
        go_ret
        exact ⟨hB1, .inr ⟨j, _, rfl, HX.out, HY.out, HNO.out⟩⟩
    · have E := hide (show l.any (oldB t g) = false by rw [← HNO.out, take_len l (by have := HL.out; omega)])
      go_wp2_with (fail)
      go_ret
      exact ⟨hB, .inl ⟨rfl, E.out⟩⟩
/-- A record is set, cell by cell. -/
theorem ct_set (l : List Ct) (i : Nat) (y : Ct) (hi : i < l.length) : (l.set i y).flatMap Ct.cs = (((l.flatMap Ct.cs).set (i * 3) (.string y.key)).set (i * 3 + 1) (.int .i64 y.at_)).set (i * 3 + 2) (.int .i64 y.n) := by
  have hf : ∀ a : Ct, a.cs.length = 3 := fun _ => rfl
  obtain ⟨x, hx⟩ : ∃ x, l[i]? = some x := ⟨_, List.getElem?_eq_getElem hi⟩
  have h0 := fm_set hf l i 0 x ⟨y.key, x.at_, x.n⟩ (.string y.key) (by omega) hx rfl
  have h1 := fm_set hf (l.set i ⟨y.key, x.at_, x.n⟩) i 1 ⟨y.key, x.at_, x.n⟩ ⟨y.key, y.at_, x.n⟩ (.int .i64 y.at_) (by omega) (by simp [hi]) rfl
  have h2 := fm_set hf ((l.set i ⟨y.key, x.at_, x.n⟩).set i ⟨y.key, y.at_, x.n⟩) i 2 ⟨y.key, y.at_, x.n⟩ y (.int .i64 y.n) (by omega) (by simp [hi]) rfl
  rw [List.set_set, List.set_set] at h2
  rw [h2, h1, h0]
  rfl
theorem block_setCells {g : Nat} {ty : TypeId} : ∀ (vs : List Value) (k : Nat) (w : World) (cur : Array Value), w.heap[g]? = some (.cells cur ty (0, 0)) → ∃ cur2, (w.setCells g k vs).heap[g]? = some (.cells cur2 ty (0, 0)) ∧ cur2.size = cur.size ∧ cur2.toList.take k = cur.toList.take k
  | [], k, w, cur, h => ⟨cur, h, rfl, rfl⟩
  | v :: vs, k, w, cur, h => by
    obtain ⟨c2, h1, h2, h3⟩ := block_setCells vs (k + 1) _ _ (block_set h (i := k) v)
    refine ⟨c2, h1, by simpa using h2, ?_⟩
    have := congrArg (List.take k) h3
    rw [List.take_take, List.take_take, Nat.min_eq_left (by omega)] at this
    rw [this, Array.toList_setIfInBounds, List.take_set_of_le (Nat.le_refl _)]
theorem heap_setCells_ne (w : World) (g : Nat) {q : Nat} (hne : q ≠ g) : ∀ (vs : List Value) (o : Nat), (w.setCells g o vs).heap[q]? = w.heap[q]?
  | vs, o => by
    induction vs generalizing w o with
    | nil => rfl
    | cons v vs ih => rw [World.setCells, ih]; exact heap_setCell_other _ _ _ _ hne
/-- A row is cut, and what lies behind is set. -/
theorem own_clear {w : World} {base sz n : Nat} {e : TypeId} {xs : List Value} {g cap : Nat} (h : w.ownsRow base e sz (.slice (some ⟨g, 0, none⟩) n cap) n xs) (i : Nat) (hi : i ≤ n) (vs : List Value) : (w.setCells g (i * sz) vs).ownsRow base e sz (.slice (some ⟨g, 0, none⟩) i cap) i (xs.take (i * sz)) := by
  have hle : i * sz ≤ n * sz := Nat.mul_le_mul_right _ hi
  refine ⟨by rw [List.length_take, h.1]; omega, ?_⟩
  rcases h.2 with ⟨h1, _⟩ | ⟨g', cap', cur, h1, h2, h3, h4, h5, h6, h7⟩
  · cases h1
  · simp only [Value.slice.injEq, Option.some.injEq, Addr.mk.injEq, true_and, and_true] at h1
    obtain ⟨rfl, rfl⟩ := h1
    obtain ⟨c2, q1, q2, q3⟩ := block_setCells vs (i * sz) w cur h3
    refine .inr ⟨g, cap, c2, rfl, h2, q1, by omega, h5, by rw [q2, h6], ?_⟩
    rw [q3, ← h7, List.take_take, Nat.min_eq_left hle]
/-- 'clear(s)' of n > 0 elements. -/
theorem run_clear_any {P : Program} (w : World) (t e ty : TypeId) (z : Value) (ht : P.underlying t = some (.slice e)) (hv : ∀ w, (zeroValue e).run P w = .ok z w) (b o n c : Nat) (hn : 0 < n) (hz : ∀ v ∈ (Builtin.zeroCells z.cells n).toList, v.oneCell' = true)
    (hc : ∀ j, j < (Builtin.zeroCells z.cells n).toList.length → (w.cell? ⟨b, o + j, none⟩).isSome = true) (hf : ∀ j, j < (Builtin.zeroCells z.cells n).toList.length → w.frozen? ⟨b, o + j, none⟩ = false) :
    (Builtin.clear_ #[t] ty #[.slice (some ⟨b, o, none⟩) n c]).run P w = .ok (.tuple #[]) (w.setCells b o (Builtin.zeroCells z.cells n).toList) := by
  have hst := run_storeCells_cells (P := P) b o (Builtin.zeroCells z.cells n).toList 0 w (by simpa using hc) (by simpa using hf) hz
  simp only [Nat.add_zero] at hst
  obtain ⟨m, rfl⟩ : ∃ m, n = m + 1 := ⟨n - 1, by omega⟩
  simp [Builtin.clear_, run_underlying ht, hv, hst]
theorem zeroCells_len (z : Array Value) (n : Nat) : (Builtin.zeroCells z n).toList.length = n * z.size := by simp [Builtin.zeroCells]
theorem zeroCells_mem {z : Array Value} {n : Nat} {v : Value} (h : v ∈ (Builtin.zeroCells z n).toList) (h0 : 0 < z.size) : v ∈ z.toList := by
  simp only [Builtin.zeroCells, Array.toList_map, List.mem_map] at h
  obtain ⟨i, _, rfl⟩ := h
  have hlt : i % z.size < z.size := Nat.mod_lt _ h0
  rw [getElem!_pos z _ hlt]
  simp
theorem zero_count (w : World) : (zeroValue 106).run Tryz.prog w = .ok (.agg #[.string ByteArray.empty, .int .i64 0, .int .i64 0]) w := by kernel_rfl
theorem fm_take {α : Type} {f : α → List Value} {sz : Nat} (hf : ∀ a, (f a).length = sz) : ∀ (l : List α) (i : Nat), (l.flatMap f).take (i * sz) = (l.take i).flatMap f
  | [], i => by simp
  | x :: l, 0 => by simp
  | x :: l, i + 1 => by
    rw [List.take_succ_cons, List.flatMap_cons, List.flatMap_cons, List.take_append, hf, fm_take hf l i |>.symm]
    rw [List.take_of_length_le (by rw [hf, Nat.succ_mul]; omega)]
    congr 2
    rw [Nat.succ_mul]; omega
theorem ct_cells {m : List Ct} {i : Nat} {y : Ct} (hy : m[i]? = some y) : (m.flatMap Ct.cs)[i * 3]? = some (.string y.key) ∧ (m.flatMap Ct.cs)[i * 3 + 1]? = some (.int .i64 y.at_) ∧ (m.flatMap Ct.cs)[i * 3 + 2]? = some (.int .i64 y.n) := by
  have hf : ∀ a : Ct, a.cs.length = 3 := fun _ => rfl
  have h0 := fm_get hf m i 0 (by omega)
  have h1 := fm_get hf m i 1 (by omega)
  have h2 := fm_get hf m i 2 (by omega)
  rw [hy] at h0 h1 h2
  exact ⟨h0, h1, h2⟩
/-- What a round of DeleteFunc has: m is the row, i have been kept out of the first k. -/
structure DelAt (l m : List Ct) (n i k : Nat) (t g : Int) : Prop where
  lt : i < k
  le : k ≤ n
  len : m.length = n
  low : m.take i = (l.take k).filter fun c => !oldB t g c
  high : m.drop k = l.drop k
theorem DelAt.x {l m : List Ct} {n i k : Nat} {t g : Int} (h : DelAt l m n i k t g) (hk : k < n) : ∃ x, m[k]? = some x ∧ l[k]? = some x := by
  have h1 : m[k]? = l[k]? := by
    have := congrArg (fun z => z[0]?) h.high
    simpa using this
  have hkm : k < m.length := by rw [h.len]; exact hk
  exact ⟨m[k], List.getElem?_eq_getElem hkm, by rw [← h1]; exact List.getElem?_eq_getElem hkm⟩
theorem DelAt.skip {l m : List Ct} {n i k : Nat} {t g : Int} (h : DelAt l m n i k t g) (hk : k < n) {x : Ct} (hx : l[k]? = some x) (ho : oldB t g x = true) : DelAt l m n i (k + 1) t g := by
  refine ⟨by have := h.lt; omega, by omega, h.len, by rw [take_succ_get hx, List.filter_append, ← h.low]; simp [ho], ?_⟩
  have := congrArg (List.drop 1) h.high
  simpa [List.drop_drop] using this
theorem DelAt.put {l m : List Ct} {n i k : Nat} {t g : Int} (h : DelAt l m n i k t g) (hk : k < n) {x : Ct} (hx : l[k]? = some x) (ho : oldB t g x = false) : DelAt l (m.set i x) n (i + 1) (k + 1) t g := by
  have hi : i < m.length := by have := h.lt; have := h.len; omega
  refine ⟨by have := h.lt; omega, by omega, by rw [List.length_set, h.len], ?_, ?_⟩
  · rw [take_succ_get hx, List.filter_append, ← h.low, List.take_succ_eq_append_getElem (by rw [List.length_set]; exact hi), List.take_set_of_le (Nat.le_refl _)]
    simp [ho]
  · have := congrArg (List.drop 1) h.high
    rw [List.drop_set_of_lt (by have := h.lt; omega)]
    simpa [List.drop_drop] using this
theorem filter_none {l : List Ct} {t g : Int} (h : l.any (oldB t g) = false) : (l.filter fun c => !oldB t g c) = l := by
  rw [List.filter_eq_self]
  intro a ha
  have := List.any_eq_false.1 h a ha
  simpa using this
set_option maxRecDepth 100000 in
set_option maxHeartbeats 8000000 in
theorem DelF_any (A : Option Addr) (n cap base : Nat) (l : List Ct) (b1 b2 pw : Nat) (t g : Int) (w : World) (hn : n ≤ 1000) (hln : l.length = n) (hown : w.ownsRow base 106 3 (.slice A n cap) n (l.flatMap Ct.cs)) (h : DelIn b1 b2 pw t g w) (hne : ∀ k, (Value.slice A n cap).ownBlock = some k → b1 ≠ k ∧ b2 ≠ k ∧ pw ≠ k)
    (ht0 : 0 ≤ t) (ht1 : t ≤ 3155759999) (hg0 : 0 ≤ g) (hg1 : g ≤ 604800) (hbz : base ≤ w.heap.size) :
    Calls Tryz.prog 42 #[.slice A n cap, .func (.func 43) #[] #[.pointer (some ⟨b1, 0, none⟩), .pointer (some ⟨b2, 0, none⟩)]] w fun e w' => ∃ v, e = .returned v ∧ w'.ownsRow base 106 3 v (l.filter fun c => !oldB t g c).length ((l.filter fun c => !oldB t g c).flatMap Ct.cs) ∧ Keep base (fun k => (Value.slice A n cap).ownBlock = some k) w w' ∧ ∀ k, v.ownBlock = some k → (Value.slice A n cap).ownBlock = some k := by
  have hf : ∀ a : Ct, a.cs.length = 3 := fun _ => rfl
  obtain ⟨A', c', hv, hsl, _⟩ := sl_of_own hf hln hown
  simp only [Value.slice.injEq, true_and] at hv
  obtain ⟨rfl, rfl⟩ := hv
  have CI := hide (IdxC_any A n cap l b1 b2 pw t g w (by unfold maxLen; omega) hsl h ht0 ht1 hg0 hg1)
  have HOW := hide hown
  have HD := hide h
  have HNE := hide hne
  have HLN := hide hln
  clear hsl hown h hne
  go_enter Tryz.func42, Tryz.ntmps42
  go_wp2_with (fail)
  refine CI.out.mono ?_
  rintro e w0 ⟨hw0, ⟨rfl, hno⟩ | ⟨j, x, rfl, hx, hox, hno⟩⟩
  · have E := hide (filter_none hno)
    have HW0 := hide hw0
    clear hno hw0
    go_wp2_with (fail)
    go_ret
    refine ⟨_, rfl, ?_, Keep.of_below HW0.out hbz, fun _ h => h⟩
    rw [E.out, HLN.out]
    exact own_below HOW.out HW0.out
  · have hjn : j < n := by rw [← HLN.out]; exact (List.getElem?_eq_some_iff.1 hx).1
    obtain ⟨rb, cap', cur0, hv, hbr, hblk, hnc, hcm, _, _⟩ := own_blk HOW.out (by omega)
    simp only [Value.slice.injEq, true_and] at hv
    obtain ⟨rfl, rfl⟩ := hv
    obtain ⟨n1, n2, n3⟩ := HNE.out rb rfl
    have hrb := lt_of_block hblk
    have HO0 := hide (own_below HOW.out hw0)
    have HK0 := hide (Keep.of_below (P := fun k => k = rb) hw0 hbz)
    have HA0 := hide (show DelAt l l n j (j + 1) t g from ⟨by omega, by omega, HLN.out, by rw [take_succ_get hx, List.filter_append, filter_none hno]; simp [hox], rfl⟩)
    have hz0 := hw0.size
    have hjneg : ((j : Int) == -1) = false := beq_eq_false_iff_ne.2 (by omega)
    clear hblk hw0 hx hox hno
    go_wp2_with (fail)
    go_loopw [5, 6, 7] (fun s5 s6 _ wr => ∃ (i k : Nat) (m : List Ct), s5 = .int .i64 i ∧ s6 = .int .i64 k ∧ DelAt l m n i k t g ∧ wr.ownsRow base 106 3 (.slice (some ⟨rb, 0, none⟩) n cap) n (m.flatMap Ct.cs) ∧ Keep base (fun k => k = rb) w wr) (fun _ s6 _ _ => n - (intOf s6).toNat)
    case atStart => exact ⟨j, j + 1, l, rfl, by go_num, HA0.out, HO0.out, HK0.out⟩
    case round =>
      obtain ⟨i, k, m, rfl, rfl, hat, hown, hK⟩ := hrel
      have hik := hat.lt
      have hkn := hat.le
      have hlm := hat.len
      have hz := hK.be.size
      have HAT := hide hat
      have HK := hide hK
      have HO := hide hown
      have HDR := hide (HD.out.keep hK n1 n2 n3)
      clear hat hK hown
      by_cases hlt : k < n
      · obtain ⟨⟨ck, cat, cn⟩, hmk, hlk⟩ := HAT.out.x hlt
        obtain ⟨⟨yk, yat, yn⟩, hmi⟩ : ∃ y, m[i]? = some y := ⟨_, List.getElem?_eq_getElem (by omega)⟩
        obtain ⟨p0, p1, p2⟩ := ct_cells hmk
        have c0 : wr.cell? ⟨rb, k * 3, none⟩ = some (.string ck) := own_cell HO.out _ _ p0
        have c1 : wr.cell? ⟨rb, k * 3 + 1, none⟩ = some (.int .i64 cat) := own_cell HO.out _ _ p1
        have c2 : wr.cell? ⟨rb, k * 3 + 2, none⟩ = some (.int .i64 cn) := own_cell HO.out _ _ p2
        have HMI := hide (ct_cells hmi)
        have HLK := hide hlk
        have hsz : base ≤ wr.heap.size := by omega
        have HB1 := hide (show Below wr.heap.size wr (wr.alloc (.cells #[.string ck, .int .i64 cat, .int .i64 cn] 106)) from (Below.refl _ _).alloc (Nat.le_refl _) _)
        have C := hide (DelC_any ck cat cn b1 b2 pw t g (wr.alloc (.cells #[.string ck, .int .i64 cat, .int .i64 cn] 106)) (HDR.out.below HB1.out) ht0 ht1 hg0 hg1)
        clear hmk hlk hmi p0 p1 p2
        obtain ⟨y, hy⟩ : ∃ y, decide (cat ≤ t - 2 * g) = y := ⟨_, rfl⟩
        rw [hy] at C
        have HY := hide (show oldB t g ⟨ck, cat, cn⟩ = y from hy)
        clear hy
        cases y
        · go_wp2_with (go_at_call 43; refine C.out.mono ?_; rintro e w1 ⟨rfl, hw1⟩; have HO1 := hide (own_below (HO.out.alloc _) hw1); have HXB := hide (block_below (heap_alloc_new wr _) hw1); have HK1 := hide (HK.out.trans (Keep.of_below (HB1.out.trans (hw1.mono HB1.out.size)) hsz)); have v0 : w1.cell? ⟨wr.heap.size, 0, none⟩ = some (.string ck) := (block_cell HXB.out 0).trans rfl; have v1 : w1.cell? ⟨wr.heap.size, 1, none⟩ = some (.int .i64 cat) := (block_cell HXB.out 1).trans rfl; have v2 : w1.cell? ⟨wr.heap.size, 2, none⟩ = some (.int .i64 cn) := (block_cell HXB.out 2).trans rfl; have u0 : w1.cell? ⟨rb, i * 3, none⟩ = some (.string yk) := own_cell HO1.out _ _ HMI.out.1; have u1 : w1.cell? ⟨rb, i * 3 + 1, none⟩ = some (.int .i64 yat) := own_cell HO1.out _ _ HMI.out.2.1; have u2 : w1.cell? ⟨rb, i * 3 + 2, none⟩ = some (.int .i64 yn) := own_cell HO1.out _ _ HMI.out.2.2; have z0 : w1.frozen? ⟨rb, i * 3, none⟩ = false := own_free HO1.out _; have z1 : w1.frozen? ⟨rb, i * 3 + 1, none⟩ = false := own_free HO1.out _; have z2 : w1.frozen? ⟨rb, i * 3 + 2, none⟩ = false := own_free HO1.out _; clear hw1)
          go_roundw
          case rel => exact ⟨i + 1, k + 1, m.set i ⟨ck, cat, cn⟩, by go_num, by go_num, HAT.out.put hlt HLK.out HY.out, by rw [ct_set m i _ (by omega)]; exact own_set (own_set (own_set HO1.out (i * 3) _) (i * 3 + 1) _) (i * 3 + 2) _, ((HK1.out.trans (Keep.set w1 _ _ hbr rfl)).trans (Keep.set _ _ _ hbr rfl)).trans (Keep.set _ _ _ hbr rfl)⟩
          case measure => simp [intOf]; omega
        · go_wp2_with (go_at_call 43; refine C.out.mono ?_; rintro e w1 ⟨rfl, hw1⟩; have HO1 := hide (own_below (HO.out.alloc _) hw1); have HK1 := hide (HK.out.trans (Keep.of_below (HB1.out.trans (hw1.mono HB1.out.size)) hsz)); clear hw1)
          go_roundw
          case rel => exact ⟨i, k + 1, m, rfl, by go_num, HAT.out.skip hlt HLK.out HY.out, HO1.out, HK1.out⟩
          case measure => simp [intOf]; omega
      · obtain rfl : k = n := by omega
        have E := hide (show m.take i = l.filter fun c => !oldB t g c by rw [HAT.out.low, take_len l (by rw [HLN.out]; exact Nat.le_refl _)])
        obtain ⟨vs, hvs⟩ : ∃ vs, (Builtin.zeroCells (Value.agg #[.string ByteArray.empty, .int .i64 0, .int .i64 0]).cells (k - i)).toList = vs := ⟨_, rfl⟩
        have hvl : vs.length = (k - i) * 3 := by rw [← hvs, zeroCells_len]; rfl
        have hcl : ∀ ty, (Builtin.clear_ #[80] ty #[.slice (some ⟨rb, i * 3, none⟩) (k - i) (cap - i)]).run Tryz.prog wr = .ok (.tuple #[]) (wr.setCells rb (i * 3) vs) := by
          intro ty
          rw [← hvs]
          refine run_clear_any wr _ 106 ty _ Tryz.underlying80 zero_count rb (i * 3) (k - i) (cap - i) (by omega) (fun v hv => ?_) (fun j' hj' => ?_) (fun j' hj' => own_free HO.out _)
          · have := zeroCells_mem hv (by decide)
            simp [Value.cells] at this
            rcases this with rfl | rfl | rfl <;> rfl
          · rw [hvs, hvl] at hj'
            obtain ⟨u, hu⟩ : ∃ u, (m.flatMap Ct.cs)[i * 3 + j']? = some u := ⟨_, List.getElem?_eq_getElem (by rw [fm_len hf, hlm]; omega)⟩
            rw [own_cell HO.out _ _ hu]; rfl
        have HCL := hide (own_clear HO.out i (by omega) vs)
        have HKC := hide (HK.out.trans (show Keep base (fun k => k = rb) wr (wr.setCells rb (i * 3) vs) from ⟨Go.below_setCells hbr vs (i * 3) wr (Below.refl _ _), fun q o hq hne => (heap_setCells_ne wr rb hne vs (i * 3)).trans hq⟩))
        clear hvs hvl
        go_wp2_with (fail)
        go_ret
        refine ⟨_, rfl, ?_, HKC.out.mono (Nat.le_refl _) (fun q hq => by rw [hq]; rfl), fun _ h => h⟩
        have h1 := HCL.out
        rw [fm_take hf, E.out] at h1
        have h2 : i = (l.filter fun c => !oldB t g c).length := by rw [← E.out, List.length_take, hlm]; omega
        rw [← h2]
        exact h1
end Go.Proofs.YtkkhjlomicokgaaGreatDoor.al