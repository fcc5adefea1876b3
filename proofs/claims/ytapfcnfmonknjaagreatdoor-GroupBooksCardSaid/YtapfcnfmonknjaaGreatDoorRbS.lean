/- The reference's book with its steps in memory. -/
import Derived.Test.YtapfcnfmonknjaaGreatDoorRbV
import Derived.Test.YtapfcnfmonknjaaGreatDoorBkMe
namespace Go.Proofs.YtapfcnfmonknjaaGreatDoor.Bk
open Go.RowKit Go.Maps Go.Sort
set_option linter.unusedVariables false
set_option linter.unusedSimpArgs false
structure RS (B : Nat) (w : World) (q : Nat) (lv : Value) (given : Int) (sv : Value) (lr : List Pr) (ss : List Stp) : Prop where
  rm : RM B w q lv given sv lr
  row : w.ownsRow B 49 4 sv ss.length (ss.flatMap Stp.cs)
  ps : ∀ s ∈ ss, w.ownsRow B 9 1 s.sl s.ps.length (s.ps.map encStr)
/-- The blocks of the reference's book. -/
def RK (q : Nat) (lv : Value) (k : Nat) : Prop := k = q ∨ lv.ownBlock = some k
def RSB (q : Nat) (lv sv : Value) (ss : List Stp) (k : Nat) : Prop := RK q lv k ∨ sv.ownBlock = some k ∨ ∃ s ∈ ss, s.sl.ownBlock = some k
section
variable {B q : Nat} {given : Int} {lv sv : Value} {lr : List Pr} {ss : List Stp} {w w' : World}
theorem RM.lt (h : RM B w q lv given sv lr) {k : Nat} (hk : RK q lv k) : k < w.heap.size := by
  rcases hk with rfl | hk
  · exact lt_of_block h.box
  · exact (h.row.lt k hk).2
theorem RM.ge (h : RM B w q lv given sv lr) {k : Nat} (hk : RK q lv k) : B ≤ k := by
  rcases hk with rfl | hk
  · exact h.lo
  · exact (h.row.lt k hk).1
theorem RM.ne_row (h : RM B w q lv given sv lr) {k : Nat} {cs : Array Value} {e : TypeId} (hb : w.heap[k]? = some (.cells cs e (0, 0))) (he : e = 49 ∨ e = 9) : ¬ RK q lv k := by
  rintro (rfl | hk)
  · rw [h.box] at hb
    rcases he with rfl | rfl <;> cases hb
  · obtain ⟨cur, h1⟩ := row_blkB h.row hk
    rw [h1] at hb
    rcases he with rfl | rfl <;> cases hb
theorem RS.keep (h : RS B w q lv given sv lr ss) (hk : ∀ k o, RSB q lv sv ss k → w.heap[k]? = some o → w'.heap[k]? = some o) : RS B w' q lv given sv lr ss :=
  ⟨h.rm.keep fun k o hb => hk k o (.inl hb), own_stayB h.row fun k o e => hk k o (.inr (.inl e)), fun s hs => own_stayB (h.ps s hs) fun k o e => hk k o (.inr (.inr ⟨s, hs, e⟩))⟩
theorem RS.below (h : RS B w q lv given sv lr ss) (hb : Below w.heap.size w w') : RS B w' q lv given sv lr ss := h.keep fun k o _ e => block_below e hb
theorem RS.lt (h : RS B w q lv given sv lr ss) {k : Nat} (hk : RSB q lv sv ss k) : k < w.heap.size := by
  rcases hk with hk | hk | ⟨s, hs, hk⟩
  · exact h.rm.lt hk
  · exact (h.row.lt k hk).2
  · exact ((h.ps s hs).lt k hk).2
theorem RS.ge (h : RS B w q lv given sv lr ss) {k : Nat} (hk : RSB q lv sv ss k) : B ≤ k := by
  rcases hk with hk | hk | ⟨s, hs, hk⟩
  · exact h.rm.ge hk
  · exact (h.row.lt k hk).1
  · exact ((h.ps s hs).lt k hk).1
theorem RS.row_ne (h : RS B w q lv given sv lr ss) {k : Nat} (hk : sv.ownBlock = some k) : ¬ RK q lv k := by
  obtain ⟨cur, hb⟩ := row_blkB h.row hk
  exact h.rm.ne_row hb (.inl rfl)
theorem RS.ps_ne (h : RS B w q lv given sv lr ss) {s : Stp} (hs : s ∈ ss) {k : Nat} (hk : s.sl.ownBlock = some k) : ¬ RK q lv k ∧ sv.ownBlock ≠ some k := by
  obtain ⟨cur, hb⟩ := row_blkB (h.ps s hs) hk
  refine ⟨h.rm.ne_row hb (.inr rfl), fun e => ?_⟩
  obtain ⟨cur2, hb2⟩ := row_blkB h.row e
  rw [hb] at hb2
  cases hb2
/-- The book itself turns; the steps are as they were. -/
theorem RS.book (h : RS B w q lv given sv lr ss) {lv' : Value} {given' : Int} {lr' : List Pr} {P : Nat → Prop} (hM : RM B w' q lv' given' sv lr') (hk : ∀ k o, w.heap[k]? = some o → ¬ P k → w'.heap[k]? = some o) (hP : ∀ k, P k → RK q lv k) : RS B w' q lv' given' sv lr' ss :=
  ⟨hM, own_stayB h.row fun k o e eo => hk k o eo (fun hp => h.row_ne e (hP k hp)), fun s hs => own_stayB (h.ps s hs) fun k o e eo => hk k o eo (fun hp => (h.ps_ne hs e).1 (hP k hp))⟩
theorem RM.box2 (h : RM B w q lv given sv lr) (given' : Int) (sv' : Value) (hbox : w'.heap[q]? = some (.cells #[lv, .int .i64 given', sv'] 29 (0, 0))) (hk : ∀ k o, RK q lv k → k ≠ q → w.heap[k]? = some o → w'.heap[k]? = some o) : RM B w' q lv given' sv' lr :=
  ⟨hbox, own_stayB h.row fun k o e eo => hk k o (.inr e) (h.ne e) eo, h.lo⟩
/-- A step more. -/
theorem RS.push (h : RS B w q lv given sv lr ss) (st : Stp) (sv' : Value) (hbox : w'.heap[q]? = some (.cells #[lv, .int .i64 given, sv'] 29 (0, 0)))
    (hrow : w'.ownsRow B 49 4 sv' (ss.length + 1) (ss.flatMap Stp.cs ++ st.cs)) (hst : w'.ownsRow B 9 1 st.sl st.ps.length (st.ps.map encStr))
    (hk : ∀ k o, w.heap[k]? = some o → k ≠ q → sv.ownBlock ≠ some k → w'.heap[k]? = some o) : RS B w' q lv given sv' lr (ss ++ [st]) := by
  refine ⟨h.rm.box2 given sv' hbox fun k o hb ne e => hk k o e ne (fun e2 => h.row_ne e2 hb), ?_, fun s hs => ?_⟩
  · rw [List.length_append, List.length_singleton, List.flatMap_append, List.flatMap_singleton]
    exact hrow
  · rcases List.mem_append.1 hs with hs | hs
    · exact own_stayB (h.ps s hs) fun k o e eo => hk k o eo (fun e2 => (h.ps_ne hs e).1 (.inl e2)) (h.ps_ne hs e).2
    · rw [List.mem_singleton.1 hs]; exact hst
/-- Behind an append to the row of steps. -/
theorem rst8 {SA : Option Addr} {sc : Nat} {w8 : World} {o8 : Obj} {v8 : Value} {xs : List Value} {m : Nat} (h : RS B w q lv given (.slice SA ss.length sc) lr ss) (hown : w8.ownsRow B 49 4 v8 m xs) (hg : (w.alloc o8).grownBy w8 (Value.slice SA ss.length sc).ownBlock) :
    (∀ k o, w.heap[k]? = some o → (Value.slice SA ss.length sc).ownBlock ≠ some k → w8.heap[k]? = some o) ∧ w.heap.size ≤ w8.heap.size ∧ (∀ B, B ≤ w.heap.size → (∀ k, (Value.slice SA ss.length sc).ownBlock = some k → B ≤ k) → Below B w w8) := by
  have hz := hg.size
  have hzz : (w.alloc o8).heap.size = w.heap.size + 1 := by simp
  refine ⟨fun k o e ne => ?_, by omega, fun B hB hlo => ((Below.refl _ _).alloc hB o8).grown hg (by omega) (fun j hj => hlo j hj)⟩
  exact (hg.block k (by have := lt_of_block e; omega) (fun e2 => ne e2.symm)).trans (block_below e ((Below.refl _ _).alloc (Nat.le_refl _) o8))
theorem rrowY {B' n : Nat} {A : Option Addr} {c : Nat} {ps : List (List UInt8)} (h : w.ownsRow B' 9 1 (.slice A n c) n (ps.map encStr)) (hM : RM B w q lv given sv lr) {k : Nat} (hk : (Value.slice A n c).ownBlock = some k) : ¬ RK q lv k := by
  obtain ⟨cur, hb⟩ := row_blkB h hk
  exact hM.ne_row hb (.inr rfl)
end
theorem RPrintsOf_n {B : Nat} {w : World} {q : Nat} {lv : Value} {given : Int} {sv : Value} {lr : List Pr} (h : RM B w q lv given sv lr) (hu : Up lr) (hl : lr.length ≤ 1000) (id : Int) (n : Nat) (hn : (prs id lr).length = n) :
    Calls Tryz.prog 33 #[.pointer (some ⟨q, 0, none⟩), .int .i64 id] w fun e w' => ∃ A c, e = .returned (.slice A n c) ∧ w'.ownsRow w.heap.size 9 1 (.slice A n c) n ((prs id lr).map encStr) ∧ Below w.heap.size w w' := by
  refine (RPrintsOf_any h hu hl id).mono ?_
  rintro e w' ⟨v, rfl, hr, hb⟩
  rw [hn] at hr
  obtain ⟨A, c, rfl⟩ := own_sl hr
  exact ⟨A, c, rfl, hr, hb⟩
end Go.Proofs.YtapfcnfmonknjaaGreatDoor.Bk
