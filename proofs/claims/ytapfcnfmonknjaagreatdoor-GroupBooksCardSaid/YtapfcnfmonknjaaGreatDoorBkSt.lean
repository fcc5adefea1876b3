/- A book with its steps in memory. -/
import Derived.Test.YtapfcnfmonknjaaGreatDoorBkFi
namespace Go.Proofs.YtapfcnfmonknjaaGreatDoor.Bk
open Go.RowKit Go.Maps Go.Sort
set_option linter.unusedVariables false
set_option linter.unusedSimpArgs false
structure Stp where
  kind : Int
  a : Int
  b : Int
  A : Option Addr
  n : Nat
  c : Nat
  ps : List (List UInt8)
def Stp.cs (s : Stp) : List Value := [.int .i64 s.kind, .int .i64 s.a, .int .i64 s.b, .slice s.A s.n s.c]
def Stp.sl (s : Stp) : Value := .slice s.A s.n s.c
theorem info_step : (Tryz.prog.info? 49).map (fun i => (i.zero, i.size, i.bytes)) = some (some (.agg #[.int .i64 0, .int .i64 0, .int .i64 0, .slice none 0 0]), 4, 48) := by kernel_rfl
/-- The book with the steps ss lies in w. -/
structure BS (B : Nat) (w : World) (p mb mn : Nat) (last : Int) (sv : Value) (l : List Pr) (bk : List UInt8 → Nat) (ss : List Stp) : Prop where
  bm : BM B w p mb mn last sv l bk
  row : w.ownsRow B 49 4 sv ss.length (ss.flatMap Stp.cs)
  ps : ∀ s ∈ ss, w.ownsRow B 9 1 s.sl s.ps.length (s.ps.map encStr)
/-- The blocks of a book and its steps. -/
def SB (p mb : Nat) (sv : Value) (l : List Pr) (bk : List UInt8 → Nat) (ss : List Stp) (k : Nat) : Prop := BB p mb l bk k ∨ sv.ownBlock = some k ∨ ∃ s ∈ ss, s.sl.ownBlock = some k
section
variable {B p mb mn : Nat} {last : Int} {sv : Value} {l : List Pr} {bk : List UInt8 → Nat} {ss : List Stp} {w w' : World}
theorem BS.keep (h : BS B w p mb mn last sv l bk ss) (hk : ∀ k o, SB p mb sv l bk ss k → w.heap[k]? = some o → w'.heap[k]? = some o) : BS B w' p mb mn last sv l bk ss :=
  ⟨h.bm.keep fun k o hb => hk k o (.inl hb), own_stayB h.row fun k o e => hk k o (.inr (.inl e)), fun s hs => own_stayB (h.ps s hs) fun k o e => hk k o (.inr (.inr ⟨s, hs, e⟩))⟩
theorem BS.below (h : BS B w p mb mn last sv l bk ss) (hb : Below w.heap.size w w') : BS B w' p mb mn last sv l bk ss := h.keep fun k o _ e => block_below e hb
theorem BS.lt (h : BS B w p mb mn last sv l bk ss) {k : Nat} (hk : SB p mb sv l bk ss k) : k < w.heap.size := by
  rcases hk with hk | hk | ⟨s, hs, hk⟩
  · exact h.bm.lt hk
  · exact (h.row.lt k hk).2
  · exact ((h.ps s hs).lt k hk).2
theorem BS.ge (h : BS B w p mb mn last sv l bk ss) {k : Nat} (hk : SB p mb sv l bk ss k) : B ≤ k := by
  rcases hk with hk | hk | ⟨s, hs, hk⟩
  · exact h.bm.ge hk
  · exact (h.row.lt k hk).1
  · exact ((h.ps s hs).lt k hk).1
/-- A block of steps or of prints is none of the book's own. -/
theorem BM.ne_row (h : BM B w p mb mn last sv l bk) {k : Nat} {cs : Array Value} {e : TypeId} (hb : w.heap[k]? = some (.cells cs e (0, 0))) (he : e = 49 ∨ e = 9) : ¬ BB p mb l bk k := by
  obtain ⟨D, ⟨es, ck, h1, _⟩, h2⟩ := h.map
  rintro (rfl | rfl | ⟨r, hr, rfl⟩)
  · rw [h.box] at hb
    rcases he with rfl | rfl <;> cases hb
  · rw [h1] at hb; cases hb
  · rw [h.cell r hr] at hb
    rcases he with rfl | rfl <;> cases hb
theorem BS.row_ne (h : BS B w p mb mn last sv l bk ss) {k : Nat} (hk : sv.ownBlock = some k) : ¬ BB p mb l bk k := by
  obtain ⟨cur, hb⟩ := row_blkB h.row hk
  exact h.bm.ne_row hb (.inl rfl)
theorem BS.ps_ne (h : BS B w p mb mn last sv l bk ss) {s : Stp} (hs : s ∈ ss) {k : Nat} (hk : s.sl.ownBlock = some k) : ¬ BB p mb l bk k ∧ sv.ownBlock ≠ some k := by
  obtain ⟨cur, hb⟩ := row_blkB (h.ps s hs) hk
  refine ⟨h.bm.ne_row hb (.inr rfl), fun e => ?_⟩
  obtain ⟨cur2, hb2⟩ := row_blkB h.row e
  rw [hb] at hb2
  cases hb2
/-- The book itself turns; the steps are as they were. -/
theorem BS.book (h : BS B w p mb mn last sv l bk ss) {mn' : Nat} {last' : Int} {l' : List Pr} {bk' : List UInt8 → Nat} {P : Nat → Prop} (hM : BM B w' p mb mn' last' sv l' bk') (hk : ∀ k o, w.heap[k]? = some o → ¬ P k → w'.heap[k]? = some o) (hP : ∀ k, P k → BB p mb l bk k) : BS B w' p mb mn' last' sv l' bk' ss :=
  ⟨hM, own_stayB h.row fun k o e eo => hk k o eo (fun hp => h.row_ne e (hP k hp)), fun s hs => own_stayB (h.ps s hs) fun k o e eo => hk k o eo (fun hp => (h.ps_ne hs e).1 (hP k hp))⟩
theorem BM.box2 (h : BM B w p mb mn last sv l bk) (sv' : Value) (hbox : w'.heap[p]? = some (.cells #[.map (some mb), .int .i64 last, sv'] 55 (0, 0))) (hk : ∀ k o, BB p mb l bk k → k ≠ p → w.heap[k]? = some o → w'.heap[k]? = some o) : BM B w' p mb mn last sv' l bk := by
  obtain ⟨D, h1, h2⟩ := h.map
  exact ⟨hbox, ⟨D, owns_stay h1 fun o e => hk mb o (.inr (.inl rfl)) h.pm e, h2⟩, fun r hr => hk _ _ (.inr (.inr ⟨r, hr, rfl⟩)) (h.pc hr).1 (h.cell r hr), h.inj, h.lo, h.pl, h.ml⟩
/-- A step more. -/
theorem BS.push (h : BS B w p mb mn last sv l bk ss) (st : Stp) (sv' : Value) (hbox : w'.heap[p]? = some (.cells #[.map (some mb), .int .i64 last, sv'] 55 (0, 0)))
    (hrow : w'.ownsRow B 49 4 sv' (ss.length + 1) (ss.flatMap Stp.cs ++ st.cs)) (hst : w'.ownsRow B 9 1 st.sl st.ps.length (st.ps.map encStr))
    (hk : ∀ k o, w.heap[k]? = some o → k ≠ p → sv.ownBlock ≠ some k → w'.heap[k]? = some o) : BS B w' p mb mn last sv' l bk (ss ++ [st]) := by
  refine ⟨h.bm.box2 sv' hbox fun k o hb ne e => hk k o e ne (fun e2 => h.row_ne e2 hb), ?_, fun s hs => ?_⟩
  · rw [List.length_append, List.length_singleton, List.flatMap_append, List.flatMap_singleton]
    exact hrow
  · rcases List.mem_append.1 hs with hs | hs
    · exact own_stayB (h.ps s hs) fun k o e eo => hk k o eo (fun e2 => (h.ps_ne hs e).1 (.inl e2)) (h.ps_ne hs e).2
    · rw [List.mem_singleton.1 hs]; exact hst
/-- The last step is taken away. -/
theorem BS.pop {st : Stp} {g sc : Nat} (h : BS B w p mb mn last (.slice (some ⟨g, 0, none⟩) (ss.length + 1) sc) l bk (ss ++ [st]))
    (hbox : w'.heap[p]? = some (.cells #[.map (some mb), .int .i64 last, .slice (some ⟨g, 0, none⟩) ss.length sc] 55 (0, 0))) (hk : ∀ k o, w.heap[k]? = some o → k ≠ p → w'.heap[k]? = some o) :
    BS B w' p mb mn last (.slice (some ⟨g, 0, none⟩) ss.length sc) l bk ss := by
  refine ⟨h.bm.box2 _ hbox fun k o hb ne e => hk k o e ne, ?_, fun s hs => own_stayB (h.ps s (List.mem_append_left _ hs)) fun k o e eo => hk k o eo (fun e2 => (h.ps_ne (List.mem_append_left _ hs) e).1 (.inl e2))⟩
  have h1 := h.row
  rw [List.length_append, List.length_singleton, List.flatMap_append, List.flatMap_singleton] at h1
  have hl : (ss.flatMap Stp.cs).length = ss.length * 4 := by
    induction ss with
    | nil => rfl
    | cons a ss ih =>
      have : ∀ m : List Stp, (m.flatMap Stp.cs).length = m.length * 4 := fun m => by
        induction m with
        | nil => rfl
        | cons a m ih => rw [List.flatMap_cons, List.length_append, ih, List.length_cons]; simp [Stp.cs]; omega
      exact this _
  refine ⟨hl, ?_⟩
  rcases h1.2 with ⟨e, _⟩ | ⟨g', cap, cur, e, q1, q2, q3, q4, q5, q6⟩
  · cases e
  · cases e
    refine .inr ⟨g, sc, cur, rfl, q1, hk _ _ q2 (fun e2 => h.row_ne rfl (.inl e2)), by omega, q4, q5, ?_⟩
    have e3 : List.take (ss.length * 4) (List.take ((ss.length + 1) * 4) cur.toList) = List.take (ss.length * 4) cur.toList := by rw [List.take_take]; congr 1; omega
    rw [← e3, q6, ← hl]
    exact List.take_left
end
theorem flat_se (ps : List (List UInt8)) : ps.flatMap se = ps.map encStr := by
  induction ps with
  | nil => rfl
  | cons a ps ih => rw [List.flatMap_cons, ih]; rfl
theorem sl_row {B n : Nat} {w : World} {v : Value} {ps : List (List UInt8)} (h : w.ownsRow B 9 1 v n (ps.map encStr)) (hn : ps.length = n) : ∃ A c, v = .slice A n c ∧ Sl w w.heap.size se 1 A n ps ∧ n ≤ c ∧ (n = 0 ∨ c ≤ maxLen) := by
  rw [← flat_se] at h
  exact sl_of_own (f := se) (fun _ => rfl) hn h
end Go.Proofs.YtapfcnfmonknjaaGreatDoor.Bk
