/- The kinds of values that the walks of this seat know, by the program's own types: whole numbers, texts, events. -/
import Derived.Test.YtemnakfjmikcdaaBase
import Derived.Test.YtemnakfjmikcdaaProg
set_option linter.unusedVariables false
set_option linter.unusedSimpArgs false
namespace Go.Proofs.Ytemnakfjmikcdaa
open Go.RowKit

/-- Of a whole number: it is one of 64 bits. -/
def isI64 (n : Int) : Prop := -9223372036854775808 ≤ n ∧ n ≤ 9223372036854775807
/-- Of a text: it is no longer than memory allows. -/
def isStr (s : ByteArray) : Prop := s.size ≤ 140737488351232

/-- An event, as the program's struct has it. -/
structure Ev where
  source : ByteArray
  number : Int
  at' : Int
  kind : Int
  person : ByteArray
  item : ByteArray
  value : Int
  text : ByteArray
  deriving DecidableEq
def Ev.cells (e : Ev) : List Value := [.string e.source, .int .i64 e.number, .int .i64 e.at', .int .i64 e.kind, .string e.person, .string e.item, .int .i64 e.value, .string e.text]
def Ev.agg (e : Ev) : Value := .agg #[.string e.source, .int .i64 e.number, .int .i64 e.at', .int .i64 e.kind, .string e.person, .string e.item, .int .i64 e.value, .string e.text]
structure Ev.ok (e : Ev) : Prop where
  source : isStr e.source
  number : isI64 e.number
  at' : isI64 e.at'
  kind : isI64 e.kind
  person : isStr e.person
  item : isStr e.item
  value : isI64 e.value
  text : isStr e.text

def kS : EK ByteArray := ⟨9, 1, 16, fun s => [.string s], isStr, fun _ => rfl, fun _ u h => by simp at h; subst h; rfl⟩
def kI : EK Int := ⟨3, 1, 8, fun n => [.int .i64 n], isI64, fun _ => rfl, fun _ u h => by simp at h; subst h; rfl⟩
def kE : EK Ev := ⟨33, 8, 96, Ev.cells, Ev.ok, fun _ => rfl, fun _ u h => by
  simp only [Ev.cells, List.mem_cons, List.not_mem_nil, or_false] at h
  rcases h with h | h | h | h | h | h | h | h <;> subst h <;> rfl⟩

theorem kS_elem : ElemOk Try.prog kS 37 (.string ⟨#[]⟩) := ⟨Try.underlying37, by kernel_rfl, rfl, by decide, by decide⟩
theorem kI_elem : ElemOk Try.prog kI 52 (.int .i64 0) := ⟨Try.underlying52, by kernel_rfl, rfl, by decide, by decide⟩
theorem kE_elem : ElemOk Try.prog kE 22 (.agg #[.string ⟨#[]⟩, .int .i64 0, .int .i64 0, .int .i64 0, .string ⟨#[]⟩, .string ⟨#[]⟩, .int .i64 0, .string ⟨#[]⟩]) := ⟨Try.underlying22, by kernel_rfl, rfl, by decide, by decide⟩

/-- A text of a row that is read. -/
theorem Rd.str {w : World} {A : Option Addr} {c : Nat} {l : List ByteArray} (h : Rd kS w A c l) (i : Nat) (hi : i < l.length) : ∃ a, A = some a ∧ w.cell? (a.add i) = some (.string l[i]) := by
  obtain ⟨a, e, hc⟩ := h.cell i hi
  exact ⟨a, e, by simpa [kS] using hc 0 _ rfl⟩
theorem Rd.int {w : World} {A : Option Addr} {c : Nat} {l : List Int} (h : Rd kI w A c l) (i : Nat) (hi : i < l.length) : ∃ a, A = some a ∧ w.cell? (a.add i) = some (.int .i64 l[i]) := by
  obtain ⟨a, e, hc⟩ := h.cell i hi
  exact ⟨a, e, by simpa [kI] using hc 0 _ rfl⟩
theorem Rd.len {α : Type} {K : EK α} {w : World} {A : Option Addr} {c : Nat} {l : List α} (h : Rd K w A c l) (hb : 0 < K.bytes) : l.length ≤ 140737488351232 := Nat.le_trans (Nat.le_mul_of_pos_right _ hb) h.room
theorem add_off (b o n : Nat) : (⟨b, o, none⟩ : Addr).add n = ⟨b, o + n, none⟩ := by unfold Addr.add; split <;> simp_all
theorem add_field (a : Addr) (n k : Nat) (hk : k ≠ 0) : a.add (n + k) = ⟨(a.add n).block, (a.add n).off + k, none⟩ := by
  unfold Addr.add
  rw [if_neg (by omega)]
  split
  · simp_all
  · simp [Nat.add_assoc]
/-- An event of a row that is read: its cells, as the walk spells their places. -/
theorem Rd.ev {w : World} {A : Option Addr} {c : Nat} {l : List Ev} (h : Rd kE w A c l) (i : Nat) (hi : i < l.length) : ∃ a, A = some a ∧
    w.cell? (a.add (i * 8)) = some (.string l[i].source) ∧
    w.cell? ⟨(a.add (i * 8)).block, (a.add (i * 8)).off + 1, none⟩ = some (.int .i64 l[i].number) ∧
    w.cell? ⟨(a.add (i * 8)).block, (a.add (i * 8)).off + 2, none⟩ = some (.int .i64 l[i].at') ∧
    w.cell? ⟨(a.add (i * 8)).block, (a.add (i * 8)).off + 3, none⟩ = some (.int .i64 l[i].kind) ∧
    w.cell? ⟨(a.add (i * 8)).block, (a.add (i * 8)).off + 4, none⟩ = some (.string l[i].person) ∧
    w.cell? ⟨(a.add (i * 8)).block, (a.add (i * 8)).off + 5, none⟩ = some (.string l[i].item) ∧
    w.cell? ⟨(a.add (i * 8)).block, (a.add (i * 8)).off + 6, none⟩ = some (.int .i64 l[i].value) ∧
    w.cell? ⟨(a.add (i * 8)).block, (a.add (i * 8)).off + 7, none⟩ = some (.string l[i].text) := by
  obtain ⟨a, e, hc⟩ := h.cell i hi
  have hc' : ∀ j u, (Ev.cells l[i])[j]? = some u → w.cell? (a.add (i * 8 + j)) = some u := hc
  refine ⟨a, e, hc' 0 _ rfl, ?_, ?_, ?_, ?_, ?_, ?_, ?_⟩
  · rw [← add_field _ _ 1 (by omega)]; exact hc' 1 _ rfl
  · rw [← add_field _ _ 2 (by omega)]; exact hc' 2 _ rfl
  · rw [← add_field _ _ 3 (by omega)]; exact hc' 3 _ rfl
  · rw [← add_field _ _ 4 (by omega)]; exact hc' 4 _ rfl
  · rw [← add_field _ _ 5 (by omega)]; exact hc' 5 _ rfl
  · rw [← add_field _ _ 6 (by omega)]; exact hc' 6 _ rfl
  · rw [← add_field _ _ 7 (by omega)]; exact hc' 7 _ rfl

/-- The cells of an event in a block of its own, still there behind a call. -/
theorem evBox {x : Ev} {B : Nat} {w w' : World} (h : Below B (w.alloc (.cells #[.string x.source, .int .i64 x.number, .int .i64 x.at', .int .i64 x.kind, .string x.person, .string x.item, .int .i64 x.value, .string x.text] 33)) w') (hB : w.heap.size < B := by simp) :
    w'.cell? ⟨w.heap.size, 0, none⟩ = some (.string x.source) ∧ w'.cell? ⟨w.heap.size, 1, none⟩ = some (.int .i64 x.number) ∧ w'.cell? ⟨w.heap.size, 2, none⟩ = some (.int .i64 x.at') ∧ w'.cell? ⟨w.heap.size, 3, none⟩ = some (.int .i64 x.kind) ∧ w'.cell? ⟨w.heap.size, 4, none⟩ = some (.string x.person) ∧ w'.cell? ⟨w.heap.size, 5, none⟩ = some (.string x.item) ∧ w'.cell? ⟨w.heap.size, 6, none⟩ = some (.int .i64 x.value) ∧ w'.cell? ⟨w.heap.size, 7, none⟩ = some (.string x.text) := by
  have hb : w'.heap[w.heap.size]? = _ := (h.block w.heap.size hB).trans (heap_alloc_new w _)
  refine ⟨?_, ?_, ?_, ?_, ?_, ?_, ?_, ?_⟩ <;> (rw [cell_of_row _ _ _ _ _ _ hb]; rfl)
theorem evBlock {x : Ev} {w : World} {b : Nat} {fr : Nat × Nat} (h : w.heap[b]? = some (.cells #[.string x.source, .int .i64 x.number, .int .i64 x.at', .int .i64 x.kind, .string x.person, .string x.item, .int .i64 x.value, .string x.text] 33 fr)) :
    w.cell? ⟨b, 0, none⟩ = some (.string x.source) ∧ w.cell? ⟨b, 1, none⟩ = some (.int .i64 x.number) ∧ w.cell? ⟨b, 2, none⟩ = some (.int .i64 x.at') ∧ w.cell? ⟨b, 3, none⟩ = some (.int .i64 x.kind) ∧ w.cell? ⟨b, 4, none⟩ = some (.string x.person) ∧ w.cell? ⟨b, 5, none⟩ = some (.string x.item) ∧ w.cell? ⟨b, 6, none⟩ = some (.int .i64 x.value) ∧ w.cell? ⟨b, 7, none⟩ = some (.string x.text) := by
  refine ⟨?_, ?_, ?_, ?_, ?_, ?_, ?_, ?_⟩ <;> (rw [cell_of_row _ _ _ _ _ _ h]; rfl)
/-- At p lies an event. -/
structure EvAt (w : World) (p : Addr) (x : Ev) : Prop where
  c0 : w.cell? p = some (.string x.source)
  c1 : w.cell? ⟨p.block, p.off + 1, none⟩ = some (.int .i64 x.number)
  c2 : w.cell? ⟨p.block, p.off + 2, none⟩ = some (.int .i64 x.at')
  c3 : w.cell? ⟨p.block, p.off + 3, none⟩ = some (.int .i64 x.kind)
  c4 : w.cell? ⟨p.block, p.off + 4, none⟩ = some (.string x.person)
  c5 : w.cell? ⟨p.block, p.off + 5, none⟩ = some (.string x.item)
  c6 : w.cell? ⟨p.block, p.off + 6, none⟩ = some (.int .i64 x.value)
  c7 : w.cell? ⟨p.block, p.off + 7, none⟩ = some (.string x.text)
theorem EvAt.later {w w' : World} {p : Addr} {x : Ev} (h : EvAt w p x) (hb : Below w.heap.size w w') : EvAt w' p x :=
  ⟨cell_later hb h.c0, cell_later hb h.c1, cell_later hb h.c2, cell_later hb h.c3, cell_later hb h.c4, cell_later hb h.c5, cell_later hb h.c6, cell_later hb h.c7⟩
theorem EvAt.lt {w : World} {p : Addr} {x : Ev} (h : EvAt w p x) : p.block < w.heap.size := World.block_lt_of_cell? w _ h.c0
theorem Rd.evAt {w : World} {A : Option Addr} {c : Nat} {l : List Ev} (h : Rd kE w A c l) (i : Nat) (hi : i < l.length) : ∃ a, A = some a ∧ EvAt w (a.add (i * 8)) l[i] := by
  obtain ⟨a, e, h0, h1, h2, h3, h4, h5, h6, h7⟩ := h.ev i hi
  exact ⟨a, e, h0, h1, h2, h3, h4, h5, h6, h7⟩
theorem Own.empty {α : Type} (K : EK α) (w : World) {base : Nat} (hb : base ≤ w.heap.size) : Own K (w.alloc (.cells #[] K.ty)) base (.slice (some ⟨w.heap.size, 0, none⟩) 0 0) [] :=
  ⟨World.ownsRow_made w #[] 0 hb (Nat.zero_le _) (by simp), by simp⟩
theorem beq_eq_dec (a b : Int) : (a == b) = decide (a = b) := by rw [Bool.eq_iff_iff, beq_iff_eq, decide_eq_true_iff]
end Go.Proofs.Ytemnakfjmikcdaa
