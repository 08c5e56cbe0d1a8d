/- Layer 32 (shard): the chapter's example, which each of the layer's statements meets first, is true. -/
import Derived.Test.YtemnakfjmikcdaaSplit
set_option linter.unusedVariables false
set_option linter.unusedSimpArgs false
namespace Go.Proofs.Ytemnakfjmikcdaa
open Go.RowKit

theorem Own.cellAt {α : Type} {K : EK α} {w : World} {base g n cap : Nat} {l : List α} (h : Own K w base (.slice (some ⟨g, 0, none⟩) n cap) l) (j : Nat) (u : Value) (hj : (l.flatMap K.enc)[j]? = some u) : w.cell? ⟨g, j, none⟩ = some u := by
  have := h.row.cells (g := g) rfl j u hj
  rw [add_off, Nat.zero_add] at this
  exact this

def e0 : Ev := ⟨⟨#[115]⟩, 1, 0, 14, ⟨#[112]⟩, ⟨#[]⟩, 0, ⟨#[]⟩⟩
theorem e0_ok : e0.ok := ⟨by unfold isStr; decide, by unfold isI64; decide, by unfold isI64; decide, by unfold isI64; decide, by unfold isStr; decide, by unfold isStr; decide, by unfold isI64; decide, by unfold isStr; decide⟩
theorem shard_one (p : ByteArray) : shardOf p 1 = 0 := by have := shardOf_range p (n := 1) (by decide); omega
theorem part_one (l : List Ev) : part (1 : Nat) (0 : Nat) l = l := by
  unfold part
  refine List.filter_eq_self.2 fun e _ => ?_
  rw [show ((1 : Nat) : Int) = 1 from rfl, show ((0 : Nat) : Int) = 0 from rfl, shard_one]; simp
theorem parts_one (l : List Ev) : parts 1 l = [l] := by unfold parts; simp only [List.range_one, List.map_cons, List.map_nil]; rw [part_one]

set_option maxHeartbeats 1600000 in
set_option maxRecDepth 100000 in
theorem lives32_calls (w : World) : Calls Try.prog 11 #[] w (RetB w (.bool true)) := by
  have hs1 : shardOf ⟨#[112]⟩ 1 = 0 := shard_one _
  go_enter Try.func11, Try.ntmps11
  go_wp2_with fail
  have hrd : Rd kE ((w.alloc (.cells #[.string ⟨#[115]⟩, .int .i64 1, .int .i64 0, .int .i64 14, .string ⟨#[112]⟩, .string ⟨#[]⟩, .int .i64 0, .string ⟨#[]⟩] 33)).alloc (.cells #[.string ⟨#[115]⟩, .int .i64 1, .int .i64 0, .int .i64 14, .string ⟨#[112]⟩, .string ⟨#[]⟩, .int .i64 0, .string ⟨#[]⟩, .string ⟨#[115]⟩, .int .i64 1, .int .i64 0, .int .i64 14, .string ⟨#[112]⟩, .string ⟨#[]⟩, .int .i64 0, .string ⟨#[]⟩] 33)) (some ⟨w.heap.size + 1, 0, none⟩) 2 [e0, e0] := by
    refine Rd.block (by have h := heap_alloc_new (w.alloc (.cells #[.string ⟨#[115]⟩, .int .i64 1, .int .i64 0, .int .i64 14, .string ⟨#[112]⟩, .string ⟨#[]⟩, .int .i64 0, .string ⟨#[]⟩] 33)) ; rw [World.size_alloc] at h; exact h _) (by rfl) (by intro x hx; simp at hx; subst hx; exact e0_ok) (by decide) (by decide) (by decide)
  have hc := split_any _ _ [e0, e0] 1 _ hrd (by decide) (by decide)
  refine hc.mono ?_
  rintro e w' ⟨g, vs, rfl, ho, hb⟩
  clear hrd hc
  rw [parts_one] at ho
  have hz := hb.size
  simp only [World.size_alloc] at hz
  have hbox : w'.heap[w.heap.size]? = some (.cells #[.string ⟨#[115]⟩, .int .i64 1, .int .i64 0, .int .i64 14, .string ⟨#[112]⟩, .string ⟨#[]⟩, .int .i64 0, .string ⟨#[]⟩] 33 (0, 0)) := by
    rw [hb.block _ (by simp only [World.size_alloc]; omega), Below.heap_alloc _ _ _ (by rw [World.size_alloc]; omega)]
    exact heap_alloc_new w _
  have hv : vs.length = 1 := ho.len
  have ho1 := ho.own 0 (by omega) (by simp)
  obtain ⟨hc1, _⟩ := ho.cell 0 (by omega)
  generalize vs[0] = v at *
  obtain ⟨g3, cap, rfl⟩ := ho1.form (by simp)
  have hbx : ∀ (j : Nat) (u : Value), (Ev.cells e0)[j]? = some u → w'.cell? ⟨w.heap.size, j, none⟩ = some u := fun j u hj => by
    rw [cell_of_row _ _ j _ _ _ hbox, ← Array.getElem?_toList]; exact hj
  have b0 := hbx 0 _ rfl
  have b1 := hbx 1 _ rfl
  have b2 := hbx 2 _ rfl
  have b3 := hbx 3 _ rfl
  have b4 := hbx 4 _ rfl
  have b5 := hbx 5 _ rfl
  have b6 := hbx 6 _ rfl
  have b7 := hbx 7 _ rfl
  have d0 := ho1.cellAt 8 _ rfl
  have d1 := ho1.cellAt 9 _ rfl
  have d2 := ho1.cellAt 10 _ rfl
  have d3 := ho1.cellAt 11 _ rfl
  have d4 := ho1.cellAt 12 _ rfl
  have d5 := ho1.cellAt 13 _ rfl
  have d6 := ho1.cellAt 14 _ rfl
  have d7 := ho1.cellAt 15 _ rfl
  have HB := Lib.hid (((((Below.refl w.heap.size w).alloc (Nat.le_refl _) _).alloc (by simp) _).trans (hb.mono (by simp only [World.size_alloc]; omega))))
  clear ho ho1 hb hbx hbox hv
  have hc2 : w'.cell? ⟨g, 0, none⟩ = some (.slice (some ⟨g3, 0, none⟩) 2 cap) := hc1
  clear hc1
  simp only [e0] at *
  go_wp2_with fail
  go_region_held3 (fun wz => wz.cell? ⟨g, 0, none⟩ = some (.slice (some ⟨g3, 0, none⟩) 2 cap) ∧ wz.cell? ⟨w.heap.size, 0, none⟩ = some (.string ⟨#[115]⟩) ∧ wz.cell? ⟨w.heap.size, 1, none⟩ = some (.int .i64 1) ∧ wz.cell? ⟨w.heap.size, 2, none⟩ = some (.int .i64 0) ∧ wz.cell? ⟨w.heap.size, 3, none⟩ = some (.int .i64 14) ∧ wz.cell? ⟨w.heap.size, 4, none⟩ = some (.string ⟨#[112]⟩) ∧ wz.cell? ⟨w.heap.size, 5, none⟩ = some (.string ⟨#[]⟩) ∧ wz.cell? ⟨w.heap.size, 6, none⟩ = some (.int .i64 0) ∧ wz.cell? ⟨w.heap.size, 7, none⟩ = some (.string ⟨#[]⟩) ∧ wz.cell? ⟨g3, 8, none⟩ = some (.string ⟨#[115]⟩) ∧ wz.cell? ⟨g3, 9, none⟩ = some (.int .i64 1) ∧ wz.cell? ⟨g3, 10, none⟩ = some (.int .i64 0) ∧ wz.cell? ⟨g3, 11, none⟩ = some (.int .i64 14) ∧ wz.cell? ⟨g3, 12, none⟩ = some (.string ⟨#[112]⟩) ∧ wz.cell? ⟨g3, 13, none⟩ = some (.string ⟨#[]⟩) ∧ wz.cell? ⟨g3, 14, none⟩ = some (.int .i64 0) ∧ wz.cell? ⟨g3, 15, none⟩ = some (.string ⟨#[]⟩))
    (first | (go_keep; done) | exact ⟨cell_drew_later hb2 hc2, cell_drew_later hb2 b0, cell_drew_later hb2 b1, cell_drew_later hb2 b2, cell_drew_later hb2 b3, cell_drew_later hb2 b4, cell_drew_later hb2 b5, cell_drew_later hb2 b6, cell_drew_later hb2 b7, cell_drew_later hb2 d0, cell_drew_later hb2 d1, cell_drew_later hb2 d2, cell_drew_later hb2 d3, cell_drew_later hb2 d4, cell_drew_later hb2 d5, cell_drew_later hb2 d6, cell_drew_later hb2 d7⟩)
    (first | (go_at_call 14; refine (of_calls _ _ _ (by unfold isStr; decide) (by unfold isI64; decide)).mono ?_; rintro e w2 ⟨rfl, hb2⟩))
  go_wp2
  go_returns
  exact ⟨rfl, below_then HB.out.drew (show Below w'.drew.heap.size w'.drew _ by assumption) HB.out.size⟩
end Go.Proofs.Ytemnakfjmikcdaa
