/- The order of texts, byte by byte, and that of texts by their hashes: laws on orders, with no program in sight; and what Go's cmp functions come to. -/
import Derived.Test.YtemnakfjmikcdaaDraw
import Derived.Test.YtemnakfjmikcdaaShard
set_option linter.unusedVariables false
set_option linter.unusedSimpArgs false
namespace Go.Proofs.Ytemnakfjmikcdaa
open Go.RowKit

/-! ### bytes -/
theorem lessB_irrefl : ∀ x : List UInt8, Op.bytesLess x x = false
  | [] => rfl
  | a :: x => by
    have := lessB_irrefl x
    simp [Op.bytesLess, this]
theorem lessB_trans : ∀ x y z : List UInt8, Op.bytesLess x y = true → Op.bytesLess y z = true → Op.bytesLess x z = true
  | [], _, [], _, h2 => by cases h2' : ‹List UInt8› <;> simp_all [Op.bytesLess]
  | [], _, _ :: _, _, _ => rfl
  | _ :: _, [], _, h1, _ => by simp [Op.bytesLess] at h1
  | _ :: _, _ :: _, [], _, h2 => by simp [Op.bytesLess] at h2
  | a :: x, b :: y, c :: z, h1, h2 => by
    have ih := lessB_trans x y z
    simp only [Op.bytesLess, Bool.or_eq_true, decide_eq_true_iff, Bool.and_eq_true, beq_iff_eq] at *
    rcases h1 with h1 | ⟨rfl, h1⟩
    · rcases h2 with h2 | ⟨rfl, h2⟩
      · exact .inl (UInt8.lt_trans h1 h2)
      · exact .inl h1
    · rcases h2 with h2 | ⟨rfl, h2⟩
      · exact .inl h2
      · exact .inr ⟨rfl, ih h1 h2⟩
theorem lessB_tri : ∀ x y : List UInt8, Op.bytesLess x y = false → Op.bytesLess y x = false → x = y
  | [], [], _, _ => rfl
  | [], _ :: _, h, _ => by simp [Op.bytesLess] at h
  | _ :: _, [], _, h => by simp [Op.bytesLess] at h
  | a :: x, b :: y, h1, h2 => by
    have ih := lessB_tri x y
    simp only [Op.bytesLess, Bool.or_eq_false_iff, decide_eq_false_iff_not, Bool.and_eq_false_iff, beq_eq_false_iff_ne] at h1 h2
    have e : a = b := by
      have h3 := h1.1
      have h4 := h2.1
      exact UInt8.le_antisymm (UInt8.not_lt.1 h4) (UInt8.not_lt.1 h3)
    subst e
    have h5 : Op.bytesLess x y = false := by simpa using h1.2
    have h6 : Op.bytesLess y x = false := by simpa using h2.2
    rw [ih h5 h6]
def lessT (x y : ByteArray) : Bool := Op.bytesLess x.toList y.toList
theorem lessT_irrefl (x : ByteArray) : lessT x x = false := lessB_irrefl _
theorem lessT_trans {x y z : ByteArray} (h1 : lessT x y = true) (h2 : lessT y z = true) : lessT x z = true := lessB_trans _ _ _ h1 h2
theorem lessT_tri {x y : ByteArray} (h1 : lessT x y = false) (h2 : lessT y x = false) : x = y := toList_inj.1 (lessB_tri _ _ h1 h2)
def cmpT (x y : ByteArray) : Int := if lessT x y then -1 else if lessT y x then 1 else 0

/-! ### by a number first, then by the text -/
/-- x stands ahead of y: by a number of theirs; of one number: by the texts. -/
def ahead (f : ByteArray → Int) (x y : ByteArray) : Bool := decide (f x < f y) || (f x == f y && lessT x y)
theorem ahead_irrefl (f : ByteArray → Int) (x : ByteArray) : ahead f x x = false := by simp [ahead, lessT_irrefl]
theorem ahead_trans {f : ByteArray → Int} {x y z : ByteArray} (h1 : ahead f x y = true) (h2 : ahead f y z = true) : ahead f x z = true := by
  simp only [ahead, Bool.or_eq_true, decide_eq_true_iff, Bool.and_eq_true, beq_iff_eq] at *
  rcases h1 with h1 | ⟨e1, h1⟩ <;> rcases h2 with h2 | ⟨e2, h2⟩
  · exact .inl (by omega)
  · exact .inl (by omega)
  · exact .inl (by omega)
  · exact .inr ⟨by omega, lessT_trans h1 h2⟩
theorem ahead_tri {f : ByteArray → Int} {x y : ByteArray} (h1 : ahead f x y = false) (h2 : ahead f y x = false) : x = y := by
  simp only [ahead, Bool.or_eq_false_iff, decide_eq_false_iff_not, Bool.and_eq_false_iff, beq_eq_false_iff_ne] at *
  have e : f x = f y := by omega
  exact lessT_tri (by rcases h1.2 with h | h; exact absurd e h; exact h) (by rcases h2.2 with h | h; exact absurd e.symm h; exact h)
def cmpBy (f : ByteArray → Int) (x y : ByteArray) : Int := if Lib.compareInt (f x) (f y) = 0 then cmpT x y else Lib.compareInt (f x) (f y)
theorem cmpBy_neg (f : ByteArray → Int) (x y : ByteArray) : decide (cmpBy f x y < 0) = ahead f x y := by
  have h : lessT x y = true → lessT y x = false := fun h1 => by
    cases h2 : lessT y x with
    | false => rfl
    | true => have := lessT_trans h1 h2; rw [lessT_irrefl] at this; cases this
  unfold cmpBy ahead cmpT Lib.compareInt
  by_cases h1 : f x < f y
  · simp [h1]
  · by_cases h2 : f x = f y
    · rw [h2]
      cases h3 : lessT x y <;> simp
      split <;> simp
    · have h3 : f y < f x := by omega
      simp [h1, h2, h3]
theorem ahead_swo (f : ByteArray → Int) : ∀ lt : ByteArray → ByteArray → Bool, (∀ x y, lt x y = ahead f x y) → Sort.SWO lt := fun lt h => by
  refine ⟨fun x => by rw [h]; exact ahead_irrefl f x, fun x y z h1 h2 => by rw [h] at *; exact ahead_trans h1 h2, fun x y z h1 h2 => ?_⟩
  rw [h] at *
  cases h3 : ahead f x z with
  | false => rfl
  | true =>
    cases h4 : ahead f y x with
    | true =>
      have := ahead_trans h4 h3
      rw [this] at h2; cases h2
    | false =>
      have e := ahead_tri h1 h4
      subst e
      rw [h3] at h2; cases h2

/-! ### Go's cmp -/
theorem cmpU_calls (x y : Int) (w : World) : Calls Try.prog 41 #[.int .u64 x, .int .u64 y] w fun e w' => e = .returned (.int .i64 (Lib.compareInt x y)) ∧ w = w' := by
  have hn : ∀ z : Int, Calls Try.prog 51 #[.int .u64 z] w fun e w' => e = .returned (.bool false) ∧ w = w' := fun z => by
    have hz : (z != z) = false := by simp
    go_enter Try.func51, Try.ntmps51
    go_wp2
    go_returns
    exact ⟨rfl, rfl⟩
  have HN := Lib.hid hn
  clear hn
  go_enter Try.func41, Try.ntmps41
  go_wp2_with (go_at_call 51; refine (HN.out _).mono ?_; rintro e w' ⟨rfl, rfl⟩)
  all_goals
    go_returns
    exact ⟨ret_num (by unfold Lib.compareInt; repeat' split
                       all_goals omega), rfl⟩
theorem cmpT_calls (x y : ByteArray) (w : World) : Calls Try.prog 42 #[.string x, .string y] w fun e w' => e = .returned (.int .i64 (cmpT x y)) ∧ w = w' := by
  have hn : ∀ z : ByteArray, Calls Try.prog 52 #[.string z] w fun e w' => e = .returned (.bool false) ∧ w = w' := fun z => by
    have hz : (z.toList == z.toList) = true := by simp
    go_enter Try.func52, Try.ntmps52
    go_wp2
    go_returns
    exact ⟨rfl, rfl⟩
  have HN := Lib.hid hn
  clear hn
  have HC : Hid (cmpT x y = if Op.bytesLess x.toList y.toList then -1 else if Op.bytesLess y.toList x.toList then 1 else 0) := rfl
  have HE1 : Hid (Op.bytesLess x.toList y.toList = false → Op.bytesLess y.toList x.toList = false → (x.toList == y.toList) = true) := fun h1 h2 => by rw [beq_iff_eq]; exact lessB_tri _ _ h1 h2
  have HE2 : Hid (Op.bytesLess y.toList x.toList = true → (x.toList == y.toList) = false) := fun h2 => by
    rw [beq_eq_false_iff_ne]; intro e; rw [e, lessB_irrefl] at h2; cases h2
  cases h1 : Op.bytesLess x.toList y.toList <;> cases h2 : Op.bytesLess y.toList x.toList <;> rw [h1, h2] at HC
  case' false.false => have he := HE1.out h1 h2
  case' false.true => have he := HE2.out h2
  all_goals
    go_enter Try.func42, Try.ntmps42
    go_wp2_with (go_at_call 52; refine (HN.out _).mono ?_; rintro e w' ⟨rfl, rfl⟩)
    go_returns
    exact ⟨ret_num HC.out.symm, rfl⟩
set_option maxHeartbeats 400000 in
theorem cmpOr_calls (x y : Int) (g : Nat) (w : World) (h0 : w.cell? ⟨g, 0, none⟩ = some (.int .i64 x)) (h1 : w.cell? ⟨g, 1, none⟩ = some (.int .i64 y)) :
    Calls Try.prog 40 #[.slice (some ⟨g, 0, none⟩) 2 2] w fun e w' => e = .returned (.int .i64 (if x = 0 then y else x)) ∧ w = w' := by
  have HX : Hid (∀ z, z = 0 → (z == (0 : Int)) = true) := fun z h => by rw [h]; rfl
  have hq : Hid ((x ≠ 0 → (if x = 0 then y else x) = x) ∧ (x = 0 → (if x = 0 then y else x) = y)) := ⟨fun h => if_neg h, fun h => if_pos h⟩
  generalize (if x = 0 then y else x) = q at *
  go_enter Try.func40, Try.ntmps40
  go_wp2
  go_loopw [8] (fun i wr => w = wr ∧ (i = .int .i64 0 ∨ (i = .int .i64 1 ∧ x = 0) ∨ (i = .int .i64 2 ∧ x = 0 ∧ y = 0))) (fun i _ => 2 - (intOf i).toNat)
  case atStart => exact ⟨rfl, .inl rfl⟩
  case round =>
    obtain ⟨rfl, rfl | ⟨rfl, hx⟩ | ⟨rfl, hx, hy⟩⟩ := hrel
    · by_cases h : x = 0
      · have hb : (x != 0) = false := by simp [h]
        have H := Lib.hid h
        clear h
        go_wp2
        go_roundw
        case rel => exact ⟨trivial, .inr (.inl ⟨rfl, H.out⟩)⟩
        case measure => simp [intOf]
      · have hb : (x != 0) = true := by simp [h]
        have H := Lib.hid h
        clear h
        go_wp2
        go_returns
        exact ⟨ret_num (hq.out.1 H.out).symm, rfl⟩
    · have HX0 := Lib.hid hx
      clear hx
      by_cases h : y = 0
      · have hb : (y != 0) = false := by simp [h]
        have H := Lib.hid h
        clear h
        go_wp2
        go_roundw
        case rel => exact ⟨trivial, .inr (.inr ⟨rfl, HX0.out, H.out⟩)⟩
        case measure => simp [intOf]
      · have hb : (y != 0) = true := by simp [h]
        have H := Lib.hid h
        clear h
        go_wp2
        go_returns
        exact ⟨ret_num (hq.out.2 HX0.out).symm, rfl⟩
    · have HX0 := Lib.hid hx
      have HY0 := Lib.hid hy
      clear hx hy
      go_wp2
      go_returns
      exact ⟨ret_num ((hq.out.2 HX0.out).trans HY0.out).symm, rfl⟩

/-! ### the order by hashes -/
def hashOf (seed : Int) (s : ByteArray) : Int := hash seed [s]
theorem cell_alloc_on {w : World} {a : Addr} {v : Value} (o : Obj) (h : w.cell? a = some v) : (w.alloc o).cell? a = some v := cell_later ((Below.refl w.heap.size w).alloc (Nat.le_refl _) o) h
theorem cell_drew_on {w : World} {a : Addr} {v : Value} (h : w.cell? a = some v) : w.drew.cell? a = some v := h
theorem cell_new {w : World} {g k : Nat} {u : Value} (cs : Array Value) (t : TypeId) (hg : w.heap.size = g) (hu : cs[k]? = some u) : (w.alloc (.cells cs t)).cell? ⟨g, k, none⟩ = some u := by
  subst hg; rw [cell_of_row _ _ _ _ _ _ (heap_alloc_new w _)]; exact hu
/-- The hash of one text that lies in a cell. -/
theorem hash_one (seed : Int) {s : ByteArray} {g : Nat} {w : World} (hb : w.cell? ⟨g, 0, none⟩ = some (.string s)) (hs : isStr s) :
    Calls Try.prog 21 #[.int .u64 seed, .slice (some ⟨g, 0, none⟩) 1 1] w fun e w' => e = .returned (.int .u64 (hashOf seed s)) ∧ ∃ o, w' = w.alloc o :=
  hash_calls seed _ 1 [s] w ⟨Nat.le_refl 1, (show 1 * 16 ≤ 140737488351232 by decide), fun x hx => by rw [List.mem_singleton.1 hx]; exact hs, fun i hi => by
    have hi0 : i = 0 := by simpa using hi
    subst hi0
    refine ⟨_, rfl, fun j u hj => ?_⟩
    have hj0 : j = 0 := by
      have := (List.getElem?_eq_some_iff.1 hj).1
      simpa [kS] using this
    subst hj0
    have hu : Value.string s = u := by simpa [kS] using hj
    rw [← hu, add_off]; exact hb⟩
def orI (x y : Int) : Int := if x = 0 then y else x
theorem cmpOr_one (x y : Int) {g : Nat} {w : World} (h0 : w.cell? ⟨g, 0, none⟩ = some (.int .i64 x)) (h1 : w.cell? ⟨g, 1, none⟩ = some (.int .i64 y)) :
    Calls Try.prog 40 #[.slice (some ⟨g, 0, none⟩) 2 2] w fun e w' => e = .returned (.int .i64 (orI x y)) ∧ w = w' := cmpOr_calls x y g w h0 h1
/-- w' is w with blocks laid behind, and orders drawn. -/
def Grew (w w' : World) : Prop := ∃ q os, w' = Sort.grow (w.drewN q) os
theorem Grew.refl (w : World) : Grew w w := ⟨0, #[], by simp; rfl⟩
theorem Grew.alloc {w w' : World} (h : Grew w w') (o : Obj) : Grew w (w'.alloc o) := by
  obtain ⟨q, os, rfl⟩ := h
  exact ⟨q, os ++ #[o], by rw [Sort.alloc_eq_grow, Sort.grow_grow]⟩
theorem Grew.drew {w w' : World} (h : Grew w w') : Grew w w'.drew := by
  obtain ⟨q, os, rfl⟩ := h
  exact ⟨q + 1, os, rfl⟩

set_option maxHeartbeats 800000 in
/-- Sample's own order, called with two texts. -/
theorem sampleCmp_calls (seed : Int) (b : Nat) (x y : ByteArray) (w : World) (hx : isStr x) (hy : isStr y) (hb : w.cell? ⟨b, 0, none⟩ = some (.int .u64 seed)) :
    Calls Try.prog 39 #[.string x, .string y, .pointer (some ⟨b, 0, none⟩)] w fun e w' => e = .returned (.int .i64 (cmpBy (hashOf seed) x y)) ∧ Grew w w' := by
  have HX := Lib.hid hx
  have HY := Lib.hid hy
  have HR : Hid (cmpBy (hashOf seed) x y = orI (Lib.compareInt (hashOf seed x) (hashOf seed y)) (cmpT x y)) := rfl
  have hbl := World.block_lt_of_cell? w _ hb
  clear hx hy
  go_enter Try.func39, Try.ntmps39
  go_wp2
  go_region_held3 (fun wz => wz.cell? ⟨b, 0, none⟩ = some (.int .u64 seed)) (first | (go_keep; done) | (repeat (first | (with_reducible exact hb) | (with_reducible refine cell_drew_on ?_) | (with_reducible refine cell_alloc_on _ ?_))))
    (first
      | (go_at_call 21; refine Calls.mono (hash_one seed (s := x) ?_ HX.out) ?_; (repeat (first | (with_reducible refine cell_drew_on ?_) | ((with_reducible refine cell_new _ _ ?_ ?_); (first | (with_reducible rfl) | (simp only [World.size_alloc])); rfl) | (with_reducible refine cell_alloc_on _ ?_))); rintro e w' ⟨rfl, o, rfl⟩)
      | (go_at_call 21; refine Calls.mono (hash_one seed (s := y) ?_ HY.out) ?_; (repeat (first | (with_reducible refine cell_drew_on ?_) | ((with_reducible refine cell_new _ _ ?_ ?_); (first | (with_reducible rfl) | (simp only [World.size_alloc])); rfl) | (with_reducible refine cell_alloc_on _ ?_))); rintro e w' ⟨rfl, o, rfl⟩)
      | (go_at_call 41; refine (cmpU_calls _ _ _).mono ?_; rintro e w' ⟨rfl, rfl⟩)
      | (go_at_call 42; refine (cmpT_calls _ _ _).mono ?_; rintro e w' ⟨rfl, rfl⟩)
      | (go_at_call 40; refine Calls.mono (cmpOr_one (Lib.compareInt (hashOf seed x) (hashOf seed y)) (cmpT x y) ?_ ?_) ?_; (repeat (first | (with_reducible refine cell_drew_on ?_) | ((with_reducible refine cell_new _ _ ?_ ?_); (first | (with_reducible rfl) | (simp only [World.size_alloc])); rfl) | (with_reducible refine cell_alloc_on _ ?_))); rintro e w' ⟨rfl, rfl⟩))
  all_goals
    go_wp2
    go_returns
    exact ⟨ret_num HR.out.symm, by repeat (first | (with_reducible exact Grew.refl _) | (with_reducible refine Grew.alloc ?_ _) | (with_reducible refine Grew.drew ?_))⟩
end Go.Proofs.Ytemnakfjmikcdaa
