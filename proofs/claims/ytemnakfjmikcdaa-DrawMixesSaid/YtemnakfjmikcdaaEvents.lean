/- What the reference's plain functions on lists of events and of texts come to: Big, Some, Same, Texts, In. -/
import Derived.Test.YtemnakfjmikcdaaKinds
set_option linter.unusedVariables false
set_option linter.unusedSimpArgs false
namespace Go.Proofs.Ytemnakfjmikcdaa
open Go.RowKit

theorem toList_inj {a b : ByteArray} : a.toList = b.toList ↔ a = b := by
  rw [ByteArray.toList_eq, ByteArray.toList_eq]
  refine ⟨fun h => ?_, fun h => by rw [h]⟩
  obtain ⟨⟨x⟩⟩ := a
  obtain ⟨⟨y⟩⟩ := b
  have : x = y := h
  rw [this]
theorem toList_beq (a b : ByteArray) : (a.toList == b.toList) = decide (a = b) := by
  rw [Bool.eq_iff_iff, beq_iff_eq, decide_eq_true_iff, toList_inj]
theorem take_eq_succ {α : Type} {l m : List α} {k : Nat} (h1 : k < l.length) (h2 : k < m.length) : l.take (k + 1) = m.take (k + 1) ↔ l.take k = m.take k ∧ l[k] = m[k] := by
  rw [List.take_succ_eq_append_getElem h1, List.take_succ_eq_append_getElem h2]
  constructor
  · intro h
    have := List.append_inj' h rfl
    exact ⟨this.1, by simpa using this.2⟩
  · rintro ⟨h, e⟩
    rw [h, e]
theorem take_any_succ {α : Type} (p : α → Bool) {l : List α} {k : Nat} (h : k < l.length) : (l.take (k + 1)).any p = ((l.take k).any p || p l[k]) := by
  rw [List.take_succ_eq_append_getElem h, List.any_append]; simp
theorem take_all {α : Type} {l : List α} {k : Nat} (h : l.length ≤ k) : l.take k = l := List.take_of_length_le h

set_option maxHeartbeats 400000 in
/-- '==' of two events. -/
theorem eqEv (x y : Ev) (d : Nat) (w : World) : (Op.equalIn (d + 2) 33 (.agg #[.string x.source, .int .i64 x.number, .int .i64 x.at', .int .i64 x.kind, .string x.person, .string x.item, .int .i64 x.value, .string x.text]) (.agg #[.string y.source, .int .i64 y.number, .int .i64 y.at', .int .i64 y.kind, .string y.person, .string y.item, .int .i64 y.value, .string y.text])).run Try.prog w = .ok (decide (x = y)) w := by
  go_simp
  obtain ⟨x0, x1, x2, x3, x4, x5, x6, x7⟩ := x
  obtain ⟨y0, y1, y2, y3, y4, y5, y6, y7⟩ := y
  simp only [toList_inj, Ev.mk.injEq]
  repeat' split
  all_goals simp [*]
attribute [local go_sem high] eqEv

def evBig (most : Int) (e : Ev) : Bool := decide ((e.source.size : Int) > most) || decide ((e.person.size : Int) > most) || decide ((e.item.size : Int) > most) || decide ((e.text.size : Int) > most)

set_option maxHeartbeats 400000 in
theorem refBig_calls (x : Ev) (most : Int) (w : World) (hx : x.ok) :
    Calls Try.prog 34 #[x.agg, .int .i64 most] w (RetB w (.bool (evBig most x))) := by
  obtain ⟨h0, h1, h2, h3, h4, h5, h6, h7⟩ := hx
  unfold isStr at *
  unfold isI64 at *
  unfold Ev.agg
  go_enter Try.func34, Try.ntmps34
  go_wp2
  all_goals (go_returns; exact ⟨ret_bool (by simp [evBig]; try omega), by go_grown⟩)

set_option maxHeartbeats 800000 in
theorem refSome_calls (A : Option Addr) (c : Nat) (l : List Ev) (most : Int) (w : World) (hl : Rd kE w A c l) :
    Calls Try.prog 12 #[.slice A l.length c, .int .i64 most] w (RetB w (.bool (l.any (evBig most)))) := by
  have h1 := hl.len (by decide)
  have HL := Lib.hid hl
  clear hl
  go_enter Try.func12, Try.ntmps12
  go_wp2
  go_loopw [5] (fun i wr => ∃ k : Nat, k ≤ l.length ∧ i = .int .i64 k ∧ Below w.heap.size w wr ∧ Hid ((l.take k).any (evBig most) = false)) (fun i _ => l.length - (intOf i).toNat)
  case atStart => exact ⟨0, Nat.zero_le _, rfl, Below.refl _ _, rfl⟩
  case round =>
    obtain ⟨k, hk, rfl, hb, he⟩ := hrel
    by_cases hlt : k < l.length
    · obtain ⟨a, rfl, a0, a1, a2, a3, a4, a5, a6, a7⟩ := (HL.out.later hb).ev k hlt
      have hok : Hid (l[k].ok) := HL.out.ok l[k] (List.getElem_mem hlt)
      have HE := Lib.hid (take_any_succ (evBig most) hlt)
      have HA : Hid (evBig most l[k] = true → l.any (evBig most) = true) := fun h => List.any_eq_true.2 ⟨_, List.getElem_mem hlt, h⟩
      generalize l[k] = x at *
      have HB := Lib.hid hb
      clear hb
      cases hx : evBig most x with
      | true =>
        have hc := Lib.hid (refBig_calls x most wr hok.out)
        rw [hx] at hc
        have HX := Lib.hid hx
        clear hx
        go_wp2_with (go_at_call 34; refine hc.out.mono ?_; rintro e w' ⟨rfl, hb'⟩)
        go_returns
        exact ⟨ret_bool (HA.out HX.out).symm, below_then HB.out (by assumption) HB.out.size⟩
      | false =>
        have hc := Lib.hid (refBig_calls x most wr hok.out)
        rw [hx] at hc
        have HX := Lib.hid hx
        clear hx
        go_wp2_with (go_at_call 34; refine hc.out.mono ?_; rintro e w' ⟨rfl, hb'⟩)
        go_roundw
        case rel => exact ⟨k + 1, by omega, by go_num, below_then HB.out (by assumption) HB.out.size, by show _ = _; rw [HE.out, he.out, HX.out]; rfl⟩
        case measure => simp [intOf]; omega
    · go_wp2
      go_returns
      exact ⟨ret_bool (by have := he.out; rw [take_all (by omega)] at this; exact this.symm), by assumption⟩

set_option maxHeartbeats 800000 in
theorem refSame_calls (A B : Option Addr) (c d : Nat) (l m : List Ev) (w : World) (hl : Rd kE w A c l) (hm : Rd kE w B d m) :
    Calls Try.prog 16 #[.slice A l.length c, .slice B m.length d] w (RetB w (.bool (decide (l = m)))) := by
  have h1 := hl.len (by decide)
  have h2 := hm.len (by decide)
  have HL := Lib.hid hl
  have HM := Lib.hid hm
  clear hl hm
  by_cases hne : l.length = m.length
  · have hb : ((l.length : Int) != (m.length : Int)) = false := by simp [hne]
    have HN := Lib.hid hne
    clear hne
    go_enter Try.func16, Try.ntmps16
    go_wp2
    go_loopw [5] (fun i wr => ∃ k : Nat, k ≤ l.length ∧ i = .int .i64 k ∧ (∃ n, wr = w.drewN n) ∧ Hid (l.take k = m.take k)) (fun i _ => l.length - (intOf i).toNat)
    case atStart => exact ⟨0, Nat.zero_le _, rfl, ⟨0, rfl⟩, rfl⟩
    case round =>
      obtain ⟨k, hk, rfl, ⟨n, rfl⟩, he⟩ := hrel
      by_cases hlt : k < l.length
      · have hlt2 : k < m.length := by have := HN.out; omega
        obtain ⟨a, rfl, a0, a1, a2, a3, a4, a5, a6, a7⟩ := HL.out.ev k hlt
        obtain ⟨b, rfl, b0, b1, b2, b3, b4, b5, b6, b7⟩ := HM.out.ev k hlt2
        have HE := Lib.hid (take_eq_succ hlt hlt2)
        have HF : Hid (l[k] ≠ m[k] → l ≠ m) := fun h e => h (by subst e; rfl)
        generalize l[k] = x at *
        generalize m[k] = y at *
        by_cases hxy : x = y
        · have hd : decide (x = y) = true := decide_eq_true hxy
          have HX := Lib.hid hxy
          clear hxy
          go_wp2
          go_quiet (fail)
          go_wp2
          go_roundw
          case rel => exact ⟨k + 1, by omega, by go_num, ⟨_, rfl⟩, HE.out.2 ⟨he.out, HX.out⟩⟩
          case measure => simp [intOf]; omega
        · have hd : decide (x = y) = false := decide_eq_false hxy
          have HX := Lib.hid hxy
          clear hxy
          go_wp2
          go_quiet (fail)
          go_wp2
          go_returns
          exact ⟨ret_bool (decide_eq_false (HF.out HX.out)).symm, drewN_below2 _ _ _⟩
      · go_wp2
        go_returns
        have := HN.out
        exact ⟨ret_bool (decide_eq_true (by have := he.out; rw [take_all (by omega), take_all (by omega)] at this; exact this)).symm, drewN_below _ _⟩
  · have hb : ((l.length : Int) != (m.length : Int)) = true := by simp; omega
    have HN := Lib.hid hne
    clear hne
    go_enter Try.func16, Try.ntmps16
    go_wp2
    go_returns
    exact ⟨ret_bool (decide_eq_false (fun e => HN.out (by rw [e]))).symm, Below.refl _ _⟩

set_option maxHeartbeats 800000 in
theorem refTexts_calls (A B : Option Addr) (c d : Nat) (l m : List ByteArray) (w : World) (hl : Rd kS w A c l) (hm : Rd kS w B d m) :
    Calls Try.prog 26 #[.slice A l.length c, .slice B m.length d] w (RetB w (.bool (decide (l = m)))) := by
  have h1 := hl.len (by decide)
  have h2 := hm.len (by decide)
  have HL := Lib.hid hl
  have HM := Lib.hid hm
  clear hl hm
  by_cases hne : l.length = m.length
  · have hb : ((l.length : Int) != (m.length : Int)) = false := by simp [hne]
    have HN := Lib.hid hne
    clear hne
    go_enter Try.func26, Try.ntmps26
    go_wp2
    go_loopw [5] (fun i wr => ∃ k : Nat, k ≤ l.length ∧ i = .int .i64 k ∧ (∃ n, wr = w.drewN n) ∧ Hid (l.take k = m.take k)) (fun i _ => l.length - (intOf i).toNat)
    case atStart => exact ⟨0, Nat.zero_le _, rfl, ⟨0, rfl⟩, rfl⟩
    case round =>
      obtain ⟨k, hk, rfl, ⟨n, rfl⟩, he⟩ := hrel
      by_cases hlt : k < l.length
      · have hlt2 : k < m.length := by have := HN.out; omega
        obtain ⟨a, rfl, a0⟩ := HL.out.str k hlt
        obtain ⟨b, rfl, b0⟩ := HM.out.str k hlt2
        have HE := Lib.hid (take_eq_succ hlt hlt2)
        have HF : Hid (l[k] ≠ m[k] → l ≠ m) := fun h e => h (by subst e; rfl)
        generalize l[k] = x at *
        generalize m[k] = y at *
        by_cases hxy : x = y
        · have hd : (x.toList == y.toList) = true := by rw [hxy]; simp
          have HX := Lib.hid hxy
          clear hxy
          go_wp2
          go_quiet (fail)
          go_wp2
          go_roundw
          case rel => exact ⟨k + 1, by omega, by go_num, ⟨_, rfl⟩, HE.out.2 ⟨he.out, HX.out⟩⟩
          case measure => simp [intOf]; omega
        · have hd : (x.toList == y.toList) = false := by rw [toList_beq]; exact decide_eq_false hxy
          have HX := Lib.hid hxy
          clear hxy
          go_wp2
          go_quiet (fail)
          go_wp2
          go_returns
          exact ⟨ret_bool (decide_eq_false (HF.out HX.out)).symm, drewN_below2 _ _ _⟩
      · go_wp2
        go_returns
        have := HN.out
        exact ⟨ret_bool (decide_eq_true (by have := he.out; rw [take_all (by omega), take_all (by omega)] at this; exact this)).symm, drewN_below _ _⟩
  · have hb : ((l.length : Int) != (m.length : Int)) = true := by simp; omega
    have HN := Lib.hid hne
    clear hne
    go_enter Try.func26, Try.ntmps26
    go_wp2
    go_returns
    exact ⟨ret_bool (decide_eq_false (fun e => HN.out (by rw [e]))).symm, Below.refl _ _⟩
end Go.Proofs.Ytemnakfjmikcdaa
