/- Layer 26 (draw): by weights: draw.Pick, and the reference's Pick. -/
import Derived.Test.YtemnakfjmikcdaaDraw
import Derived.Test.YtemnakfjmikcdaaShard
set_option linter.unusedVariables false
set_option linter.unusedSimpArgs false
namespace Go.Proofs.Ytemnakfjmikcdaa
open Go.RowKit

def held (n : Int) : Int := if n < 0 then 0 else if 1048576 < n then 1048576 else n
def heldAll (l : List Int) : Int := l.foldl (fun a n => a + held n) 0
theorem held_range (n : Int) : 0 ≤ held n ∧ held n ≤ 1048576 := by unfold held; split <;> (try split) <;> omega
theorem heldAll_succ {l : List Int} {k : Nat} (h : k < l.length) : heldAll (l.take (k + 1)) = heldAll (l.take k) + held l[k] := by
  unfold heldAll
  rw [List.take_succ_eq_append_getElem h, List.foldl_append]; rfl
theorem heldAll_range : ∀ (l : List Int) (k : Nat), 0 ≤ heldAll (l.take k) ∧ heldAll (l.take k) ≤ k * 1048576
  | l, 0 => by simp [heldAll]
  | l, k + 1 => by
    have := heldAll_range l k
    by_cases h : k < l.length
    · rw [heldAll_succ h]
      have := held_range l[k]
      omega
    · have e : l.take (k + 1) = l.take k := by rw [take_all (by omega), take_all (by omega)]
      rw [e]; omega
/-- The place at which the weights so far go beyond n. -/
def placeFrom (n : Int) : List Int → Nat → Int
  | [], _ => -1
  | x :: l, k => if n - held x < 0 then k else placeFrom (n - held x) l (k + 1)
def pick (seed : Int) (word : ByteArray) (l : List Int) : Int := if heldAll l = 0 then -1 else placeFrom (below (hash seed [word]) (heldAll l)) l 0

theorem placeFrom_step {n : Int} {l : List Int} {k : Nat} (h : k < l.length) : placeFrom n (l.drop k) k = if n - held l[k] < 0 then (k : Int) else placeFrom (n - held l[k]) (l.drop (k + 1)) (k + 1) := by
  rw [List.drop_eq_getElem_cons h]; rfl
theorem placeFrom_end {n : Int} {l : List Int} {k : Nat} (h : l.length ≤ k) : placeFrom n (l.drop k) k = -1 := by
  rw [List.drop_of_length_le h]; rfl

set_option maxHeartbeats 400000 in
theorem held_calls (n : Int) (w : World) : Calls Try.prog 47 #[.int .i64 n] w fun e w' => e = .returned (.int .i64 (held n)) ∧ w = w' := by
  go_enter Try.func47, Try.ntmps47
  go_wp2
  go_returns
  exact ⟨ret_num (by unfold held; (try simp only [Int.min_def, Int.max_def]); repeat' split
                     all_goals omega), rfl⟩
set_option maxHeartbeats 400000 in
theorem weight_calls (n : Int) (w : World) : Calls Try.prog 48 #[.int .i64 n] w fun e w' => e = .returned (.int .i64 (held n)) ∧ w = w' := by
  go_enter Try.func48, Try.ntmps48
  go_wp2
  all_goals
    go_returns
    exact ⟨ret_num (by unfold held; repeat' split
                       all_goals omega), rfl⟩

set_option maxHeartbeats 800000 in
theorem pick_calls (seed : Int) (word : ByteArray) (A : Option Addr) (c : Nat) (l : List Int) (w : World) (hs : isStr word) (hl : Rd kI w A c l) (hlen : l.length ≤ 1000) :
    Calls Try.prog 32 #[.int .u64 seed, .string word, .slice A l.length c] w (RetB w (.int .i64 (pick seed word l))) := by
  have HL := Lib.hid hl
  have HS := Lib.hid hs
  have hh := hash_range seed [word]
  clear hl hs
  go_enter Try.func32, Try.ntmps32
  go_wp2
  go_loopw [8, 16] (fun s i wr => ∃ k : Nat, k ≤ l.length ∧ i = .int .i64 k ∧ s = .int .i64 (heldAll (l.take k)) ∧ w = wr) (fun _ i _ => l.length - (intOf i).toNat)
  case atStart => exact ⟨0, Nat.zero_le _, rfl, rfl, rfl⟩
  case round =>
    obtain ⟨k, hk, rfl, rfl, rfl⟩ := hrel
    have hr := heldAll_range l k
    by_cases hlt : k < l.length
    · obtain ⟨a, rfl, a0⟩ := HL.out.int k hlt
      have HE := Lib.hid (heldAll_succ hlt)
      have hw := held_range l[k]
      generalize l[k] = x at *
      generalize heldAll (l.take k) = s at *
      go_wp2_with (go_at_call 47; refine (held_calls _ _).mono ?_; rintro e w' ⟨rfl, rfl⟩)
      go_roundw
      case rel => exact ⟨k + 1, by omega, by go_num, by rw [HE.out], trivial⟩
      case measure => simp [intOf]; omega
    · rw [take_all (by omega)] at hr
      have HJ := Lib.hid (take_all (l := l) (k := k) (by omega))
      rw [HJ.out]
      have hp : Hid (pick seed word l = if heldAll l = 0 then -1 else placeFrom (below (hash seed [word]) (heldAll l)) (l.drop 0) 0) := by show _ = _; rw [List.drop_zero]; rfl
      generalize pick seed word l = q at *
      generalize heldAll l = s at *
      by_cases h0 : s = 0
      · have hb : (s == 0) = true := by simp [h0]
        rw [if_pos h0] at hp
        have HP := hp
        clear h0 hp
        go_wp2
        go_returns
        exact ⟨ret_num HP.out.symm, Below.refl _ _⟩
      · have hb : (s == 0) = false := by simp [h0]
        rw [if_neg h0] at hp
        have HP := hp
        have hbr := below_range (n := s) hh.1 hh.2 (by omega)
        have hs1 := hbr.2.1 (by omega)
        clear h0 hp
        go_wp2_with (first
          | (go_at_call 21; refine (hash_calls seed _ _ [word] _ (rd_one word HS.out)).mono ?_; rintro e w' ⟨rfl, o, rfl⟩)
          | (go_at_call 22; refine (below_calls _ _ _ hh.1 hh.2 (by unfold isI64; omega)).mono ?_; rintro e w' ⟨rfl, rfl⟩))
        generalize below (hash seed [word]) s = n0 at *
        have HB := Lib.hid (((Below.refl w.heap.size w).alloc (Nat.le_refl _) (.cells #[.string word] 9)).alloc (by simp) o)
        have HC : Hid (0 ≤ n0 ∧ n0 ≤ 1048576000) := by show _ ∧ _; omega
        generalize hz : (w.alloc (.cells #[.string word] 9)).alloc o = wz at *
        have HZ := Lib.hid HB.out
        clear hz HB hr hbr hh HJ hlt hk
        go_loopw [11, 36] (fun v i wr => ∃ (k : Nat) (n : Int), k ≤ l.length ∧ i = .int .i64 k ∧ v = .int .i64 n ∧ (0 ≤ n ∧ n ≤ 1048576000) ∧ Hid (q = placeFrom n (l.drop k) k) ∧ wz = wr) (fun _ i _ => l.length - (intOf i).toNat)
        case atStart => exact ⟨0, n0, Nat.zero_le _, rfl, rfl, HC.out, HP.out, rfl⟩
        case round =>
          obtain ⟨k, n, hk, rfl, rfl, hn, hp, rfl⟩ := hrel
          by_cases hlt : k < l.length
          · obtain ⟨a, rfl, a0⟩ := (HL.out.later HZ.out).int k hlt
            have HE := Lib.hid (placeFrom_step (n := n) hlt)
            have hw := held_range l[k]
            generalize l[k] = x at *
            rw [HE.out] at hp
            by_cases h0 : n - held x < 0
            · rw [if_pos h0] at hp
              go_wp2_with (go_at_call 47; refine (held_calls _ _).mono ?_; rintro e w' ⟨rfl, rfl⟩)
              go_returns
              exact ⟨ret_num hp.out.symm, HZ.out⟩
            · rw [if_neg h0] at hp
              go_wp2_with (go_at_call 47; refine (held_calls _ _).mono ?_; rintro e w' ⟨rfl, rfl⟩)
              go_roundw
              case rel => exact ⟨k + 1, n - held x, by omega, by go_num, by go_num, by omega, by exact_mod_cast hp, trivial⟩
              case measure => simp [intOf]; omega
          · rw [placeFrom_end (by omega)] at hp
            go_wp2
            go_returns
            exact ⟨ret_num hp.out.symm, HZ.out⟩

set_option maxHeartbeats 800000 in
theorem refPick_calls (seed : Int) (word : ByteArray) (A : Option Addr) (c : Nat) (l : List Int) (w : World) (hs : isStr word) (hl : Rd kI w A c l) (hlen : l.length ≤ 1000) :
    Calls Try.prog 33 #[.int .u64 seed, .string word, .slice A l.length c] w (RetB w (.int .i64 (pick seed word l))) := by
  have HL := Lib.hid hl
  have HS := Lib.hid hs
  have hh := hash_range seed [word]
  clear hl hs
  go_enter Try.func33, Try.ntmps33
  go_wp2
  go_loopw [7, 8] (fun s i wr => ∃ k : Nat, k ≤ l.length ∧ i = .int .i64 k ∧ s = .int .i64 (heldAll (l.take k)) ∧ w = wr) (fun _ i _ => l.length - (intOf i).toNat)
  case atStart => exact ⟨0, Nat.zero_le _, rfl, rfl, rfl⟩
  case round =>
    obtain ⟨k, hk, rfl, rfl, rfl⟩ := hrel
    have hr := heldAll_range l k
    by_cases hlt : k < l.length
    · obtain ⟨a, rfl, a0⟩ := HL.out.int k hlt
      have HE := Lib.hid (heldAll_succ hlt)
      have hw := held_range l[k]
      generalize l[k] = x at *
      generalize heldAll (l.take k) = s at *
      go_wp2_with (go_at_call 48; refine (weight_calls _ _).mono ?_; rintro e w' ⟨rfl, rfl⟩)
      go_roundw
      case rel => exact ⟨k + 1, by omega, by go_num, by rw [HE.out], trivial⟩
      case measure => simp [intOf]; omega
    · rw [take_all (by omega)] at hr
      have HJ := Lib.hid (take_all (l := l) (k := k) (by omega))
      rw [HJ.out]
      have hp : Hid (pick seed word l = if heldAll l = 0 then -1 else placeFrom (below (hash seed [word]) (heldAll l)) (l.drop 0) 0) := by show _ = _; rw [List.drop_zero]; rfl
      generalize pick seed word l = q at *
      generalize heldAll l = s at *
      by_cases h0 : s = 0
      · have hb : (s == 0) = true := by simp [h0]
        rw [if_pos h0] at hp
        have HP := hp
        clear h0 hp
        go_wp2
        go_returns
        exact ⟨ret_num HP.out.symm, Below.refl _ _⟩
      · have hb : (s == 0) = false := by simp [h0]
        rw [if_neg h0] at hp
        have HP := hp
        have hbr := below_range (n := s) hh.1 hh.2 (by omega)
        have hs1 := hbr.2.1 (by omega)
        clear h0 hp
        go_wp2_with (first
          | (go_at_call 23; refine (refHash_calls seed _ _ [word] _ (rd_one word HS.out)).mono ?_; rintro e w' ⟨rfl, rfl⟩)
          | (go_at_call 24; refine (refBelow_calls _ _ _ hh.1 hh.2 (by unfold isI64; omega)).mono ?_; rintro e w' ⟨rfl, rfl⟩))
        generalize below (hash seed [word]) s = n0 at *
        have HB := Lib.hid ((Below.refl w.heap.size w).alloc (Nat.le_refl _) (.cells #[.string word] 9))
        have HC : Hid (0 ≤ n0 ∧ n0 ≤ 1048576000) := by show _ ∧ _; omega
        generalize hz : w.alloc (.cells #[.string word] 9) = wz at *
        have HZ := Lib.hid HB.out
        clear hz HB hr hbr hh HJ hlt hk
        go_loopw [9, 10] (fun v i wr => ∃ (k : Nat) (n : Int), k ≤ l.length ∧ i = .int .i64 k ∧ v = .int .i64 n ∧ (0 ≤ n ∧ n ≤ 1048576000) ∧ Hid (q = placeFrom n (l.drop k) k) ∧ wz = wr) (fun _ i _ => l.length - (intOf i).toNat)
        case atStart => exact ⟨0, n0, Nat.zero_le _, rfl, rfl, HC.out, HP.out, rfl⟩
        case round =>
          obtain ⟨k, n, hk, rfl, rfl, hn, hp, rfl⟩ := hrel
          by_cases hlt : k < l.length
          · obtain ⟨a, rfl, a0⟩ := (HL.out.later HZ.out).int k hlt
            have HE := Lib.hid (placeFrom_step (n := n) hlt)
            have hw := held_range l[k]
            generalize l[k] = x at *
            rw [HE.out] at hp
            by_cases h0 : n - held x < 0
            · rw [if_pos h0] at hp
              go_wp2_with (go_at_call 48; refine (weight_calls _ _).mono ?_; rintro e w' ⟨rfl, rfl⟩)
              go_returns
              exact ⟨ret_num hp.out.symm, HZ.out⟩
            · rw [if_neg h0] at hp
              go_wp2_with (go_at_call 48; refine (weight_calls _ _).mono ?_; rintro e w' ⟨rfl, rfl⟩)
              go_roundw
              case rel => exact ⟨k + 1, n - held x, by omega, by go_num, by go_num, by omega, by exact_mod_cast hp, trivial⟩
              case measure => simp [intOf]; omega
          · rw [placeFrom_end (by omega)] at hp
            go_wp2
            go_returns
            exact ⟨ret_num hp.out.symm, HZ.out⟩
end Go.Proofs.Ytemnakfjmikcdaa
