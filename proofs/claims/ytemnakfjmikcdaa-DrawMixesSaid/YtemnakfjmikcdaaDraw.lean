/- Layer 26 (draw): what draw.Hash, draw.Below and the reference's Hash and Below come to, for texts and numbers of any make. -/
import Derived.Test.YtemnakfjmikcdaaKinds
import Derived.Test.YtemnakfjmikcdaaShelf
set_option linter.unusedVariables false
set_option linter.unusedSimpArgs false
namespace Go.Proofs.Ytemnakfjmikcdaa
open Go.RowKit

/-! ### the hash -/
def hstep (h n : Int) : Int := IntKind.u64.wrap (Go.bits .xor .u64 h n * 1099511628211)
def hbytes (h : Int) (l : List UInt8) : Int := l.foldl (fun h b => hstep h b.toNat) h
def hword (h : Int) (s : ByteArray) : Int := hstep (hbytes h s.data.toList) 256
def hwords (h : Int) (l : List ByteArray) : Int := l.foldl hword h
def hmix (h m k : Int) : Int := IntKind.u64.wrap (Go.bits .xor .u64 h (h / k) * m)
def hash (seed : Int) (l : List ByteArray) : Int :=
  Go.bits .xor .u64 (hmix (hmix (hwords (IntKind.u64.wrap (seed + 11400714819323198485)) l) 9202087104158670213 2147483648) 9356908073163150413 134217728) (hmix (hmix (hwords (IntKind.u64.wrap (seed + 11400714819323198485)) l) 9202087104158670213 2147483648) 9356908073163150413 134217728 / 8589934592)

theorem hwords_snoc (h : Int) (l : List ByteArray) (k : Nat) (hk : k < l.length) : hwords h (l.take (k + 1)) = hword (hwords h (l.take k)) l[k] := by
  unfold hwords
  rw [List.take_succ_eq_append_getElem hk, List.foldl_append]; rfl
theorem hbytes_snoc (h : Int) (s : ByteArray) (k : Nat) (hk : k < s.size) : hbytes h (s.data.toList.take (k + 1)) = hstep (hbytes h (s.data.toList.take k)) (s[k].toNat : Int) := by
  unfold hbytes
  rw [List.take_succ_eq_append_getElem (by simpa using hk), List.foldl_append]; rfl
theorem hbytes_all (h : Int) (s : ByteArray) : hbytes h (s.data.toList.take s.size) = hbytes h s.data.toList := by
  rw [List.take_of_length_le (by simp)]
theorem wrap_byte (b : UInt8) : IntKind.u64.wrap (b.toNat : Int) = (b.toNat : Int) := IntWalk.u64_in _ (by have := b.toNat_lt; omega)
theorem alloc_cell {w : World} {x y : Int} (h : x = y) (t : TypeId) (k : IntKind) : w.alloc (.cells #[.int k x] t) = w.alloc (.cells #[.int k y] t) := by rw [h]

set_option maxHeartbeats 400000 in
theorem hash1_calls (b : Nat) (h n : Int) (w : World) (hb : w.heap[b]? = some (.cells #[.int .u64 h] 36 (0, 0))) :
    Calls Try.prog 35 #[.int .u64 n, .pointer (some ⟨b, 0, none⟩)] w fun e w' => e = .returned (.tuple #[]) ∧ w.setCell ⟨b, 0, none⟩ (.int .u64 (hstep h n)) = w' := by
  have hc := cell_of_one hb
  have hf := free_of_one hb
  clear hb
  go_enter Try.func35, Try.ntmps35
  go_wp2
  go_returns
  exact ⟨rfl, rfl⟩

set_option maxHeartbeats 400000 in
theorem hash_calls (seed : Int) (A : Option Addr) (c : Nat) (l : List ByteArray) (w : World) (hr : Rd kS w A c l) :
    Calls Try.prog 21 #[.int .u64 seed, .slice A l.length c] w fun e w' => e = .returned (.int .u64 (hash seed l)) ∧ ∃ o, w' = w.alloc o := by
  have hl := hr.len (by decide)
  have HR := Lib.hid hr
  clear hr
  go_enter Try.func21, Try.ntmps21
  go_wp2
  go_loopw [15] (fun i wr => ∃ k : Nat, k ≤ l.length ∧ i = .int .i64 k ∧ wr = w.alloc (.cells #[.int .u64 (hwords (IntKind.u64.wrap (seed + 11400714819323198485)) (l.take k))] 36)) (fun i _ => l.length - (intOf i).toNat)
  case atStart => exact ⟨0, Nat.zero_le _, rfl, rfl⟩
  case round =>
    obtain ⟨k, hk, rfl, rfl⟩ := hrel
    by_cases hlt : k < l.length
    · obtain ⟨a, rfl, ha⟩ := HR.out.str k hlt
      have hz : l[k].size ≤ 140737488351232 := HR.out.ok l[k] (List.getElem_mem hlt)
      have hsn := Lib.hid (hwords_snoc (IntKind.u64.wrap (seed + 11400714819323198485)) l k hlt)
      generalize hwords (IntKind.u64.wrap (seed + 11400714819323198485)) (l.take k) = h0 at *
      generalize l[k] = s at *
      have ha' := cell_later ((Below.refl w.heap.size w).alloc (Nat.le_refl _) (.cells #[.int .u64 h0] 36)) ha
      go_wp2
      go_loopw [21] (fun i wr => ∃ j : Nat, j ≤ s.size ∧ i = .int .i64 j ∧ wr = w.alloc (.cells #[.int .u64 (hbytes h0 (s.data.toList.take j))] 36)) (fun i _ => s.size - (intOf i).toNat)
      case atStart => exact ⟨0, Nat.zero_le _, rfl, rfl⟩
      case round =>
        obtain ⟨j, hj, rfl, rfl⟩ := hrel
        by_cases hjl : j < s.size
        · have hjn := Lib.hid (hbytes_snoc h0 s j hjl)
          go_wp2_with (go_at_call 35; refine (hash1_calls _ _ _ _ (heap_alloc_new _ _)).mono ?_; rintro e w' ⟨rfl, rfl⟩)
          go_roundw
          case rel => exact ⟨j + 1, by omega, by go_num, alloc_cell (by rw [hjn.out, wrap_byte]) _ _⟩
          case measure => simp [intOf]; omega
        · obtain rfl : j = s.size := by omega
          go_wp2_with (go_at_call 35; refine (hash1_calls _ _ _ _ (heap_alloc_new _ _)).mono ?_; rintro e w' ⟨rfl, rfl⟩)
          go_roundw
          case rel => exact ⟨k + 1, by omega, by go_num, alloc_cell (by rw [hsn.out, hbytes_all]; rfl) _ _⟩
          case measure => simp [intOf]; omega
    · obtain rfl : k = l.length := by omega
      go_wp2
      go_returns
      exact ⟨rfl, _, rfl⟩

theorem hword_snoc (h : Int) (s : ByteArray) (j : Nat) (hj : j = s.size) : hstep (hbytes h (s.data.toList.take j)) 256 = hword h s := by
  subst hj; rw [hbytes_all]; rfl
/-- The reference's. -/
theorem refHash_calls (seed : Int) (A : Option Addr) (c : Nat) (l : List ByteArray) (w : World) (hr : Rd kS w A c l) :
    Calls Try.prog 23 #[.int .u64 seed, .slice A l.length c] w fun e w' => e = .returned (.int .u64 (hash seed l)) ∧ w = w' := by
  have hl := hr.len (by decide)
  have HR := Lib.hid hr
  clear hr
  go_enter Try.func23, Try.ntmps23
  go_wp2
  go_loop [5, 6] (fun h i => ∃ k : Nat, k ≤ l.length ∧ i = .int .i64 k ∧ h = .int .u64 (hwords (IntKind.u64.wrap (seed + 11400714819323198485)) (l.take k))) (fun _ i => l.length - (intOf i).toNat)
  case atStart => exact ⟨0, Nat.zero_le _, rfl, rfl⟩
  case round =>
    obtain ⟨k, hk, rfl, rfl⟩ := hrel
    by_cases hlt : k < l.length
    · obtain ⟨a, rfl, ha⟩ := HR.out.str k hlt
      have hz : l[k].size ≤ 140737488351232 := HR.out.ok l[k] (List.getElem_mem hlt)
      have hsn := Lib.hid (hwords_snoc (IntKind.u64.wrap (seed + 11400714819323198485)) l k hlt)
      generalize hwords (IntKind.u64.wrap (seed + 11400714819323198485)) (l.take k) = h0 at *
      generalize l[k] = s at *
      go_wp2
      go_loop [5, 7] (fun h i => ∃ j : Nat, j ≤ s.size + 1 ∧ i = .int .i64 j ∧ h = .int .u64 (if j ≤ s.size then hbytes h0 (s.data.toList.take j) else hword h0 s)) (fun _ i => s.size + 1 - (intOf i).toNat)
      case atStart => exact ⟨0, Nat.zero_le _, rfl, by simp [hbytes]⟩
      case round =>
        obtain ⟨j, hj, rfl, rfl⟩ := hrel
        by_cases hjl : j < s.size
        · rw [if_pos (show j ≤ s.size by omega)]
          have hjn := Lib.hid (hbytes_snoc h0 s j hjl)
          go_wp2
          go_round
          case rel => exact ⟨j + 1, by omega, by go_num, by rw [if_pos (by omega), hjn.out, wrap_byte]; rfl⟩
          case measure => simp [intOf]; omega
        · by_cases hje : j ≤ s.size
          · rw [if_pos hje]
            have hjn := Lib.hid (hword_snoc h0 s j (by omega))
            have hjs : ¬ (j : Int) < (s.size : Int) := by omega
            go_wp2
            go_round
            case rel => exact ⟨j + 1, by omega, by go_num, by rw [if_neg (by omega), ← hjn.out]; rfl⟩
            case measure => simp [intOf]; omega
          · rw [if_neg hje]
            go_wp2
            go_round
            case rel => exact ⟨k + 1, by omega, by go_num, by rw [hsn.out]⟩
            case measure => simp [intOf]; omega
    · obtain rfl : k = l.length := by omega
      go_wp2
      go_returns
      exact ⟨rfl, rfl⟩

/-! ### what a hash draws of a number -/
def below (h n : Int) : Int := if n < 1 then 0 else h * n / 18446744073709551616
theorem below_nat {h n : Nat} (hh : h < 18446744073709551616) (hn : 1 ≤ n) (hn2 : n ≤ 9223372036854775807) : h * n / 18446744073709551616 < n := by
  rw [Nat.div_lt_iff_lt_mul (by decide), Nat.mul_comm n]
  exact Nat.mul_lt_mul_of_pos_right hh hn
theorem below_range {h n : Int} (h0 : 0 ≤ h) (h1 : h < 18446744073709551616) (hn : n ≤ 9223372036854775807) : 0 ≤ below h n ∧ (1 ≤ n → below h n < n) ∧ below h n ≤ 9223372036854775807 := by
  unfold below
  split
  · omega
  · obtain ⟨h, rfl⟩ := Int.eq_ofNat_of_zero_le h0
    obtain ⟨n, rfl⟩ := Int.eq_ofNat_of_zero_le (show 0 ≤ n by omega)
    have h2 := below_nat (h := h) (n := n) (by omega) (by omega) (by omega)
    have e : ((h : Int) * (n : Int) / 18446744073709551616) = ((h * n / 18446744073709551616 : Nat) : Int) := by simp
    rw [e]
    omega
theorem below_eq {h n : Nat} (hn : ¬ (n : Int) < 1) : below h n = ((h * n / 18446744073709551616 : Nat) : Int) := by
  unfold below
  rw [if_neg hn]
  simp

set_option maxHeartbeats 400000 in
theorem below_calls (h n : Int) (w : World) (h0 : 0 ≤ h) (h1 : h < 18446744073709551616) (hn : isI64 n) :
    Calls Try.prog 22 #[.int .u64 h, .int .i64 n] w fun e w' => e = .returned (.int .i64 (below h n)) ∧ w = w' := by
  unfold isI64 at hn
  by_cases hb : n < 1
  · have e : Hid (below h n = 0) := by unfold below; rw [if_pos hb]; exact rfl
    go_enter Try.func22, Try.ntmps22
    go_wp2
    go_returns
    exact ⟨by rw [e.out]; rfl, rfl⟩
  · obtain ⟨h, rfl⟩ := Int.eq_ofNat_of_zero_le h0
    obtain ⟨n, rfl⟩ := Int.eq_ofNat_of_zero_le (show 0 ≤ n by omega)
    have e := Lib.hid (below_eq (h := h) hb)
    have hr := below_nat (h := h) (n := n) (by omega) (by omega) (by omega)
    have hw : IntKind.u64.wrap (n : Int) = (n : Int) := IntWalk.u64_in _ (by omega)
    have hm := Try.bits_Mul64 h n (by omega) (by omega)
    generalize h * n / 18446744073709551616 = q at *
    generalize h * n % 18446744073709551616 = q2 at *
    have HM := Lib.hid hm
    clear hm
    go_enter Try.func22, Try.ntmps22
    go_wp2_with (go_at_call 36; refine (HM.out _).mono ?_; rintro e w' ⟨rfl, rfl⟩)
    go_returns
    exact ⟨by rw [e.out]; rfl, rfl⟩
theorem u64_mul {x y : Int} (hx : 0 ≤ x) (hx2 : x < 4294967296) (hy : 0 ≤ y) (hy2 : y < 4294967296) : 0 ≤ x * y ∧ x * y ≤ 18446744065119617025 := by
  refine ⟨Int.mul_nonneg hx hy, ?_⟩
  have h1 : x * y ≤ 4294967295 * 4294967295 := Int.mul_le_mul (by omega) (by omega) hy (by decide)
  omega
theorem split_mul (H L a b : Int) : (H * 4294967296 + L) * (a * 4294967296 + b) = (H * a) * 18446744073709551616 + (H * b + L * a) * 4294967296 + L * b := by
  rw [Int.add_mul, Int.mul_add, Int.mul_add]
  have e1 : H * 4294967296 * (a * 4294967296) = H * a * 18446744073709551616 := by
    rw [Int.mul_assoc, Int.mul_left_comm 4294967296 a 4294967296, ← Int.mul_assoc]; rfl
  have e2 : H * 4294967296 * b = H * b * 4294967296 := Int.mul_right_comm _ _ _
  have e3 : L * (a * 4294967296) = L * a * 4294967296 := (Int.mul_assoc _ _ _).symm
  rw [e1, e2, e3, Int.add_mul]
  omega
/-- The reference's way by halves comes to the same. -/
theorem below_halves {h n : Int} (h0 : 0 ≤ h) (h1 : h < 18446744073709551616) (n0 : 1 ≤ n) (n1 : n ≤ 9223372036854775807) :
    wrap64 (IntKind.u64.wrap (IntKind.u64.wrap (IntKind.u64.wrap (IntKind.u64.wrap (h / 4294967296 * (n / 4294967296)) + IntKind.u64.wrap (h / 4294967296 * (n % 4294967296)) / 4294967296) + IntKind.u64.wrap (h % 4294967296 * (n / 4294967296)) / 4294967296) + IntKind.u64.wrap (IntKind.u64.wrap (IntKind.u64.wrap (h % 4294967296 * (n % 4294967296)) / 4294967296 + (IntKind.u64.wrap (h / 4294967296 * (n % 4294967296))).tmod 4294967296) + (IntKind.u64.wrap (h % 4294967296 * (n / 4294967296))).tmod 4294967296) / 4294967296)) = below h n := by
  have eb : below h n = h * n / 18446744073709551616 := by unfold below; rw [if_neg (by omega)]
  have eh : h = h / 4294967296 * 4294967296 + h % 4294967296 := by omega
  have en : n = n / 4294967296 * 4294967296 + n % 4294967296 := by omega
  have hs := split_mul (h / 4294967296) (h % 4294967296) (n / 4294967296) (n % 4294967296)
  rw [← eh, ← en] at hs
  have p1 := u64_mul (x := h / 4294967296) (y := n / 4294967296) (by omega) (by omega) (by omega) (by omega)
  have p1' : h / 4294967296 * (n / 4294967296) ≤ 4294967295 * 2147483647 := Int.mul_le_mul (by omega) (by omega) (by omega) (by decide)
  have p2 := u64_mul (x := h / 4294967296) (y := n % 4294967296) (by omega) (by omega) (by omega) (by omega)
  have p3 := u64_mul (x := h % 4294967296) (y := n / 4294967296) (by omega) (by omega) (by omega) (by omega)
  have p4 := u64_mul (x := h % 4294967296) (y := n % 4294967296) (by omega) (by omega) (by omega) (by omega)
  have hr := (below_range h0 h1 n1).2.2
  rw [eb, hs] at hr
  rw [eb, hs]
  generalize h / 4294967296 * (n / 4294967296) = A at *
  generalize h / 4294967296 * (n % 4294967296) = B at *
  generalize h % 4294967296 * (n / 4294967296) = C at *
  generalize h % 4294967296 * (n % 4294967296) = D at *
  clear hs eh en eb
  rw [IntWalk.u64_in A (by omega), IntWalk.u64_in B (by omega), IntWalk.u64_in C (by omega), IntWalk.u64_in D (by omega)]
  rw [Int.tmod_eq_emod_of_nonneg p2.1, Int.tmod_eq_emod_of_nonneg p3.1]
  rw [IntWalk.u64_in (D / 4294967296 + B % 4294967296) (by omega), IntWalk.u64_in (D / 4294967296 + B % 4294967296 + C % 4294967296) (by omega)]
  rw [IntWalk.u64_in (A + B / 4294967296) (by omega), IntWalk.u64_in (A + B / 4294967296 + C / 4294967296) (by omega), IntWalk.u64_in (A + B / 4294967296 + C / 4294967296 + (D / 4294967296 + B % 4294967296 + C % 4294967296) / 4294967296) (by omega), IntWalk.wrap64_in _ (by omega)]
  omega

set_option maxHeartbeats 400000 in
theorem refBelow_calls (h n : Int) (w : World) (h0 : 0 ≤ h) (h1 : h < 18446744073709551616) (hn : isI64 n) :
    Calls Try.prog 24 #[.int .u64 h, .int .i64 n] w fun e w' => e = .returned (.int .i64 (below h n)) ∧ w = w' := by
  unfold isI64 at hn
  by_cases hb : n < 1
  · have e : Hid (below h n = 0) := by unfold below; rw [if_pos hb]; exact rfl
    go_enter Try.func24, Try.ntmps24
    go_wp2
    go_returns
    exact ⟨by rw [e.out]; rfl, rfl⟩
  · have hw : IntKind.u64.wrap (n : Int) = (n : Int) := IntWalk.u64_in _ (by omega)
    go_enter Try.func24, Try.ntmps24
    go_wp2
    go_returns
    exact ⟨ret_num (below_halves h0 h1 (by omega) hn.2), rfl⟩

theorem hash_range (seed : Int) (l : List ByteArray) : 0 ≤ hash seed l ∧ hash seed l < 18446744073709551616 := by
  unfold hash
  generalize hmix (hmix (hwords (IntKind.u64.wrap (seed + 11400714819323198485)) l) 9202087104158670213 2147483648) 9356908073163150413 134217728 = h
  unfold Go.bits
  simp only [IntKind.wrap_u64]
  omega
end Go.Proofs.Ytemnakfjmikcdaa
