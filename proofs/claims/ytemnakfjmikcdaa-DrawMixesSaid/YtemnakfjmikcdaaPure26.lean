/- Layer 26 (draw): the laws' own functions, as they were printed, answer true. -/
import Derived.Test.YtemnakfjmikcdaaPlain26
import Derived.Test.YtemnakfjmikcdaaPD26x1
import Derived.Test.YtemnakfjmikcdaaPD26x2
import Derived.Test.YtemnakfjmikcdaaPD26x4
set_option linter.unusedVariables false
set_option linter.unusedSimpArgs false
namespace Go.Proofs.Ytemnakfjmikcdaa.Pure
open Go.RowKit Go.Proofs.Ytemnakfjmikcdaa Go.Proofs.Ytemnakfjmikcdaa.Ext Go.Proofs.Ytemnakfjmikcdaa.PD26 Go.Proofs.YtemnakfjmikcdaaW.PrintWords Go.Proofs.YtemnakfjmikcdaaW.PrintLast

theorem ext_some {α : Type} {b : Bool} {x : α} (h : b = true) : (if b = true then some x else none) = some x := if_pos h
theorem wrap_in {i : Int} (h0 : -9223372036854775808 ≤ i) (h1 : i ≤ 9223372036854775807) : wrap64 i = i := by unfold wrap64; omega
theorem rd_get (l : List ByteArray) (i : Int) (h0 : 0 ≤ i) (h1 : i < (l.length : Int)) : rdOf ByteArray.empty l i = l[i.toNat]'(by omega) := by
  unfold rdOf
  simp [List.getD_eq_getElem?_getD, show i.toNat < l.length by omega]

/-! ### big -/
def bigB (l : List ByteArray) (n : Int) : Bool := decide ((l.length : Int) > n) || l.any (fun s => decide ((s.size : Int) > 100))
theorem big_l0 (l : List ByteArray) (hl : l.length ≤ 9223372036854775806) : ∀ (d k : Nat) (i : Int), 0 ≤ i → i ≤ l.length → (l.length : Int) - i = d → d < k → ciceronelaw26_big.l0 k l i = some ((l.drop i.toNat).any (fun s => decide ((s.size : Int) > 100)))
  | d, k, i, h0, h1, hd, hk => by
    obtain ⟨k, rfl⟩ : ∃ m, k = m + 1 := ⟨k - 1, by omega⟩
    simp only [ciceronelaw26_big.l0]
    by_cases h : i < (l.length : Int)
    · rw [if_pos h, if_pos h0, rd_get l i h0 h]
      have e := List.drop_eq_getElem_cons (l := l) (i := i.toNat) (by omega)
      rw [e, List.any_cons]
      by_cases hb : ((l[i.toNat]'(by omega)).size : Int) > 100
      · rw [if_pos hb, decide_eq_true hb]; rfl
      · rw [if_neg hb, decide_eq_false hb, Bool.false_or, wrap_in (by omega) (by omega)]
        have := big_l0 l hl (d - 1) k (i + 1) (by omega) (by omega) (by omega) (by omega)
        rw [this, show (i + 1).toNat = i.toNat + 1 by omega]
    · rw [if_neg h, List.drop_of_length_le (by omega)]; rfl
theorem big_f (l : List ByteArray) (n : Int) (hl : l.length ≤ 9223372036854775806) (k : Nat) (hk : l.length < k) : ciceronelaw26_big.f k l n = some (bigB l n) := by
  unfold ciceronelaw26_big.f bigB
  by_cases h : (l.length : Int) > n
  · rw [if_pos h, decide_eq_true h]; rfl
  · rw [if_neg h, decide_eq_false h, Bool.false_or, big_l0 l hl l.length k 0 (by omega) (by omega) (by omega) hk]; rfl
theorem not_big {l : List ByteArray} {n : Int} (h : bigB l n = false) : (l.length : Int) ≤ n ∧ ∀ s ∈ l, s.size ≤ 100 := by
  unfold bigB at h
  rw [Bool.or_eq_false_iff] at h
  refine ⟨by have := of_decide_eq_false h.1; omega, fun s hs => ?_⟩
  have := List.any_eq_false.1 h.2 s hs
  simp at this
  omega
theorem okS_of {l : List ByteArray} (h1 : l.length ≤ 1000000) (h2 : ∀ s ∈ l, s.size ≤ 100) : okS l = true := by
  unfold okS
  rw [Bool.and_eq_true, List.all_eq_true, decide_eq_true_eq]
  exact ⟨fun s hs => decide_eq_true (by have := h2 s hs; omega), by omega⟩
theorem ok64_mk {n : Int} (h : isI64 n) : ok64 n = true := by unfold ok64; exact decide_eq_true h

/-! ### lives -/
theorem lives_true : ciceronelaw26_lives.f = some true := by
  unfold ciceronelaw26_lives.f
  have h1 : draw_Below.f 9223372036854775808 10 = some 5 := by decide
  have h2 : draw_Mix.f 7 [(⟨#[97]⟩ : ByteArray), ⟨#[98]⟩, ⟨#[99]⟩] [⟨#[120]⟩] 2 = some [⟨#[97]⟩, ⟨#[120]⟩, ⟨#[98]⟩] := by
    have e1 : once [(⟨#[97]⟩ : ByteArray), ⟨#[98]⟩, ⟨#[99]⟩] = [⟨#[97]⟩, ⟨#[98]⟩, ⟨#[99]⟩] := by decide
    have e2 : fresh 7 [(⟨#[97]⟩ : ByteArray), ⟨#[98]⟩, ⟨#[99]⟩] [⟨#[120]⟩] = [⟨#[120]⟩] := by
      unfold fresh sample
      rw [e1, show once [(⟨#[120]⟩ : ByteArray)] = [⟨#[120]⟩] by decide]
      unfold srt
      rw [List.mergeSort_singleton]
      decide
    unfold draw_Mix.f
    rw [if_pos (by decide)]
    unfold mix
    rw [e1, e2]
    decide
  rw [h1]
  simp only [Option.bind_some]
  rw [if_pos trivial, h2]
  simp only [Option.bind_some]
  decide

/-! ### DrawHash -/
theorem hash_below (seed : Int) (l : List ByteArray) (hok : okS l = true) {n : Int} (hn : isI64 n) : draw_Hash.f seed l = some (hash seed l) ∧ draw_Below.f (hash seed l) n = some (below (hash seed l) n) ∧ ciceroneref26_Hash.f seed l = some (hash seed l) ∧ ciceroneref26_Below.f (hash seed l) n = some (below (hash seed l) n) := by
  have hr := hash_range seed l
  have hb : (decide (0 ≤ hash seed l) && (decide (hash seed l < 18446744073709551616) && ok64 n)) = true := by
    rw [decide_eq_true hr.1, decide_eq_true hr.2, ok64_mk hn]; rfl
  exact ⟨ext_some hok, ext_some hb, ext_some hok, ext_some hb⟩
theorem DrawHash (seed : Int) (l : List ByteArray) (n : Int) (hl : l.length ≤ 140737488351232) (hn : isI64 n) : ∃ k, ciceronelaw26_DrawHash.f k seed l n = some true := by
  refine ⟨l.length + 1, ?_⟩
  unfold ciceronelaw26_DrawHash.f
  rw [lives_true, Option.bind_some, if_pos rfl, big_f l 20 (by omega) _ (by omega), Option.bind_some]
  cases hb : bigB l 20 with
  | true => rw [if_pos rfl]
  | false =>
    rw [if_neg (by decide)]
    obtain ⟨h1, h2⟩ := not_big hb
    obtain ⟨e1, e2, e3, e4⟩ := hash_below seed l (okS_of (by omega) h2) hn
    have hr := hash_range seed l
    have hbr := below_range hr.1 hr.2 (n := n) hn.2
    rw [e1, Option.bind_some, e2, Option.bind_some, e3, Option.bind_some, if_pos rfl, e4, Option.bind_some, if_pos rfl, if_pos hbr.1]
    by_cases hn1 : n < 1
    · rw [if_pos hn1, if_pos (by unfold below; rw [if_pos hn1])]
    · rw [if_neg hn1, decide_eq_true (hbr.2.1 (by omega))]

/-! ### DrawBelow -/
theorem below_some {h n : Int} (h0 : 0 ≤ h) (h1 : h < 18446744073709551616) (hn : isI64 n) : draw_Below.f h n = some (below h n) ∧ ciceroneref26_Below.f h n = some (below h n) := by
  have hb : (decide (0 ≤ h) && (decide (h < 18446744073709551616) && ok64 n)) = true := by
    rw [decide_eq_true h0, decide_eq_true h1, ok64_mk hn]; rfl
  exact ⟨ext_some hb, ext_some hb⟩
theorem DrawBelow_j0 (h n : Int) (h0 : 0 ≤ h) (h1 : h < 18446744073709551616) (hn : isI64 n) (k : Nat) : ciceronelaw26_DrawBelow.j0 (k + 1) h n (below h n) false = some true := by
  simp only [ciceronelaw26_DrawBelow.j0]
  rw [if_neg (by decide)]
  by_cases hn1 : n < 1
  · rw [if_pos hn1]
  · rw [if_neg hn1]
    by_cases hn2 : n > 1152921504606846976
    · rw [if_pos hn2]
    · have hbr := below_range h0 h1 hn.2
      have hb2 := hbr.2.1 (by omega)
      rw [if_neg hn2, wrap_in (i := 2 * n) (by omega) (by omega), (below_some h0 h1 (n := 2 * n) ⟨by omega, by omega⟩).1, Option.bind_some, wrap_in (i := 2 * below h n) (by omega) (by omega), wrap_in (by omega) (by omega)]
      rcases below_twice h0 (show 1 ≤ n by omega) with e | e
      · rw [if_pos e]
      · rw [if_neg (by omega), e]; simp
theorem DrawBelow (a b n : Int) (ha : 0 ≤ a ∧ a < 18446744073709551616) (hb : 0 ≤ b ∧ b < 18446744073709551616) (hn : isI64 n) : ∃ k, ciceronelaw26_DrawBelow.f k a b n = some true := by
  refine ⟨1, ?_⟩
  unfold ciceronelaw26_DrawBelow.f
  obtain ⟨e1, e2⟩ := below_some ha.1 ha.2 hn
  obtain ⟨e3, _⟩ := below_some hb.1 hb.2 hn
  have hj := DrawBelow_j0 a n ha.1 ha.2 hn 0
  rw [lives_true, Option.bind_some, if_pos rfl, e1, Option.bind_some, e3, Option.bind_some, e2, Option.bind_some, if_pos rfl]
  by_cases h : a ≤ b
  · have := below_mono (n := n) ha.1 h
    rw [if_pos h, if_neg (by omega)]
    by_cases h2 : b ≤ a
    · have := below_mono (n := n) hb.1 h2
      rw [if_pos h2, decide_eq_false (by omega)]; exact hj
    · rw [if_neg h2]; exact hj
  · have := below_mono (n := n) hb.1 (show b ≤ a by omega)
    rw [if_neg h, if_pos (by omega), decide_eq_false (by omega)]; exact hj

/-! ### DrawPicks -/
theorem DrawPicks (seed : Int) (word : ByteArray) (l : List Int) (hw : word.size ≤ 140737488351232) (hl : l.length ≤ 140737488351232) (hi : ∀ x ∈ l, isI64 x) : ∃ k, ciceronelaw26_DrawPicks.f k seed word l = some true := by
  refine ⟨1, ?_⟩
  unfold ciceronelaw26_DrawPicks.f
  rw [lives_true, Option.bind_some, if_pos rfl]
  by_cases h1 : (word.size : Int) > 100
  · rw [if_pos h1]; simp only [ciceronelaw26_DrawPicks.j0]; rw [if_pos trivial]
  · rw [if_neg h1]
    by_cases h2 : (l.length : Int) > 50
    · rw [decide_eq_true h2]; simp only [ciceronelaw26_DrawPicks.j0]; rw [if_pos trivial]
    · rw [decide_eq_false h2]
      simp only [ciceronelaw26_DrawPicks.j0]
      rw [if_neg (by decide)]
      have hoi : ∀ m : List Int, (∀ x ∈ m, isI64 x) → m.length ≤ 1000 → (decide (word.size ≤ 140737488351232) && (okI m && decide (m.length ≤ 1000))) = true := by
        intro m hm hml
        rw [decide_eq_true hw, decide_eq_true hml]
        unfold okI
        rw [decide_eq_true (by omega : m.length * 8 ≤ 140737488351232)]
        simp only [Bool.and_true, Bool.true_and]
        exact List.all_eq_true.2 fun x hx => decide_eq_true (hm x hx)
      have e1 : draw_Pick.f seed word l = some (pick seed word l) := ext_some (hoi l hi (by omega))
      have e2 : ciceroneref26_Pick.f seed word l = some (pick seed word l) := ext_some (hoi l hi (by omega))
      have e3 : draw_Pick.f seed word (l ++ [0, -5]) = some (pick seed word (l ++ [0, -5])) := ext_some (hoi _ (fun x hx => by
        rcases List.mem_append.1 hx with hx | hx
        · exact hi x hx
        · simp at hx
          unfold isI64
          omega) (by simp; omega))
      obtain ⟨e4, e5⟩ := pick_behind seed word l (by omega)
      rw [e1, Option.bind_some, e2, Option.bind_some, if_pos rfl]
      simp only [Option.bind_some, List.nil_append, List.length_nil, List.length_cons]
      rw [if_pos (by omega), if_pos (by omega), e3]
      simp only [Option.bind_some]
      rw [e4, if_pos rfl]
      rcases e5 with e5 | ⟨i, h3, h4, h5⟩
      · rw [if_pos e5]
      · rw [h4, if_neg (by omega), if_pos (by omega), if_pos (by omega), if_pos (by omega)]
        unfold rd
        rw [Int.toNat_natCast, decide_eq_true h5]

/-! ### DrawSamples -/
theorem texts_some {l m : List ByteArray} (hl : okS l = true) (hm : okS m = true) : ciceroneref02_Texts.f l m = some (decide (l = m)) := ext_some (by rw [hl, hm]; rfl)
theorem samples_l0 (seed n : Int) (l s : List ByteArray) (hn : isI64 n) (hn2 : n ≤ 1000) (hl : l.length ≤ 30) (hz : ∀ x ∈ l, x.size ≤ 100) (hs : s = sample seed n l) : ∀ (i k : Nat), i ≤ l.length → ciceronelaw26_DrawSamples.l0 (i + 1 + k) seed n l s (l ++ (l.drop i).reverse) ((i : Int) - 1) = some true
  | 0, k, _ => by
    unfold isI64 at hn
    have hok : okS l = true := okS_of (by omega) hz
    have hss : ∀ m, okS (sample seed m l) = true := fun m => okS_of (by rw [sample_len]; have := once_le l; omega) (fun x hx => hz x (mem_sample hx))
    have e1 : draw_Sample.f seed (n + 1) l = some (sample seed (n + 1) l) := ext_some (by rw [hok, ok64_mk ⟨by omega, by omega⟩]; rfl)
    have e2 : ciceroneref26_Sample.f seed n l = some (sample seed n l) := ext_some (by rw [hok, ok64_mk hn]; rfl)
    have hturn : ∀ x, x ∈ l ++ l.reverse ↔ x ∈ l := fun x => by simp
    have e3 : draw_Sample.f seed n (l ++ l.reverse) = some (sample seed n l) := by
      rw [← sample_same hturn]
      exact ext_some (by rw [ok64_mk hn, okS_of (by rw [List.length_append, List.length_reverse]; omega) (fun x hx => hz x ((hturn x).1 hx))]; rfl)
    have hle : (sample seed n l).length ≤ (sample seed (n + 1) l).length := by rw [sample_len, sample_len]; omega
    subst hs
    rw [show 0 + 1 + k = k + 1 by omega]
    simp only [ciceronelaw26_DrawSamples.l0, List.drop_zero]
    rw [if_neg (by omega), wrap_in (by omega) (by omega), e1, Option.bind_some, e2, Option.bind_some, texts_some (hss n) (hss n), decide_eq_true rfl, Option.bind_some, if_pos rfl, e3, Option.bind_some, texts_some (hss n) (hss n), decide_eq_true rfl, Option.bind_some, if_pos rfl]
    rw [if_pos (by omega), if_pos (by omega), if_pos (by omega), Int.toNat_natCast, sample_more seed n l (n + 1) (by omega), texts_some (hss n) (hss n), decide_eq_true rfl]
    rfl
  | i + 1, k, hi => by
    have ih := samples_l0 seed n l s hn hn2 hl hz hs i k (by omega)
    rw [show i + 1 + 1 + k = (i + 1 + k) + 1 by omega]
    simp only [ciceronelaw26_DrawSamples.l0]
    have e : ((i + 1 : Nat) : Int) - 1 = (i : Int) := by omega
    rw [e, if_pos (by omega), if_pos (by omega), if_pos (by omega), if_pos (by rw [List.length_append, List.length_reverse, List.length_drop]; omega), rd_get l i (by omega) (by omega), wrap_in (by omega) (by omega)]
    have e2 : l ++ (l.drop (i + 1)).reverse ++ [l[(i : Int).toNat]'(by omega)] = l ++ (l.drop i).reverse := by
      rw [List.drop_eq_getElem_cons (l := l) (i := i) (by omega), List.reverse_cons, List.append_assoc]; rfl
    rw [e2]
    exact ih
theorem DrawSamples (seed n : Int) (l : List ByteArray) (hn : isI64 n) (hl : l.length ≤ 140737488351232) : ∃ k, ciceronelaw26_DrawSamples.f k seed n l = some true := by
  refine ⟨l.length + 3, ?_⟩
  unfold ciceronelaw26_DrawSamples.f
  rw [lives_true, Option.bind_some, if_pos rfl, big_f l 30 (by omega) _ (by omega), Option.bind_some]
  cases hb : bigB l 30 with
  | true => rw [if_pos rfl]; simp only [ciceronelaw26_DrawSamples.j0]; rw [if_pos trivial]
  | false =>
    obtain ⟨h1, h2⟩ := not_big hb
    rw [if_neg (by decide)]
    by_cases h3 : n > 1000
    · rw [decide_eq_true h3]; simp only [ciceronelaw26_DrawSamples.j0]; rw [if_pos trivial]
    · rw [decide_eq_false h3]
      simp only [ciceronelaw26_DrawSamples.j0]
      have hok : okS l = true := okS_of (by omega) h2
      have e1 : draw_Sample.f seed n l = some (sample seed n l) := ext_some (by rw [hok, ok64_mk hn]; rfl)
      rw [if_neg (by decide), e1]
      simp only [Option.bind_some, List.nil_append, List.length_nil]
      rw [if_pos (by omega), wrap_in (by omega) (by omega)]
      have := samples_l0 seed n l (sample seed n l) hn (by omega) (by omega) h2 rfl l.length 1 (Nat.le_refl _)
      rw [List.drop_length, List.reverse_nil, List.append_nil] at this
      exact this

/-! ### what is mixed, step by step -/
theorem mixL_out (every : Int) : ∀ (n p : Nat) (L D out : List ByteArray), mixL every n p L D out = out ++ mixL every n p L D []
  | 0, p, L, D, out => by simp [mixL]
  | n + 1, p, L, D, out => by
    unfold mixL
    split
    · rw [mixL_out every n (p + 1) L D.tail (out ++ D.take 1), mixL_out every n (p + 1) L D.tail ([] ++ D.take 1), List.append_assoc]; rfl
    · rw [mixL_out every n (p + 1) L.tail D (out ++ L.take 1), mixL_out every n (p + 1) L.tail D ([] ++ L.take 1), List.append_assoc]; rfl
theorem tmod_zero {p : Nat} {every : Int} : (Int.tmod (p : Int) every = 0) ↔ ((p : Int) % every = 0) := by
  rw [Int.tmod_eq_emod_of_nonneg (by omega)]

/-! ### DrawKeeps -/
theorem keeps_l0 (every : Int) (m plain all : List ByteArray) (hok : okS plain = true) (hall : all.length ≤ 1000) : ∀ (d k i : Nat) (acc : List ByteArray), all.length - i = d → i ≤ all.length → acc.length ≤ i → ciceronelaw26_DrawKeeps.l0 (d + 1 + k) every m plain acc all i = ciceronelaw26_DrawKeeps.l1 k every m plain (acc ++ (all.drop i).filter fun s => !has plain s) 0 0 0
  | 0, k, i, acc, hd, hi, _ => by
    rw [show 0 + 1 + k = k + 1 by omega]
    simp only [ciceronelaw26_DrawKeeps.l0]
    rw [if_neg (by omega), List.drop_of_length_le (by omega)]; simp
  | d + 1, k, i, acc, hd, hi, ha => by
    rw [show d + 1 + 1 + k = (d + 1 + k) + 1 by omega]
    simp only [ciceronelaw26_DrawKeeps.l0]
    have hlt : i < all.length := by omega
    rw [if_pos (by omega), if_pos (by omega), rd_get all i (by omega) (by omega)]
    have e1 : ciceroneref08_In.f plain (all[(i : Int).toNat]'(by omega)) = some (has plain all[i]) := ext_some hok
    have e2 := List.drop_eq_getElem_cons (l := all) (i := i) hlt
    rw [e1, Option.bind_some, e2, wrap_in (by omega) (by omega)]
    cases hh : has plain all[i] with
    | true =>
      rw [if_pos rfl, List.filter_cons_of_neg (by simp [hh])]
      exact keeps_l0 every m plain all hok hall d k (i + 1) acc (by omega) (by omega) (by omega)
    | false =>
      rw [if_neg (by decide), if_pos (by omega), List.filter_cons_of_pos (by simp [hh])]
      have := keeps_l0 every m plain all hok hall d k (i + 1) (acc ++ [all[i]]) (by omega) (by omega) (by rw [List.length_append, List.length_singleton]; omega)
      rw [List.append_assoc] at this
      exact this
theorem keeps_l1 (every : Int) (m plain D : List ByteArray) (hok : okS plain = true) (hp : plain.length ≤ 1000) (hD : D.length ≤ 1000) (hml : m.length = plain.length) (hap : ∀ x ∈ D, x ∉ plain) (hev : isI64 every) : ∀ (d k a b i : Nat), plain.length - i = d → a + b = i → i ≤ plain.length → b ≤ D.length →
    m.drop i = mixL every d (i + 1) (plain.drop a) (D.drop b) [] → ciceronelaw26_DrawKeeps.l1 (d + 1 + k) every m plain D a b i = some true
  | 0, k, a, b, i, hd, hab, hi, hb, he => by
    rw [show 0 + 1 + k = k + 1 by omega]
    simp only [ciceronelaw26_DrawKeeps.l1]
    rw [if_neg (by omega), wrap_in (by omega) (by omega)]
    have : ((a : Int) + (b : Int) == (plain.length : Int)) = true := by rw [beq_iff_eq]; omega
    rw [this]
  | d + 1, k, a, b, i, hd, hab, hi, hb, he => by
    rw [show d + 1 + 1 + k = (d + 1 + k) + 1 by omega]
    simp only [ciceronelaw26_DrawKeeps.l1]
    have hlt : i < m.length := by omega
    have ha : a < plain.length := by omega
    have e0 := List.drop_eq_getElem_cons (l := m) (i := i) hlt
    have e1 : ciceroneref08_In.f plain (m[(i : Int).toNat]'(by omega)) = some (has plain m[i]) := ext_some hok
    rw [if_pos (by omega), if_pos (by omega), rd_get m i (by omega) (by omega), e1, Option.bind_some]
    rw [e0] at he
    unfold mixL at he
    have ep := List.drop_eq_getElem_cons (l := plain) (i := a) ha
    by_cases hc : (decide (1 ≤ every) && (decide (((i + 1 : Nat) : Int) % every = 0) && !(D.drop b).isEmpty)) = true
    · rw [if_pos hc] at he
      simp only [Bool.and_eq_true, decide_eq_true_eq, Bool.not_eq_true', List.isEmpty_eq_false_iff] at hc
      have hbl : b < D.length := by
        rcases Nat.lt_or_ge b D.length with h | h
        · exact h
        · exact absurd (List.drop_of_length_le h) hc.2.2
      have ed := List.drop_eq_getElem_cons (l := D) (i := b) hbl
      rw [ed, mixL_out] at he
      have he1 : m[i] = D[b] := by have := List.cons.inj he; exact this.1
      have he2 : m.drop (i + 1) = mixL every d (i + 1 + 1) (plain.drop a) (D.drop (b + 1)) [] := by have := List.cons.inj he; exact this.2
      have hh : has plain m[i] = false := by
        cases h : has plain m[i] with
        | false => rfl
        | true => rw [he1] at h; exact absurd (has_iff.1 h) (hap _ (List.getElem_mem hbl))
      have hmod : Int.tmod ((i : Int) + 1) every = 0 := by
        have := (tmod_zero (p := i + 1) (every := every)).2 hc.2.1
        exact this
      rw [hh, if_neg (by decide), if_neg (by omega), if_pos (by omega), if_pos (by omega), rd_get D b (by omega) (by omega)]
      rw [if_pos (show (m[(i : Int).toNat]'(by omega)).toList = (D[(b : Int).toNat]'(by omega)).toList by show m[i].toList = D[b].toList; rw [he1]), if_neg (by omega), if_neg (by omega), wrap_in (by omega) (by omega), if_pos hmod, wrap_in (by omega) (by omega)]
      exact keeps_l1 every m plain D hok hp hD hml hap hev d k a (b + 1) (i + 1) (by omega) (by omega) (by omega) (by omega) he2
    · rw [if_neg hc] at he
      rw [ep, mixL_out] at he
      have he1 : m[i] = plain[a] := by have := List.cons.inj he; exact this.1
      have he2 : m.drop (i + 1) = mixL every d (i + 1 + 1) (plain.drop (a + 1)) (D.drop b) [] := by have := List.cons.inj he; exact this.2
      have hh : has plain m[i] = true := by rw [he1]; exact has_iff.2 (List.getElem_mem ha)
      rw [hh, if_pos rfl, if_neg (by omega), if_pos (by omega), if_pos (by omega), rd_get plain a (by omega) (by omega)]
      rw [if_pos (show (m[(i : Int).toNat]'(by omega)).toList = (plain[(a : Int).toNat]'(by omega)).toList by show m[i].toList = plain[a].toList; rw [he1]), wrap_in (by omega) (by omega), wrap_in (by omega) (by omega)]
      exact keeps_l1 every m plain D hok hp hD hml hap hev d k (a + 1) b (i + 1) (by omega) (by omega) (by omega) hb he2
theorem mix_some {seed : Int} {main other : List ByteArray} {every : Int} (h1 : okS main = true) (h2 : okS other = true) (he : isI64 every) : draw_Mix.f seed main other every = some (mix seed main other every) := ext_some (by rw [h1, h2, ok64_mk he]; rfl)
theorem once_some {l : List ByteArray} (h : okS l = true) : ciceroneref26_Once.f l = some (once l) := ext_some h
theorem DrawKeeps (seed : Int) (main other : List ByteArray) (every : Int) (hm : main.length ≤ 140737488351232) (ho : other.length ≤ 140737488351232) (he : isI64 every) : ∃ k, ciceronelaw26_DrawKeeps.f k seed main other every = some true := by
  refine ⟨main.length + other.length + 103, ?_⟩
  unfold ciceronelaw26_DrawKeeps.f
  rw [lives_true, Option.bind_some, if_pos rfl, big_f main 30 (by omega) _ (by omega), Option.bind_some]
  cases hb : bigB main 30 with
  | true => rw [if_pos rfl]; simp only [ciceronelaw26_DrawKeeps.j0]; rw [if_pos trivial]
  | false =>
    rw [if_neg (by decide), big_f other 30 (by omega) _ (by omega), Option.bind_some]
    cases hb2 : bigB other 30 with
    | true => simp only [ciceronelaw26_DrawKeeps.j0]; rw [if_pos trivial]
    | false =>
      obtain ⟨h1, h2⟩ := not_big hb
      obtain ⟨h3, h4⟩ := not_big hb2
      have hom := once_le main
      have hoo := once_le other
      have hsl : (sample seed 100 other).length ≤ 30 := by rw [sample_len]; omega
      have e1 : draw_Sample.f seed 100 other = some (sample seed 100 other) := ext_some (by rw [okS_of (by omega) h4]; rfl)
      simp only [ciceronelaw26_DrawKeeps.j0]
      rw [if_neg (by decide), mix_some (okS_of (by omega) h2) (okS_of (by omega) h4) he, Option.bind_some, once_some (okS_of (by omega) h2), Option.bind_some, e1, Option.bind_some]
      have hop : okS (once main) = true := okS_of (by omega) (fun x hx => h2 x (mem_once.1 hx))
      have hk : main.length + other.length + 102 = (sample seed 100 other).length + 1 + ((once main).length + 1 + (main.length + other.length + 102 - (sample seed 100 other).length - 1 - (once main).length - 1)) := by omega
      rw [hk]
      have := keeps_l0 every (mix seed main other every) (once main) (sample seed 100 other) hop (by omega) (sample seed 100 other).length ((once main).length + 1 + (main.length + other.length + 102 - (sample seed 100 other).length - 1 - (once main).length - 1)) 0 [] rfl (Nat.zero_le _) (Nat.le_refl _)
      rw [List.drop_zero, List.nil_append] at this
      refine Eq.trans this ?_
      have ef : ((sample seed 100 other).filter fun s => !has (once main) s) = fresh seed main other := by unfold fresh; rw [sample_all (n := 100) (m := other.length) (by omega) (Int.le_refl _)]
      rw [ef]
      have hfl : (fresh seed main other).length ≤ 1000 := by
        rw [← ef]
        have := List.length_filter_le (fun s => !has (once main) s) (sample seed 100 other)
        omega
      exact keeps_l1 every (mix seed main other every) (once main) (fresh seed main other) hop (by omega) hfl (mix_len seed main other every) (fun x hx => fresh_apart hx) he (once main).length _ 0 0 0 rfl rfl (Nat.zero_le _) (Nat.zero_le _) rfl

/-! ### the reference's Mix -/
theorem refMix_l1 (every : Int) (plain D : List ByteArray) (hp : plain.length ≤ 1000) (hD : D.length ≤ 1000) (hev : isI64 every) : ∀ (d k a b i : Nat) (out : List ByteArray), plain.length - i = d → a + b = i → i ≤ plain.length → b ≤ D.length → out.length ≤ i →
    ciceroneref26_Mix.l1 (d + 1 + k) every plain D out a b ((i : Int) + 1) = some (mixL every d (i + 1) (plain.drop a) (D.drop b) out)
  | 0, k, a, b, i, out, hd, hab, hi, hb, ho => by
    rw [show 0 + 1 + k = k + 1 by omega]
    simp only [ciceroneref26_Mix.l1]
    rw [if_neg (by omega)]; rfl
  | d + 1, k, a, b, i, out, hd, hab, hi, hb, ho => by
    rw [show d + 1 + 1 + k = (d + 1 + k) + 1 by omega]
    simp only [ciceroneref26_Mix.l1]
    have ha : a < plain.length := by omega
    have ep := List.drop_eq_getElem_cons (l := plain) (i := a) ha
    have hown : ∀ (h : (decide (1 ≤ every) && (decide (((i + 1 : Nat) : Int) % every = 0) && !(D.drop b).isEmpty)) = false), (if 0 ≤ (a : Int) then (if (a : Int) < (plain.length : Int) then (if out.length < 8796093022208 then ciceroneref26_Mix.l1 (d + 1 + k) every plain D (out ++ [rdOf ByteArray.empty plain a]) (wrap64 ((a : Int) + 1)) b (wrap64 ((i : Int) + 1 + 1)) else none) else none) else none) = some (mixL every (d + 1) (i + 1) (plain.drop a) (D.drop b) out) := by
      intro h
      rw [if_pos (by omega), if_pos (by omega), if_pos (by omega), rd_get plain a (by omega) (by omega), wrap_in (by omega) (by omega), wrap_in (by omega) (by omega)]
      conv => rhs; unfold mixL
      rw [if_neg (by rw [h]; decide), ep]
      exact refMix_l1 every plain D hp hD hev d k (a + 1) b (i + 1) (out ++ [plain[a]]) (by omega) (by omega) (by omega) hb (by rw [List.length_append, List.length_singleton]; omega)
    rw [if_pos (by omega)]
    by_cases h1 : every ≥ 1
    · rw [if_pos h1, if_neg (by omega)]
      by_cases h2 : Int.tmod ((i : Int) + 1) every = 0
      · rw [if_pos h2]
        have h2' : ((i + 1 : Nat) : Int) % every = 0 := (tmod_zero (p := i + 1) (every := every)).1 h2
        by_cases h3 : (b : Int) < (D.length : Int)
        · rw [if_pos h3, if_pos (by omega), if_pos (by omega), rd_get D b (by omega) (by omega), wrap_in (by omega) (by omega), wrap_in (by omega) (by omega)]
          have ed := List.drop_eq_getElem_cons (l := D) (i := b) (by omega)
          conv => rhs; unfold mixL
          rw [if_pos (by rw [ed, decide_eq_true h2', decide_eq_true (show (1 : Int) ≤ every from h1)]; rfl), ed]
          exact refMix_l1 every plain D hp hD hev d k a (b + 1) (i + 1) (out ++ [D[b]]) (by omega) (by omega) (by omega) (by omega) (by rw [List.length_append, List.length_singleton]; omega)
        · rw [if_neg h3]
          exact hown (by rw [List.drop_of_length_le (by omega)]; simp)
      · rw [if_neg h2]
        have h2' : ¬ ((i + 1 : Nat) : Int) % every = 0 := fun h => h2 ((tmod_zero (p := i + 1) (every := every)).2 h)
        exact hown (by rw [decide_eq_false h2']; simp)
    · rw [if_neg h1]
      exact hown (by rw [decide_eq_false (show ¬ (1 : Int) ≤ every from h1)]; rfl)
theorem refMix_l0 (every : Int) (plain all : List ByteArray) (hok : okS plain = true) (hall : all.length ≤ 1000) : ∀ (d k i : Nat) (acc : List ByteArray), all.length - i = d → i ≤ all.length → acc.length ≤ i → ciceroneref26_Mix.l0 (d + 1 + k) every plain acc all i = ciceroneref26_Mix.l1 k every plain (acc ++ (all.drop i).filter fun s => !has plain s) [] 0 0 1
  | 0, k, i, acc, hd, hi, _ => by
    rw [show 0 + 1 + k = k + 1 by omega]
    simp only [ciceroneref26_Mix.l0]
    rw [if_neg (by omega), List.drop_of_length_le (by omega)]; simp
  | d + 1, k, i, acc, hd, hi, ha => by
    rw [show d + 1 + 1 + k = (d + 1 + k) + 1 by omega]
    simp only [ciceroneref26_Mix.l0]
    have hlt : i < all.length := by omega
    rw [if_pos (by omega), if_pos (by omega), rd_get all i (by omega) (by omega)]
    have e1 : ciceroneref26_in.f plain (all[(i : Int).toNat]'(by omega)) = some (has plain all[i]) := ext_some hok
    have e2 := List.drop_eq_getElem_cons (l := all) (i := i) hlt
    rw [e1, Option.bind_some, e2, wrap_in (by omega) (by omega)]
    cases hh : has plain all[i] with
    | true =>
      rw [if_pos rfl, List.filter_cons_of_neg (by simp [hh])]
      exact refMix_l0 every plain all hok hall d k (i + 1) acc (by omega) (by omega) (by omega)
    | false =>
      rw [if_neg (by decide), if_pos (by omega), List.filter_cons_of_pos (by simp [hh])]
      have := refMix_l0 every plain all hok hall d k (i + 1) (acc ++ [all[i]]) (by omega) (by omega) (by rw [List.length_append, List.length_singleton]; omega)
      rw [List.append_assoc] at this
      exact this
theorem refMix_f (seed : Int) (main other : List ByteArray) (every : Int) (hm : main.length ≤ 30) (hm2 : ∀ s ∈ main, s.size ≤ 100) (ho : other.length ≤ 30) (ho2 : ∀ s ∈ other, s.size ≤ 100) (hev : isI64 every) (k : Nat) (hk : 100 ≤ k) : ciceroneref26_Mix.f k seed main other every = some (mix seed main other every) := by
  unfold ciceroneref26_Mix.f
  have hom := once_le main
  have hoo := once_le other
  have hsl : (sample seed other.length other).length ≤ 30 := by rw [sample_len]; omega
  have e1 : ciceroneref26_Sample.f seed other.length other = some (sample seed other.length other) := ext_some (by rw [okS_of (by omega) ho2, ok64_mk ⟨by omega, by omega⟩]; rfl)
  rw [once_some (okS_of (by omega) hm2), Option.bind_some, e1, Option.bind_some]
  have hop : okS (once main) = true := okS_of (by omega) (fun x hx => hm2 x (mem_once.1 hx))
  obtain ⟨j, rfl⟩ : ∃ j, k = (sample seed other.length other).length + 1 + ((once main).length + 1 + j) := ⟨k - (sample seed other.length other).length - 1 - (once main).length - 1, by omega⟩
  have := refMix_l0 every (once main) (sample seed other.length other) hop (by omega) (sample seed other.length other).length ((once main).length + 1 + j) 0 [] rfl (Nat.zero_le _) (Nat.le_refl _)
  rw [List.drop_zero, List.nil_append] at this
  refine Eq.trans this ?_
  have hfl : ((sample seed other.length other).filter fun s => !has (once main) s).length ≤ 1000 := by
    have := List.length_filter_le (fun s => !has (once main) s) (sample seed other.length other)
    omega
  exact refMix_l1 every (once main) _ (by omega) hfl hev (once main).length j 0 0 0 [] rfl rfl (Nat.zero_le _) (Nat.zero_le _) (Nat.le_refl _)
end Go.Proofs.Ytemnakfjmikcdaa.Pure
