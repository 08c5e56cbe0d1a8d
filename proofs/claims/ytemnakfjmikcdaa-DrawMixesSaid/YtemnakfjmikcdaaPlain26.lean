/- Layer 26 (draw), plain laws on lists: what is once, what is sampled, what is mixed. No program in sight. -/
import Derived.Test.YtemnakfjmikcdaaMix
import Derived.Test.YtemnakfjmikcdaaPick
set_option linter.unusedVariables false
set_option linter.unusedSimpArgs false
namespace Go.Proofs.Ytemnakfjmikcdaa
open Go.RowKit

/-! ### once -/
theorem mem_onceStep {acc : List ByteArray} {s x : ByteArray} : x ∈ onceStep acc s ↔ x ∈ acc ∨ x = s := by
  unfold onceStep
  split
  · rename_i h
    rw [has_iff] at h
    constructor
    · exact .inl
    · rintro (h1 | rfl)
      · exact h1
      · exact h
  · simp
theorem nodup_onceStep {acc : List ByteArray} {s : ByteArray} (h : acc.Nodup) : (onceStep acc s).Nodup := by
  unfold onceStep
  split
  · exact h
  · rename_i h2
    have : s ∉ acc := fun h3 => h2 (has_iff.2 h3)
    rw [List.nodup_append]
    exact ⟨h, by simp, fun a ha b hb => by rw [List.mem_singleton] at hb; subst hb; intro e; subst e; exact this ha⟩
theorem onceFrom : ∀ (l acc : List ByteArray), acc.Nodup → (l.foldl onceStep acc).Nodup ∧ (∀ x, x ∈ l.foldl onceStep acc ↔ x ∈ acc ∨ x ∈ l)
  | [], acc, h => ⟨h, fun x => by simp⟩
  | s :: l, acc, h => by
    have := onceFrom l (onceStep acc s) (nodup_onceStep h)
    refine ⟨this.1, fun x => ?_⟩
    rw [List.foldl_cons, this.2, mem_onceStep, List.mem_cons, or_assoc]
theorem once_nodup (l : List ByteArray) : (once l).Nodup := (onceFrom l [] List.nodup_nil).1
theorem mem_once {l : List ByteArray} {x : ByteArray} : x ∈ once l ↔ x ∈ l := by
  have := (onceFrom l [] List.nodup_nil).2 x
  simpa [once] using this
theorem onceFrom_nodup : ∀ (l acc : List ByteArray), (acc ++ l).Nodup → l.foldl onceStep acc = acc ++ l
  | [], acc, _ => by simp
  | s :: l, acc, h => by
    have h1 : s ∉ acc := by
      intro h2
      rw [List.nodup_append] at h
      exact h.2.2 s h2 s (by simp) rfl
    have h3 : onceStep acc s = acc ++ [s] := by
      unfold onceStep
      rw [if_neg]
      intro h4; exact h1 (has_iff.1 h4)
    rw [List.foldl_cons, h3, onceFrom_nodup l (acc ++ [s]) (by rw [List.append_assoc]; exact h), List.append_assoc]; rfl
theorem once_of_nodup {l : List ByteArray} (h : l.Nodup) : once l = l := by
  have := onceFrom_nodup l [] h
  simpa [once] using this

/-! ### sample -/
theorem srt_of_perm {f : ByteArray → Int} {l m : List ByteArray} (h : l.Perm m) : srt f l = srt f m := by
  refine List.Perm.eq_of_pairwise (le := fun a b => ahead f b a = false) ?_ (srt_sorted f l) (srt_sorted f m) ((srt_perm f l).trans (h.trans (srt_perm f m).symm))
  intro a b _ _ h1 h2
  exact ahead_tri h2 h1
theorem once_perm {l m : List ByteArray} (h : ∀ x, x ∈ l ↔ x ∈ m) : (once l).Perm (once m) :=
  (List.perm_ext_iff_of_nodup (once_nodup l) (once_nodup m)).2 fun x => by rw [mem_once, mem_once]; exact h x
theorem sample_same {seed n : Int} {l m : List ByteArray} (h : ∀ x, x ∈ l ↔ x ∈ m) : sample seed n l = sample seed n m := by
  unfold sample
  rw [srt_of_perm (once_perm h)]
theorem sample_len (seed n : Int) (l : List ByteArray) : (sample seed n l).length = min n.toNat (once l).length := by
  unfold sample
  rw [List.length_take, srt_len]
theorem mem_sample {seed n : Int} {l : List ByteArray} {x : ByteArray} (h : x ∈ sample seed n l) : x ∈ l := by
  unfold sample at h
  have := List.mem_of_mem_take h
  rw [(srt_perm _ _).mem_iff] at this
  exact mem_once.1 this
theorem sample_nodup (seed n : Int) (l : List ByteArray) : (sample seed n l).Nodup := by
  unfold sample
  exact ((srt_perm _ _).nodup_iff.2 (once_nodup l)).sublist (List.take_sublist _ _)
theorem sample_more (seed n : Int) (l : List ByteArray) (m : Int) (h : n ≤ m) : (sample seed m l).take (sample seed n l).length = sample seed n l := by
  rw [sample_len]
  unfold sample
  rw [List.take_take]
  have e : (once l).length = (srt (hashOf seed) (once l)).length := (srt_len _ _).symm
  rw [e]
  generalize srt (hashOf seed) (once l) = r
  rw [show min (min n.toNat r.length) m.toNat = min n.toNat r.length by omega]
  rw [← List.take_take, List.take_length]
theorem sample_all {seed n m : Int} {l : List ByteArray} (hn : (l.length : Int) ≤ n) (hm : (l.length : Int) ≤ m) : sample seed n l = sample seed m l := by
  unfold sample
  have e : (srt (hashOf seed) (once l)).length ≤ l.length := by rw [srt_len]; exact once_le l
  rw [List.take_of_length_le (by omega), List.take_of_length_le (by omega)]

/-! ### mix -/
theorem fresh_nodup (seed : Int) (main other : List ByteArray) : (fresh seed main other).Nodup := (sample_nodup _ _ _).sublist List.filter_sublist
theorem fresh_apart {seed : Int} {main other : List ByteArray} {x : ByteArray} (h : x ∈ fresh seed main other) : x ∉ once main := by
  unfold fresh at h
  have := (List.mem_filter.1 h).2
  intro h2
  rw [has_iff.2 h2] at this
  cases this
/-- What a mix holds: a beginning of each of the two, put together. -/
theorem mixL_parts (every : Int) : ∀ (n p : Nat) (L D out : List ByteArray), n ≤ L.length → ∃ i j, i + j = n ∧ i ≤ L.length ∧ j ≤ D.length ∧ ∃ r, mixL every n p L D out = out ++ r ∧ r.Perm (L.take i ++ D.take j)
  | 0, p, L, D, out, _ => ⟨0, 0, rfl, Nat.zero_le _, Nat.zero_le _, [], by simp [mixL], by simp⟩
  | n + 1, p, L, D, out, h => by
    unfold mixL
    split
    · rename_i hc
      simp only [Bool.and_eq_true, Bool.not_eq_true', List.isEmpty_eq_false_iff] at hc
      obtain ⟨z, D', rfl⟩ := List.exists_cons_of_ne_nil hc.2.2
      obtain ⟨i, j, h1, h2, h3, r, h4, h5⟩ := mixL_parts every n (p + 1) L D' (out ++ [z]) (by omega)
      refine ⟨i, j + 1, by omega, h2, by simpa using h3, z :: r, ?_, ?_⟩
      · show mixL every n (p + 1) L D' (out ++ [z]) = _
        rw [h4, List.append_assoc]; rfl
      · rw [List.take_succ_cons]
        exact (h5.cons z).trans List.perm_middle.symm
    · cases L with
      | nil => simp at h
      | cons y L =>
        obtain ⟨i, j, h1, h2, h3, r, h4, h5⟩ := mixL_parts every n (p + 1) L D (out ++ [y]) (by simpa using h)
        refine ⟨i + 1, j, by omega, by simpa using h2, h3, y :: r, ?_, ?_⟩
        · show mixL every n (p + 1) L D (out ++ [y]) = _
          rw [h4, List.append_assoc]; rfl
        · rw [List.take_succ_cons]
          exact h5.cons y
theorem mixL_plain (every : Int) : ∀ (n p : Nat) (L out : List ByteArray), n = L.length → mixL every n p L [] out = out ++ L
  | 0, p, L, out, h => by
    have : L = [] := List.eq_nil_of_length_eq_zero h.symm
    simp [mixL, this]
  | n + 1, p, L, out, h => by
    cases L with
    | nil => simp at h
    | cons y L =>
      rw [mixL_own (by simp), mixL_plain every n (p + 1) L (out ++ [y]) (by simpa using h), List.append_assoc]; rfl
theorem mixL_never {every : Int} (he : every < 1) : ∀ (n p : Nat) (L D out : List ByteArray), n = L.length → mixL every n p L D out = out ++ L
  | 0, p, L, D, out, h => by
    have : L = [] := List.eq_nil_of_length_eq_zero h.symm
    simp [mixL, this]
  | n + 1, p, L, D, out, h => by
    cases L with
    | nil => simp at h
    | cons y L =>
      rw [mixL_own (by simp; intro h2; omega), mixL_never he n (p + 1) L D (out ++ [y]) (by simpa using h), List.append_assoc]; rfl
theorem mix_len (seed : Int) (main other : List ByteArray) (every : Int) : (mix seed main other every).length = (once main).length := by
  obtain ⟨i, j, h1, h2, h3, r, h4, h5⟩ := mixL_parts every (once main).length 1 (once main) (fresh seed main other) [] (Nat.le_refl _)
  unfold mix
  rw [h4, List.nil_append, h5.length_eq, List.length_append, List.length_take, List.length_take]
  omega
theorem mix_nodup (seed : Int) (main other : List ByteArray) (every : Int) : (mix seed main other every).Nodup := by
  obtain ⟨i, j, h1, h2, h3, r, h4, h5⟩ := mixL_parts every (once main).length 1 (once main) (fresh seed main other) [] (Nat.le_refl _)
  unfold mix
  rw [h4, List.nil_append, h5.nodup_iff, List.nodup_append]
  refine ⟨(once_nodup main).sublist (List.take_sublist _ _), (fresh_nodup seed main other).sublist (List.take_sublist _ _), fun a ha b hb e => ?_⟩
  subst e
  exact fresh_apart (List.mem_of_mem_take hb) (List.mem_of_mem_take ha)
theorem mem_mix {seed : Int} {main other : List ByteArray} {every : Int} {x : ByteArray} (h : x ∈ mix seed main other every) : x ∈ main ∨ x ∈ other := by
  obtain ⟨i, j, h1, h2, h3, r, h4, h5⟩ := mixL_parts every (once main).length 1 (once main) (fresh seed main other) [] (Nat.le_refl _)
  unfold mix at h
  rw [h4, List.nil_append, h5.mem_iff, List.mem_append] at h
  rcases h with h | h
  · exact .inl (mem_once.1 (List.mem_of_mem_take h))
  · exact .inr (mem_sample (List.mem_filter.1 (List.mem_of_mem_take h)).1)
theorem fresh_nil (seed : Int) (main : List ByteArray) : fresh seed main [] = [] := by
  cases h : fresh seed main [] with
  | nil => rfl
  | cons x l =>
    have h2 : x ∈ fresh seed main [] := by rw [h]; simp
    have := mem_sample (List.mem_filter.1 h2).1
    simp at this
theorem fresh_self (seed : Int) (main : List ByteArray) : fresh seed main main = [] := by
  cases h : fresh seed main main with
  | nil => rfl
  | cons x l =>
    have h2 : x ∈ fresh seed main main := by rw [h]; simp
    exact absurd (mem_once.2 (mem_sample (List.mem_filter.1 h2).1)) (fresh_apart h2)
theorem mix_nil (seed : Int) (main : List ByteArray) (every : Int) : mix seed main [] every = once main := by
  unfold mix; rw [fresh_nil, mixL_plain _ _ _ _ _ rfl]; rfl
theorem mix_self (seed : Int) (main : List ByteArray) (every : Int) : mix seed main main every = once main := by
  unfold mix; rw [fresh_self, mixL_plain _ _ _ _ _ rfl]; rfl
theorem mix_zero (seed : Int) (main other : List ByteArray) : mix seed main other 0 = once main := by
  unfold mix; rw [mixL_never (by omega) _ _ _ _ _ rfl]; rfl

/-! ### below -/
theorem below_mono {h g n : Int} (h0 : 0 ≤ h) (hg : h ≤ g) : below h n ≤ below g n := by
  unfold below
  split
  · exact Int.le_refl _
  · exact Int.ediv_le_ediv (by decide) (Int.mul_le_mul_of_nonneg_right hg (by omega))
theorem below_twice {h n : Int} (h0 : 0 ≤ h) (h1 : 1 ≤ n) : below h (2 * n) = 2 * below h n ∨ below h (2 * n) = 2 * below h n + 1 := by
  unfold below
  rw [if_neg (by omega), if_neg (by omega)]
  have e : h * (2 * n) = 2 * (h * n) := by rw [Int.mul_left_comm]
  rw [e]
  generalize h * n = m
  omega

/-! ### pick -/
theorem held_pos {n : Int} (h : 0 < held n) : 0 < n := by unfold held at h; split at h <;> (try split at h) <;> omega
theorem heldAll_cons (x : Int) (l : List Int) : heldAll (x :: l) = held x + heldAll l := by
  have : ∀ (l : List Int) (a : Int), l.foldl (fun a n => a + held n) a = a + heldAll l := by
    intro l
    unfold heldAll
    induction l with
    | nil => intro a; simp
    | cons y l ih => intro a; rw [List.foldl_cons, List.foldl_cons, ih, ih (0 + held y)]; omega
  show (x :: l).foldl (fun a n => a + held n) 0 = _
  rw [List.foldl_cons, this]
  omega
theorem heldAll_behind (l : List Int) : heldAll (l ++ [0, -5]) = heldAll l := by
  unfold heldAll
  rw [List.foldl_append]
  show _ + held 0 + held (-5) = _
  rw [show held 0 = 0 from rfl, show held (-5) = 0 from rfl]
  omega
theorem placeFrom_found : ∀ (l : List Int) (n : Int) (k : Nat) (m : List Int), 0 ≤ n → n < heldAll l → placeFrom n (l ++ m) k = placeFrom n l k ∧ ∃ i, i < l.length ∧ placeFrom n l k = ((k + i : Nat) : Int) ∧ 0 < l.getD i 0
  | [], n, k, m, h0, h1 => by simp [heldAll] at h1; omega
  | x :: l, n, k, m, h0, h1 => by
    rw [heldAll_cons] at h1
    rw [List.cons_append]
    unfold placeFrom
    by_cases h : n - held x < 0
    · rw [if_pos h, if_pos h]
      exact ⟨rfl, 0, by simp, rfl, by simpa using held_pos (by omega)⟩
    · rw [if_neg h, if_neg h]
      obtain ⟨h2, i, h3, h4, h5⟩ := placeFrom_found l (n - held x) (k + 1) m (by omega) (by omega)
      exact ⟨h2, i + 1, by simpa using h3, by rw [h4]; congr 1; omega, by simpa using h5⟩
theorem pick_behind (seed : Int) (word : ByteArray) (l : List Int) (hl : l.length ≤ 1000) : pick seed word (l ++ [0, -5]) = pick seed word l ∧ (pick seed word l = -1 ∨ ∃ i, i < l.length ∧ pick seed word l = (i : Int) ∧ 0 < l.getD i 0) := by
  unfold pick
  rw [heldAll_behind]
  by_cases h : heldAll l = 0
  · rw [if_pos h, if_pos h]; exact ⟨rfl, .inl rfl⟩
  · rw [if_neg h, if_neg h]
    have hr := heldAll_range l l.length
    rw [List.take_length] at hr
    have hb := below_range (hash_range seed [word]).1 (hash_range seed [word]).2 (n := heldAll l) (by omega)
    obtain ⟨h1, i, h2, h3, h4⟩ := placeFrom_found l (below (hash seed [word]) (heldAll l)) 0 [0, -5] hb.1 (hb.2.1 (by omega))
    exact ⟨h1, .inr ⟨i, h2, by rw [h3]; simp, h4⟩⟩
end Go.Proofs.Ytemnakfjmikcdaa
