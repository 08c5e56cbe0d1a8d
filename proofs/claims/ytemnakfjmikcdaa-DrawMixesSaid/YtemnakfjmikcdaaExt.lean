/- What was proved by hand of layers 26 and 32, in the printer's words: functions that tell what a call answers, and the contracts over them. -/
import Derived.Test.YtemnakfjmikcdaaMix
import Derived.Test.YtemnakfjmikcdaaPick
import Derived.Test.YtemnakfjmikcdaaWWords
set_option linter.unusedVariables false
set_option linter.unusedSimpArgs false
namespace Go.Proofs.Ytemnakfjmikcdaa
open Go.RowKit Go.Proofs.YtemnakfjmikcdaaW.PrintWords

/-- Texts that are no longer than memory allows. -/
def okS (l : List ByteArray) : Bool := l.all (fun s => decide (s.size ≤ 140737488351232)) && decide (l.length * 16 ≤ 140737488351232)
def okI (l : List Int) : Bool := l.all (fun n => decide (-9223372036854775808 ≤ n ∧ n ≤ 9223372036854775807)) && decide (l.length * 8 ≤ 140737488351232)
def ok64 (n : Int) : Bool := decide (-9223372036854775808 ≤ n ∧ n ≤ 9223372036854775807)
theorem ok64_of {n : Int} (h : ok64 n = true) : isI64 n := by unfold isI64; exact of_decide_eq_true h

theorem rd_of_C {w : World} {A : Option Addr} {c : Nat} {l : List ByteArray} (h : Kd.C Kd.string w A l.length l) (hc : l.length ≤ c) (hok : okS l = true) : Rd kS w A c l := by
  simp only [okS, Bool.and_eq_true, List.all_eq_true, decide_eq_true_eq] at hok
  refine ⟨hc, hok.2, hok.1, fun i hi => ?_⟩
  obtain ⟨ad, e, hcell⟩ := h.2.2 (by omega)
  refine ⟨ad, e, fun j u hj => ?_⟩
  obtain ⟨cs, hl, hk, hu⟩ := hcell i l[i] (List.getElem?_eq_getElem hi)
  have hk' : cs = [Value.string l[i]] := hk
  subst hk'
  have := hu j u hj
  exact this
theorem rd_of_CI {w : World} {A : Option Addr} {c : Nat} {l : List Int} (h : Kd.C (Kd.int .i64) w A l.length l) (hc : l.length ≤ c) (hok : okI l = true) : Rd kI w A c l := by
  simp only [okI, Bool.and_eq_true, List.all_eq_true, decide_eq_true_eq] at hok
  refine ⟨hc, hok.2, hok.1, fun i hi => ?_⟩
  obtain ⟨ad, e, hcell⟩ := h.2.2 (by omega)
  refine ⟨ad, e, fun j u hj => ?_⟩
  obtain ⟨cs, hl, hk, hu⟩ := hcell i l[i] (List.getElem?_eq_getElem hi)
  have hk' : cs = [Value.int .i64 l[i]] := hk
  subst hk'
  have := hu j u hj
  exact this
theorem reps_str (l : List ByteArray) : Reps (fun x cs => cs = [Value.string x]) 1 l (l.flatMap kS.enc) := by
  refine ⟨by rw [flatMap_len]; rfl, fun j p hj => ?_⟩
  have e : ∀ m : List ByteArray, m.flatMap kS.enc = m.map Value.string := by
    intro m
    induction m with
    | nil => rfl
    | cons x m ih => rw [List.flatMap_cons, ih]; rfl
  have h1 : (l.map Value.string)[j]? = some (Value.string p) := by rw [List.getElem?_map, hj]; rfl
  have h2 := (List.getElem?_eq_some_iff.1 h1).1
  rw [e, Nat.mul_one, List.drop_eq_getElem_cons h2, List.take_succ_cons, List.take_zero, (List.getElem?_eq_some_iff.1 h1).2]
theorem R_of_own {w : World} {base : Nat} {v : Value} {l : List ByteArray} (h : Own kS w base v l) : Kd.R Kd.string 9 w base (fun _ => True) v l :=
  ⟨fun _ _ => trivial, l.flatMap kS.enc, h.row, reps_str l⟩
theorem drawn0_of {w w' : World} (h : ∃ n, w' = w.drewN n) : Drawn0 w w' := ⟨h⟩

namespace Ext
def draw_Hash.f (a0 : Int) (l1 : List ByteArray) : Option Int := if okS l1 = true then some (hash a0 l1) else none
def draw_Below.f (a0 a1 : Int) : Option Int := if (decide (0 ≤ a0) && (decide (a0 < 18446744073709551616) && ok64 a1)) = true then some (below a0 a1) else none
def draw_Sample.f (a0 a1 : Int) (l2 : List ByteArray) : Option (List ByteArray) := if (ok64 a1 && okS l2) = true then some (sample a0 a1 l2) else none
def draw_Mix.f (a0 : Int) (l1 l2 : List ByteArray) (a3 : Int) : Option (List ByteArray) := if (okS l1 && (okS l2 && ok64 a3)) = true then some (mix a0 l1 l2 a3) else none
def draw_Pick.f (a0 : Int) (a1 : ByteArray) (l2 : List Int) : Option Int := if (decide (a1.size ≤ 140737488351232) && (okI l2 && decide (l2.length ≤ 1000))) = true then some (pick a0 a1 l2) else none
def ciceroneref26_Sample.f (a0 a1 : Int) (l2 : List ByteArray) : Option (List ByteArray) := if (ok64 a1 && okS l2) = true then some (sample a0 a1 l2) else none
def ciceroneref26_Hash.f (a0 : Int) (l1 : List ByteArray) : Option Int := if okS l1 = true then some (hash a0 l1) else none
def ciceroneref26_Once.f (l0 : List ByteArray) : Option (List ByteArray) := if okS l0 = true then some (once l0) else none
def ciceroneref26_in.f (l0 : List ByteArray) (a1 : ByteArray) : Option Bool := if okS l0 = true then some (has l0 a1) else none
def ciceroneref08_In.f (l0 : List ByteArray) (a1 : ByteArray) : Option Bool := if okS l0 = true then some (has l0 a1) else none
def ciceroneref02_Texts.f (l0 l1 : List ByteArray) : Option Bool := if (okS l0 && okS l1) = true then some (decide (l0 = l1)) else none
def ciceroneref26_Pick.f (a0 : Int) (a1 : ByteArray) (l2 : List Int) : Option Int := if (decide (a1.size ≤ 140737488351232) && (okI l2 && decide (l2.length ≤ 1000))) = true then some (pick a0 a1 l2) else none
def ciceroneref26_Below.f (a0 a1 : Int) : Option Int := if (decide (0 ≤ a0) && (decide (a0 < 18446744073709551616) && ok64 a1)) = true then some (below a0 a1) else none

theorem some_of {α : Type} {b : Bool} {x r : α} (h : (if b = true then some x else none) = some r) : b = true ∧ x = r := by
  cases b with
  | true => exact ⟨rfl, by injection h⟩
  | false => cases h

theorem draw_Hash.calls (a0 : Int) (A1 : Option Addr) (c1 : Nat) (l1 : List ByteArray) (r : Int) (w : World) (hr1 : Kd.C Kd.string w A1 l1.length l1) (hc1 : l1.length ≤ c1) (h : draw_Hash.f a0 l1 = some r) :
    Calls Try.prog 21 #[.int .u64 a0, .slice A1 l1.length c1] w fun e w' => e = .returned (.int .u64 r) ∧ Below w.heap.size w w' := by
  obtain ⟨hok, rfl⟩ := some_of h
  exact (hash_calls a0 A1 c1 l1 w (rd_of_C hr1 hc1 hok)).mono fun e w' ⟨h, o, e2⟩ => ⟨h, e2 ▸ (Below.refl _ _).alloc (Nat.le_refl _) o⟩
theorem ciceroneref26_Hash.calls (a0 : Int) (A1 : Option Addr) (c1 : Nat) (l1 : List ByteArray) (r : Int) (w : World) (hr1 : Kd.C Kd.string w A1 l1.length l1) (hc1 : l1.length ≤ c1) (h : ciceroneref26_Hash.f a0 l1 = some r) :
    Calls Try.prog 23 #[.int .u64 a0, .slice A1 l1.length c1] w fun e w' => e = .returned (.int .u64 r) ∧ Drawn0 w w' := by
  obtain ⟨hok, rfl⟩ := some_of h
  exact (refHash_calls a0 A1 c1 l1 w (rd_of_C hr1 hc1 hok)).mono fun e w' ⟨h, e⟩ => ⟨h, e ▸ Drawn0.refl _⟩
theorem ciceroneref26_Once.calls (A0 : Option Addr) (c0 : Nat) (l0 : List ByteArray) (r : List ByteArray) (w : World) (hr0 : Kd.C Kd.string w A0 l0.length l0) (hc0 : l0.length ≤ c0) (h : ciceroneref26_Once.f l0 = some r) :
    Calls Try.prog 30 #[.slice A0 l0.length c0] w fun e w' => ∃ v0_ : Value, e = .returned (v0_) ∧ Kd.R Kd.string 9 w' w.heap.size (fun _ => True) v0_ r ∧ Below w.heap.size w w' := by
  obtain ⟨hok, rfl⟩ := some_of h
  exact (refOnce_calls A0 c0 l0 w (rd_of_C hr0 hc0 hok)).mono fun e w' ⟨v, h1, h2, h3⟩ => ⟨v, h1, R_of_own h2, h3⟩
theorem ciceroneref26_in.calls (A0 : Option Addr) (c0 : Nat) (l0 : List ByteArray) (a1 : ByteArray) (r : Bool) (w : World) (hr0 : Kd.C Kd.string w A0 l0.length l0) (hc0 : l0.length ≤ c0) (h : ciceroneref26_in.f l0 a1 = some r) :
    Calls Try.prog 46 #[.slice A0 l0.length c0, .string a1] w fun e w' => e = .returned (.bool r) ∧ Below w.heap.size w w' := by
  obtain ⟨hok, rfl⟩ := some_of h
  exact (textIn_calls _ (.inl rfl) A0 c0 l0 a1 w (rd_of_C hr0 hc0 hok)).mono fun e w' h => h
theorem ciceroneref08_In.calls (A0 : Option Addr) (c0 : Nat) (l0 : List ByteArray) (a1 : ByteArray) (r : Bool) (w : World) (hr0 : Kd.C Kd.string w A0 l0.length l0) (hc0 : l0.length ≤ c0) (h : ciceroneref08_In.f l0 a1 = some r) :
    Calls Try.prog 31 #[.slice A0 l0.length c0, .string a1] w fun e w' => e = .returned (.bool r) ∧ Below w.heap.size w w' := by
  obtain ⟨hok, rfl⟩ := some_of h
  exact (textIn_calls _ (.inr rfl) A0 c0 l0 a1 w (rd_of_C hr0 hc0 hok)).mono fun e w' h => h
theorem ciceroneref02_Texts.calls (A0 : Option Addr) (c0 : Nat) (l0 : List ByteArray) (A1 : Option Addr) (c1 : Nat) (l1 : List ByteArray) (r : Bool) (w : World) (hr0 : Kd.C Kd.string w A0 l0.length l0) (hc0 : l0.length ≤ c0) (hr1 : Kd.C Kd.string w A1 l1.length l1) (hc1 : l1.length ≤ c1) (h : ciceroneref02_Texts.f l0 l1 = some r) :
    Calls Try.prog 26 #[.slice A0 l0.length c0, .slice A1 l1.length c1] w fun e w' => e = .returned (.bool r) ∧ Below w.heap.size w w' := by
  obtain ⟨hok, rfl⟩ := some_of h
  rw [Bool.and_eq_true] at hok
  exact (refTexts_calls A0 A1 c0 c1 l0 l1 w (rd_of_C hr0 hc0 hok.1) (rd_of_C hr1 hc1 hok.2)).mono fun e w' h => h
theorem ciceroneref26_Pick.calls (a0 : Int) (a1 : ByteArray) (A2 : Option Addr) (c2 : Nat) (l2 : List Int) (r : Int) (w : World) (hr2 : Kd.C (Kd.int .i64) w A2 l2.length l2) (hc2 : l2.length ≤ c2) (h : ciceroneref26_Pick.f a0 a1 l2 = some r) :
    Calls Try.prog 33 #[.int .u64 a0, .string a1, .slice A2 l2.length c2] w fun e w' => e = .returned (.int .i64 r) ∧ Below w.heap.size w w' := by
  obtain ⟨hok, rfl⟩ := some_of h
  simp only [Bool.and_eq_true, decide_eq_true_eq] at hok
  exact (refPick_calls a0 a1 A2 c2 l2 w hok.1 (rd_of_CI hr2 hc2 hok.2.1) hok.2.2).mono fun e w' h => h
theorem draw_Below.calls (a0 a1 : Int) (r : Int) (w : World) (h : draw_Below.f a0 a1 = some r) :
    Calls Try.prog 22 #[.int .u64 a0, .int .i64 a1] w fun e w' => e = .returned (.int .i64 r) ∧ Drawn0 w w' := by
  obtain ⟨hok, rfl⟩ := some_of h
  simp only [Bool.and_eq_true, decide_eq_true_eq] at hok
  exact (below_calls a0 a1 w hok.1 hok.2.1 (ok64_of hok.2.2)).mono fun e w' ⟨h, e⟩ => ⟨h, e ▸ Drawn0.refl _⟩
theorem ciceroneref26_Below.calls (a0 a1 : Int) (r : Int) (w : World) (h : ciceroneref26_Below.f a0 a1 = some r) :
    Calls Try.prog 24 #[.int .u64 a0, .int .i64 a1] w fun e w' => e = .returned (.int .i64 r) ∧ Drawn0 w w' := by
  obtain ⟨hok, rfl⟩ := some_of h
  simp only [Bool.and_eq_true, decide_eq_true_eq] at hok
  exact (refBelow_calls a0 a1 w hok.1 hok.2.1 (ok64_of hok.2.2)).mono fun e w' ⟨h, e⟩ => ⟨h, e ▸ Drawn0.refl _⟩
theorem draw_Sample.calls (a0 a1 : Int) (A2 : Option Addr) (c2 : Nat) (l2 : List ByteArray) (r : List ByteArray) (w : World) (hr2 : Kd.C Kd.string w A2 l2.length l2) (hc2 : l2.length ≤ c2) (h : draw_Sample.f a0 a1 l2 = some r) :
    Calls Try.prog 25 #[.int .u64 a0, .int .i64 a1, .slice A2 l2.length c2] w fun e w' => ∃ v0_ : Value, e = .returned (v0_) ∧ Kd.R Kd.string 9 w' w.heap.size (fun _ => True) v0_ r ∧ Below w.heap.size w w' := by
  obtain ⟨hok, rfl⟩ := some_of h
  rw [Bool.and_eq_true] at hok
  exact (sample_calls a0 a1 A2 c2 l2 w (ok64_of hok.1) (rd_of_C hr2 hc2 hok.2)).mono fun e w' ⟨v, h1, h2, h3⟩ => ⟨v, h1, R_of_own h2, h3⟩
theorem ciceroneref26_Sample.calls (a0 a1 : Int) (A2 : Option Addr) (c2 : Nat) (l2 : List ByteArray) (r : List ByteArray) (w : World) (hr2 : Kd.C Kd.string w A2 l2.length l2) (hc2 : l2.length ≤ c2) (h : ciceroneref26_Sample.f a0 a1 l2 = some r) :
    Calls Try.prog 27 #[.int .u64 a0, .int .i64 a1, .slice A2 l2.length c2] w fun e w' => ∃ v0_ : Value, e = .returned (v0_) ∧ Kd.R Kd.string 9 w' w.heap.size (fun _ => True) v0_ r ∧ Below w.heap.size w w' := by
  obtain ⟨hok, rfl⟩ := some_of h
  rw [Bool.and_eq_true] at hok
  exact (refSample_calls a0 a1 A2 c2 l2 w (ok64_of hok.1) (rd_of_C hr2 hc2 hok.2)).mono fun e w' ⟨v, h1, h2, h3⟩ => ⟨v, h1, R_of_own h2, h3⟩
theorem draw_Mix.calls (a0 : Int) (A1 : Option Addr) (c1 : Nat) (l1 : List ByteArray) (A2 : Option Addr) (c2 : Nat) (l2 : List ByteArray) (a3 : Int) (r : List ByteArray) (w : World) (hr1 : Kd.C Kd.string w A1 l1.length l1) (hc1 : l1.length ≤ c1) (hr2 : Kd.C Kd.string w A2 l2.length l2) (hc2 : l2.length ≤ c2) (h : draw_Mix.f a0 l1 l2 a3 = some r) :
    Calls Try.prog 28 #[.int .u64 a0, .slice A1 l1.length c1, .slice A2 l2.length c2, .int .i64 a3] w fun e w' => ∃ v0_ : Value, e = .returned (v0_) ∧ Kd.R Kd.string 9 w' w.heap.size (fun _ => True) v0_ r ∧ Below w.heap.size w w' := by
  obtain ⟨hok, rfl⟩ := some_of h
  rw [Bool.and_eq_true, Bool.and_eq_true] at hok
  exact (mix_calls a0 A1 c1 l1 A2 c2 l2 a3 w (rd_of_C hr1 hc1 hok.1) (rd_of_C hr2 hc2 hok.2.1) (ok64_of hok.2.2)).mono fun e w' ⟨v, h1, h2, h3⟩ => ⟨v, h1, R_of_own h2, h3⟩
theorem draw_Pick.calls (a0 : Int) (a1 : ByteArray) (A2 : Option Addr) (c2 : Nat) (l2 : List Int) (r : Int) (w : World) (hr2 : Kd.C (Kd.int .i64) w A2 l2.length l2) (hc2 : l2.length ≤ c2) (h : draw_Pick.f a0 a1 l2 = some r) :
    Calls Try.prog 32 #[.int .u64 a0, .string a1, .slice A2 l2.length c2] w fun e w' => e = .returned (.int .i64 r) ∧ Below w.heap.size w w' := by
  obtain ⟨hok, rfl⟩ := some_of h
  simp only [Bool.and_eq_true, decide_eq_true_eq] at hok
  exact (pick_calls a0 a1 A2 c2 l2 w hok.1 (rd_of_CI hr2 hc2 hok.2.1) hok.2.2).mono fun e w' h => h
end Ext
end Go.Proofs.Ytemnakfjmikcdaa
