/- Layer 26 (draw): the walks of the laws' own functions, out of their print and of the pure laws. -/
import Derived.Test.YtemnakfjmikcdaaPure26
set_option linter.unusedVariables false
set_option linter.unusedSimpArgs false
namespace Go.Proofs.Ytemnakfjmikcdaa
open Go.RowKit Go.Proofs.YtemnakfjmikcdaaW.PrintWords Go.Proofs.YtemnakfjmikcdaaW.PrintLast

theorem C_of_rd {w : World} {A : Option Addr} {c : Nat} {l : List ByteArray} (h : Rd kS w A c l) : Kd.C Kd.string w A l.length l := by
  have hl := h.len (by decide)
  refine ⟨rfl, by omega, fun h0 => ?_⟩
  obtain ⟨ad, e, _⟩ := h.cell 0 h0
  refine ⟨ad, e, fun j p hp => ⟨[.string p], rfl, rfl, fun i u hu => ?_⟩⟩
  obtain ⟨hj, rfl⟩ := List.getElem?_eq_some_iff.1 hp
  obtain ⟨a, e2, hc⟩ := h.cell j hj
  rw [e] at e2
  cases e2
  exact hc i u hu
theorem CI_of_rd {w : World} {A : Option Addr} {c : Nat} {l : List Int} (h : Rd kI w A c l) : Kd.C (Kd.int .i64) w A l.length l := by
  have hl := h.len (by decide)
  refine ⟨rfl, by omega, fun h0 => ?_⟩
  obtain ⟨ad, e, _⟩ := h.cell 0 h0
  refine ⟨ad, e, fun j p hp => ⟨[.int .i64 p], rfl, rfl, fun i u hu => ?_⟩⟩
  obtain ⟨hj, rfl⟩ := List.getElem?_eq_some_iff.1 hp
  obtain ⟨a, e2, hc⟩ := h.cell j hj
  rw [e] at e2
  cases e2
  exact hc i u hu

theorem drawHash_walk (a0 : Int) (A1 : Option Addr) (c1 : Nat) (l1 : List ByteArray) (a2 : Int) (w : World) (h0 : 0 ≤ a0 ∧ a0 < 18446744073709551616) (h1 : Rd kS w A1 c1 l1) (h2 : isI64 a2) :
    Calls Try.prog 5 #[.int .u64 a0, .slice A1 l1.length c1, .int .i64 a2] w (RetB w (.bool true)) := by
  obtain ⟨k, hk⟩ := Pure.DrawHash a0 l1 a2 (h1.len (by decide)) h2
  exact (PD26.ciceronelaw26_DrawHash.calls k a0 A1 c1 l1 a2 true w (C_of_rd h1) h1.le hk).mono fun e w' h => h
theorem drawBelow_walk (a0 a1 a2 : Int) (w : World) (h0 : 0 ≤ a0 ∧ a0 < 18446744073709551616) (h1 : 0 ≤ a1 ∧ a1 < 18446744073709551616) (h2 : isI64 a2) :
    Calls Try.prog 6 #[.int .u64 a0, .int .u64 a1, .int .i64 a2] w (RetB w (.bool true)) := by
  obtain ⟨k, hk⟩ := Pure.DrawBelow a0 a1 a2 h0 h1 h2
  exact (PD26.ciceronelaw26_DrawBelow.calls k a0 a1 a2 true w hk).mono fun e w' h => h
theorem drawSamples_walk (a0 a1 : Int) (A2 : Option Addr) (c2 : Nat) (l2 : List ByteArray) (w : World) (h0 : 0 ≤ a0 ∧ a0 < 18446744073709551616) (h1 : isI64 a1) (h2 : Rd kS w A2 c2 l2) :
    Calls Try.prog 7 #[.int .u64 a0, .int .i64 a1, .slice A2 l2.length c2] w (RetB w (.bool true)) := by
  obtain ⟨k, hk⟩ := Pure.DrawSamples a0 a1 l2 h1 (h2.len (by decide))
  exact (PD26.ciceronelaw26_DrawSamples.calls k a0 a1 A2 c2 l2 true w (C_of_rd h2) h2.le hk).mono fun e w' h => h
theorem drawKeeps_walk (a0 : Int) (A1 : Option Addr) (c1 : Nat) (l1 : List ByteArray) (A2 : Option Addr) (c2 : Nat) (l2 : List ByteArray) (a3 : Int) (w : World) (h0 : 0 ≤ a0 ∧ a0 < 18446744073709551616) (h1 : Rd kS w A1 c1 l1) (h2 : Rd kS w A2 c2 l2) (h3 : isI64 a3) :
    Calls Try.prog 9 #[.int .u64 a0, .slice A1 l1.length c1, .slice A2 l2.length c2, .int .i64 a3] w (RetB w (.bool true)) := by
  obtain ⟨k, hk⟩ := Pure.DrawKeeps a0 l1 l2 a3 (h1.len (by decide)) (h2.len (by decide)) h3
  exact (PD26.ciceronelaw26_DrawKeeps.calls k a0 A1 c1 l1 A2 c2 l2 a3 true w (C_of_rd h1) h1.le (C_of_rd h2) h2.le hk).mono fun e w' h => h
theorem drawPicks_walk (a0 : Int) (a1 : ByteArray) (A2 : Option Addr) (c2 : Nat) (l2 : List Int) (w : World) (h0 : 0 ≤ a0 ∧ a0 < 18446744073709551616) (h1 : isStr a1) (h2 : Rd kI w A2 c2 l2) :
    Calls Try.prog 10 #[.int .u64 a0, .string a1, .slice A2 l2.length c2] w (RetB w (.bool true)) := by
  obtain ⟨k, hk⟩ := Pure.DrawPicks a0 a1 l2 h1 (h2.len (by decide)) h2.ok
  exact (PD26.ciceronelaw26_DrawPicks.calls k a0 a1 A2 c2 l2 true w (CI_of_rd h2) h2.le hk).mono fun e w' h => h
end Go.Proofs.Ytemnakfjmikcdaa
