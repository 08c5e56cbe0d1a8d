/- Layer 26 (draw): the walk of the law DrawMixes. -/
import Derived.Test.YtemnakfjmikcdaaWalk26
set_option linter.unusedVariables false
set_option linter.unusedSimpArgs false
namespace Go.Proofs.Ytemnakfjmikcdaa
open Go.RowKit Go.Proofs.YtemnakfjmikcdaaW.PrintWords Go.Proofs.YtemnakfjmikcdaaW.PrintLast

theorem own_of_R {w : World} {base : Nat} {ok : Nat → Prop} {v : Value} {l : List ByteArray} (h : Kd.R Kd.string 9 w base ok v l) (hl : ∀ x ∈ l, isStr x) : Own kS w base v l := by
  obtain ⟨_, inner, ho, hr⟩ := h
  have e : inner = l.flatMap kS.enc := by
    have hlen : inner.length = l.length := by rw [hr.1]; show l.length * 1 = l.length; omega
    have e2 : ∀ m : List ByteArray, m.flatMap kS.enc = m.map Value.string := by
      intro m
      induction m with
      | nil => rfl
      | cons x m ih => rw [List.flatMap_cons, ih]; rfl
    rw [e2]
    refine List.ext_getElem (by rw [List.length_map, hlen]) fun i h1 h2 => ?_
    have h3 := hr.2 i (l[i]'(by omega)) (List.getElem?_eq_getElem (by omega))
    have h4 : (inner.drop (i * 1)).take 1 = [Value.string (l[i]'(by omega))] := h3
    rw [Nat.mul_one, List.drop_eq_getElem_cons h1, List.take_succ_cons, List.take_zero] at h4
    rw [List.getElem_map]
    exact List.head_eq_of_cons_eq h4
  subst e
  exact ⟨ho, hl⟩
theorem lives26_calls (w : World) : Calls Try.prog 19 #[] w (RetB w (.bool true)) :=
  (PD26.ciceronelaw26_lives.calls true w Pure.lives_true).mono fun e w' h => h
theorem big_calls (A : Option Addr) (c : Nat) (l : List ByteArray) (n : Int) (b : Bool) (w : World) (hl : Rd kS w A c l) (hb : Pure.bigB l n = b) : Calls Try.prog 20 #[.slice A l.length c, .int .i64 n] w (RetB w (.bool b)) :=
  (PD26.ciceronelaw26_big.calls (l.length + 1) A c l n b w (C_of_rd hl) hl.le (by rw [← hb]; exact Pure.big_f l n (by have := hl.len (by decide); omega) _ (by omega))).mono fun e w' ⟨h1, h2⟩ => ⟨h1, h2.below⟩
/-- What may be mixed without fear for memory. -/
def Small (l : List ByteArray) : Prop := l.length ≤ 30 ∧ ∀ s ∈ l, s.size ≤ 100
theorem small_of {l : List ByteArray} (h : Pure.bigB l 30 = false) : Small l := ⟨by have := (Pure.not_big h).1; omega, (Pure.not_big h).2⟩
theorem small_mix {seed : Int} {main other : List ByteArray} {every : Int} (h1 : Small main) (h2 : Small other) : Small (mix seed main other every) :=
  ⟨by rw [mix_len]; exact Nat.le_trans (once_le main) h1.1, fun s hs => by
    rcases mem_mix hs with h | h
    · exact h1.2 s h
    · exact h2.2 s h⟩
theorem Small.str {l : List ByteArray} (h : Small l) : ∀ x ∈ l, isStr x := fun x hx => by have := h.2 x hx; unfold isStr; omega
theorem refMix_calls (seed : Int) (A1 : Option Addr) (c1 : Nat) (main : List ByteArray) (A2 : Option Addr) (c2 : Nat) (other : List ByteArray) (every : Int) (w : World) (hm : Rd kS w A1 c1 main) (ho : Rd kS w A2 c2 other) (he : isI64 every) (h1 : Small main) (h2 : Small other) :
    Calls Try.prog 29 #[.int .u64 seed, .slice A1 main.length c1, .slice A2 other.length c2, .int .i64 every] w fun e w' => ∃ v, e = .returned v ∧ Own kS w' w.heap.size v (mix seed main other every) ∧ Below w.heap.size w w' :=
  (PD26.ciceroneref26_Mix.calls 100 seed A1 c1 main A2 c2 other every _ w (C_of_rd hm) hm.le (C_of_rd ho) ho.le (Pure.refMix_f seed main other every h1.1 h1.2 h2.1 h2.2 he 100 (Nat.le_refl _))).mono fun e w' ⟨v, h3, h4, h5⟩ => ⟨v, h3, own_of_R h4 (small_mix h1 h2).str, h5⟩
theorem texts_same (A B : Option Addr) (c d : Nat) (l : List ByteArray) (w : World) (hl : Rd kS w A c l) (hm : Rd kS w B d l) : Calls Try.prog 26 #[.slice A l.length c, .slice B l.length d] w (RetB w (.bool true)) := by
  have := refTexts_calls A B c d l l w hl hm
  rw [decide_eq_true rfl] at this
  exact this
/-- What a call made, as a row that is read. -/
theorem made_rd {w w' : World} {v : Value} {l : List ByteArray} (h : Own kS w' w.heap.size v l) (hs : Small l) : ∃ A c, v = .slice A l.length c ∧ Rd kS w' A c l :=
  h.reads (by have := hs.1; show l.length * 16 ≤ _; omega)
/-- The contracts that the walk uses: what is made is a row that is read. -/
def Makes (w : World) (l : List ByteArray) (e : Ending) (w' : World) : Prop := ∃ A c, e = .returned (.slice A l.length c) ∧ Rd kS w' A c l ∧ Below w.heap.size w w'
theorem makes_of {w : World} {l : List ByteArray} (hs : Small l) {e : Ending} {w' : World} (h : ∃ v, e = .returned v ∧ Own kS w' w.heap.size v l ∧ Below w.heap.size w w') : Makes w l e w' := by
  obtain ⟨v, rfl, h2, h3⟩ := h
  obtain ⟨A, c, rfl, h4⟩ := made_rd h2 hs
  exact ⟨A, c, rfl, h4, h3⟩
theorem small_once {l : List ByteArray} (h : Small l) : Small (once l) := ⟨Nat.le_trans (once_le l) h.1, fun s hs => h.2 s (mem_once.1 hs)⟩

set_option maxHeartbeats 1600000 in
set_option maxRecDepth 100000 in
theorem drawMixes_walk (a0 : Int) (A1 : Option Addr) (c1 : Nat) (l1 : List ByteArray) (A2 : Option Addr) (c2 : Nat) (l2 : List ByteArray) (a3 : Int) (w : World) (h0 : 0 ≤ a0 ∧ a0 < 18446744073709551616) (h1 : Rd kS w A1 c1 l1) (h2 : Rd kS w A2 c2 l2) (h3 : isI64 a3) :
    Calls Try.prog 8 #[.int .u64 a0, .slice A1 l1.length c1, .slice A2 l2.length c2, .int .i64 a3] w (RetB w (.bool true)) := by
  have H1 := Lib.hid h1
  have H2 := Lib.hid h2
  have H3 := Lib.hid h3
  clear h1 h2 h3 h0
  cases hb1 : Pure.bigB l1 30 with
  | true =>
    have HB1 := Lib.hid hb1
    clear hb1
    go_enter Try.func8, Try.ntmps8
    go_wp2_with (first
      | (go_at_call 19; refine (lives26_calls _).mono ?_; rintro e w1 ⟨rfl, hb⟩; have HW1 := Lib.hid hb; clear hb)
      | (go_at_call 20; refine (big_calls _ _ l1 _ true _ (H1.out.later HW1.out) HB1.out).mono ?_; rintro e w2 ⟨rfl, hb⟩; have HW2 := Lib.hid hb; clear hb))
    go_returns
    exact ⟨rfl, below_then HW1.out HW2.out HW1.out.size⟩
  | false =>
    have HB1 := Lib.hid hb1
    clear hb1
    cases hb2 : Pure.bigB l2 30 with
    | true =>
      have HB2 := Lib.hid hb2
      clear hb2
      go_enter Try.func8, Try.ntmps8
      go_wp2_with fail
      refine (lives26_calls _).mono ?_; rintro e w1 ⟨rfl, hb⟩; have HW1 := Lib.hid hb; clear hb
      go_wp2_with fail
      refine (big_calls _ _ l1 _ false _ (H1.out.later HW1.out) HB1.out).mono ?_; rintro e w2 ⟨rfl, hb⟩; have HW2 := Lib.hid (below_then HW1.out hb HW1.out.size); clear hb
      go_wp2_with fail
      refine (big_calls _ _ l2 _ true _ (H2.out.later HW2.out) HB2.out).mono ?_; rintro e w3 ⟨rfl, hb⟩; have HW3 := Lib.hid (below_then HW2.out hb HW2.out.size); clear hb
      go_wp2_with fail
      go_returns
      exact ⟨rfl, HW3.out⟩
    | false =>
      have HB2 := Lib.hid hb2
      have S1 := Lib.hid (small_of HB1.out)
      have S2 := Lib.hid (small_of hb2)
      clear hb2
      have HL : Hid ((mix a0 l1 l2 a3).length = (once l1).length) := mix_len a0 l1 l2 a3
      have HLL : ((mix a0 l1 l2 a3).length == (once l1).length) = true := by rw [HL.out]; exact beq_self_eq_true _
      have HLZ : (((mix a0 l1 l2 a3).length : Int) == ((once l1).length : Int)) = true := by rw [HL.out]; exact beq_self_eq_true _
      go_enter Try.func8, Try.ntmps8
      go_wp2_with fail
      refine (lives26_calls _).mono ?_; rintro e w1 ⟨rfl, hb⟩; have HW1 := Lib.hid hb; clear hb
      go_wp2_with fail
      refine (big_calls _ _ l1 _ false _ (H1.out.later HW1.out) HB1.out).mono ?_; rintro e w2 ⟨rfl, hb⟩; have HW2 := Lib.hid (below_then HW1.out hb HW1.out.size); clear hb
      go_wp2_with fail
      refine (big_calls _ _ l2 _ false _ (H2.out.later HW2.out) HB2.out).mono ?_; rintro e w3 ⟨rfl, hb⟩; have HW3 := Lib.hid (below_then HW2.out hb HW2.out.size); clear hb
      go_wp2_with fail
      refine (mix_calls a0 _ _ l1 _ _ l2 a3 _ (H1.out.later HW3.out) (H2.out.later HW3.out) H3.out).mono ?_; intro e w4 he; obtain ⟨A4, c4, rfl, hr, hb⟩ := makes_of (small_mix S1.out S2.out) he; clear he; have HW4 := Lib.hid (below_then HW3.out hb HW3.out.size); have HR4 := Lib.hid hr; clear hb hr
      go_wp2_with fail
      refine (refMix_calls a0 _ _ l1 _ _ l2 a3 _ (H1.out.later HW4.out) (H2.out.later HW4.out) H3.out S1.out S2.out).mono ?_; intro e w5 he; obtain ⟨A5, c5, rfl, hr, hb⟩ := makes_of (small_mix S1.out S2.out) he; clear he; have HR4b := Lib.hid (HR4.out.later hb); have HW5 := Lib.hid (below_then HW4.out hb HW4.out.size); have HR5 := Lib.hid hr; clear hb hr HR4
      go_wp2_with fail
      refine (texts_same _ _ _ _ (mix a0 l1 l2 a3) _ HR4b.out HR5.out).mono ?_; rintro e w6 ⟨rfl, hb⟩; have HR6 := Lib.hid (HR4b.out.later hb); have HW6 := Lib.hid (below_then HW5.out hb HW5.out.size); clear hb HR4b HR5
      have EM : Hid (once (mix a0 l1 l2 a3) = mix a0 l1 l2 a3) := once_of_nodup (mix_nodup _ _ _ _)
      go_wp2_with fail
      refine (refOnce_calls _ _ (mix a0 l1 l2 a3) _ HR6.out).mono ?_; rw [EM.out]; intro e w7 he; obtain ⟨A7, c7, rfl, hr, hb⟩ := makes_of (small_mix S1.out S2.out) he; clear he; have HR6b := Lib.hid (HR6.out.later hb); have HW7 := Lib.hid (below_then HW6.out hb HW6.out.size); have HR7 := Lib.hid hr; clear hb hr HR6
      go_wp2_with fail
      refine (texts_same _ _ _ _ (mix a0 l1 l2 a3) _ HR7.out HR6b.out).mono ?_; rintro e w8 ⟨rfl, hb⟩; have HW8 := Lib.hid (below_then HW7.out hb HW7.out.size); clear hb HR7 HR6b
      go_wp2_with fail
      refine (refOnce_calls _ _ l1 _ (H1.out.later HW8.out)).mono ?_; intro e w9 he; obtain ⟨A9, c9, rfl, hr, hb⟩ := makes_of (small_once S1.out) he; clear he; have HW9 := Lib.hid (below_then HW8.out hb HW8.out.size); have HR9 := Lib.hid hr; clear hb hr
      go_wp2_with fail
      refine (mix_calls a0 _ _ l1 none 0 [] a3 _ (H1.out.later HW9.out) (Rd.nil kS _ _ _ (Nat.zero_le _)) H3.out).mono ?_; rw [mix_nil]; intro e w10 he; obtain ⟨A10, c10, rfl, hr, hb⟩ := makes_of (small_once S1.out) he; clear he; have HR9b := Lib.hid (HR9.out.later hb); have HW10 := Lib.hid (below_then HW9.out hb HW9.out.size); have HR10 := Lib.hid hr; clear hb hr HR9
      go_wp2_with fail
      refine (texts_same _ _ _ _ (once l1) _ HR10.out HR9b.out).mono ?_; rintro e w11 ⟨rfl, hb⟩; have HR11 := Lib.hid (HR9b.out.later hb); have HW11 := Lib.hid (below_then HW10.out hb HW10.out.size); clear hb HR10 HR9b
      go_wp2_with fail
      refine (mix_calls a0 _ _ l1 _ _ l2 0 _ (H1.out.later HW11.out) (H2.out.later HW11.out) ⟨by omega, by omega⟩).mono ?_; rw [mix_zero]; intro e w12 he; obtain ⟨A12, c12, rfl, hr, hb⟩ := makes_of (small_once S1.out) he; clear he; have HR11b := Lib.hid (HR11.out.later hb); have HW12 := Lib.hid (below_then HW11.out hb HW11.out.size); have HR12 := Lib.hid hr; clear hb hr HR11
      go_wp2_with fail
      refine (texts_same _ _ _ _ (once l1) _ HR12.out HR11b.out).mono ?_; rintro e w13 ⟨rfl, hb⟩; have HR13 := Lib.hid (HR11b.out.later hb); have HW13 := Lib.hid (below_then HW12.out hb HW12.out.size); clear hb HR12 HR11b
      go_wp2_with fail
      refine (mix_calls a0 _ _ l1 _ _ l1 a3 _ (H1.out.later HW13.out) (H1.out.later HW13.out) H3.out).mono ?_; rw [mix_self]; intro e w14 he; obtain ⟨A14, c14, rfl, hr, hb⟩ := makes_of (small_once S1.out) he; clear he; have HR13b := Lib.hid (HR13.out.later hb); have HW14 := Lib.hid (below_then HW13.out hb HW13.out.size); have HR14 := Lib.hid hr; clear hb hr HR13
      go_wp2_with fail
      refine (texts_same _ _ _ _ (once l1) _ HR14.out HR13b.out).mono ?_; rintro e w15 ⟨rfl, hb⟩; have HW15 := Lib.hid (below_then HW14.out hb HW14.out.size); clear hb HR14 HR13b
      go_wp2_with fail
      go_returns
      exact ⟨rfl, HW15.out⟩
end Go.Proofs.Ytemnakfjmikcdaa
