/- The statement ShardSplits: the law's walk: for every number, events and person it answers true. -/
import Derived.Test.YtemnakfjmikcdaaLives32
set_option linter.unusedVariables false
set_option linter.unusedSimpArgs false
namespace Go.Proofs.Ytemnakfjmikcdaa
open Go.RowKit

set_option maxHeartbeats 1600000 in
set_option maxRecDepth 100000 in
theorem shardSplits_walk (n : Int) (A : Option Addr) (c : Nat) (l : List Ev) (p : ByteArray) (w : World) (hn : isI64 n) (hl : Rd kE w A c l) (hp : isStr p) :
    Calls Try.prog 3 #[.int .i64 n, .slice A l.length c, .string p] w (RetB w (.bool true)) := by
  have h1 := hl.len (by decide)
  have hp' := hp
  have hn' := hn
  unfold isStr at hp'
  unfold isI64 at hn'
  have HL := Lib.hid hl
  have HN := Lib.hid hn
  have HP := Lib.hid hp
  clear hl hn hp
  rcases (show (20 < n ∧ n ≤ 1024) ∨ ((n ≤ 20 ∨ 1024 < n) ∧ 40 < l.length) ∨ ((n ≤ 20 ∨ 1024 < n) ∧ l.length ≤ 40 ∧ l.any (evBig 300) = true) ∨ ((n ≤ 20 ∨ 1024 < n) ∧ l.length ≤ 40 ∧ l.any (evBig 300) = false ∧ 100 < p.size) ∨
      ((n < 1 ∨ 1024 < n) ∧ l.length ≤ 40 ∧ l.any (evBig 300) = false ∧ p.size ≤ 100) ∨ ((1 ≤ n ∧ n ≤ 20) ∧ l.length ≤ 40 ∧ l.any (evBig 300) = false ∧ p.size ≤ 100) from by
        cases l.any (evBig 300) <;> simp <;> omega) with h | ⟨hc, h⟩ | ⟨hc, h, hany⟩ | ⟨hc, h, hany, h2⟩ | ⟨hc, h, hany, h2⟩ | ⟨hc, h, hany, h2⟩
  case' inr.inr.inr.inr.inr =>
    obtain ⟨n, rfl⟩ := Int.eq_ofNat_of_zero_le (show 0 ≤ n by omega)
    have hsr := shardOf_range p (n := n) (by omega)
    have hself : (shardOf p n != shardOf p n) = false := by simp
    have hnn : ((n : Int) != (n : Int)) = false := by simp
    go_enter Try.func3, Try.ntmps3
    go_wp2_with (first
      | (go_at_call 11; refine (lives32_calls _).mono ?_; rintro e w1 ⟨rfl, hb1⟩; have HB1 := Lib.hid hb1; clear hb1)
      | (go_at_call 12; refine (refSome_calls _ _ _ _ _ (HL.out.later HB1.out)).mono ?_; rintro e w2 ⟨rfl, hb2⟩; have HB2 := Lib.hid hb2; clear hb2)
      | (go_at_call 13; refine (split_any _ _ _ _ _ ((HL.out.later HB1.out).later HB2.out) (by omega) (by omega)).mono ?_; rintro e w3 ⟨g, vs, rfl, ho, hb3⟩; have HB3 := Lib.hid hb3; have HO := Lib.hid ho; clear hb3 ho)
      | (go_at_call 14; refine (of_calls _ _ _ HP.out HN.out).mono ?_; rintro e w4 ⟨rfl, hb4⟩; have HB4 := Lib.hid hb4; clear hb4)
      | (go_at_call 15; refine (refOf_calls _ _ _ HP.out HN.out).mono ?_; rintro e w5 ⟨rfl, hb5⟩; have HB5 := Lib.hid hb5; clear hb5))
    have HB6 := Lib.hid (below_then (below_then (below_then (below_then HB1.out HB2.out HB1.out.size) HB3.out (Nat.le_trans HB1.out.size HB2.out.size)) HB4.out (Nat.le_trans HB1.out.size (Nat.le_trans HB2.out.size HB3.out.size))) HB5.out (Nat.le_trans HB1.out.size (Nat.le_trans HB2.out.size (Nat.le_trans HB3.out.size HB4.out.size))))
    have HO6 := Lib.hid ((HO.out.later HB4.out (Nat.le_refl _)).later HB5.out (Nat.le_refl _))
    clear HB1 HB2 HB3 HB4 HB5 HO hsr hself
    go_loopw [9] (fun i wr => ∃ k : Nat, k ≤ n ∧ i = .int .i64 k ∧ Below w.heap.size w wr ∧ ORows wr g vs (parts n l)) (fun i _ => n - (intOf i).toNat)
    case atStart => exact ⟨0, Nat.zero_le _, rfl, HB6.out, HO6.out⟩
    case round =>
      obtain ⟨k, hk, rfl, hb, ho⟩ := hrel
      have HB := Lib.hid hb
      have HO := Lib.hid ho
      clear hb ho
      by_cases hkn : k < n
      · have hk0 : (0 : Int) ≤ (k : Int) := by omega
        have hk1 : (k : Int) < (n : Int) := by omega
        have hv : k < vs.length := by have := HO.out.len; rw [parts_len] at this; omega
        have hp1 : k < (parts n l).length := by rw [parts_len]; exact hkn
        have hroom : (part n k l).length * 96 ≤ 140737488351232 := by
          have := List.length_filter_le (fun e => thing e || decide (shardOf e.person n = k)) l
          unfold part; omega
        have HOv : Hid (Own kE wr (g + 1) vs[k] (part n k l)) := by
          have h9 := HO.out.own k hv hp1
          have e9 : (parts n l)[k] = part n k l := by simp [parts]
          rw [e9] at h9
          exact h9
        obtain ⟨hcell, _⟩ := HO.out.cell k hv
        obtain ⟨Av, cv, ev, hrv⟩ := HOv.out.reads hroom
        rw [ev] at hcell
        have HRV := Lib.hid hrv
        have HRoom := Lib.hid hroom
        have HLr := Lib.hid (HL.out.later HB.out)
        clear hrv hroom ev
        generalize hq : part n k l = q at *
        have HQ := Lib.hid hq
        clear hq
        go_wp2
        go_region_held3 (fun wz => wz.cell? ⟨g, k, none⟩ = some (.slice Av q.length cv)) (first | (go_keep; done) | assumption)
          (first
            | (go_at_call 17; refine (refPart_calls _ _ _ _ _ _ HLr.out.drew HN.out).mono ?_; rintro e w6 ⟨v6, rfl, ho6, hb6⟩; rw [HQ.out] at ho6; obtain ⟨A6, c6, rfl, hr6⟩ := ho6.reads HRoom.out; have hcell6 := cell_drew_later hb6 hcell)
            | (go_at_call 16; refine (refSame_calls _ _ _ _ _ _ _ (HRV.out.drew.later (by assumption)) (by assumption)).mono ?_; rintro e w7 ⟨rfl, hb7⟩; have hcell7 := cell_later hb7 (by assumption)))
        have HB7 := Lib.hid (below_then (below_then HB.out.drew hb6 HB.out.size) (by assumption) (Nat.le_trans HB.out.size hb6.size))
        have HO7 := Lib.hid ((HO.out.later ((Below.refl _ wr).drew.trans hb6) (Nat.le_refl _)).later (by assumption) (Nat.le_refl _))
        go_wp2
        go_roundw
        case rel => exact ⟨k + 1, by omega, by go_num, HB7.out, HO7.out⟩
        case measure => simp [intOf]; omega
      · go_wp2
        go_returns
        exact ⟨rfl, HB.out⟩
  case' inr.inr.inr.inr.inl =>
    have hsr := shardOf_range p (n := n) (by omega)
    have hself : (shardOf p n != shardOf p n) = false := by simp
    rcases hc with hc | hc
    all_goals
      go_enter Try.func3, Try.ntmps3
      go_wp2_with (first
        | (go_at_call 11; refine (lives32_calls _).mono ?_; rintro e w1 ⟨rfl, hb1⟩; have HB1 := Lib.hid hb1; clear hb1)
        | (go_at_call 12; refine (refSome_calls _ _ _ _ _ (HL.out.later HB1.out)).mono ?_; rintro e w2 ⟨rfl, hb2⟩; have HB2 := Lib.hid hb2; clear hb2)
        | (go_at_call 13; refine (split_none _ _ _ _ _ (by omega)).mono ?_; rintro e w3 ⟨rfl, rfl⟩)
        | (go_at_call 14; refine (of_calls _ _ _ HP.out HN.out).mono ?_; rintro e w4 ⟨rfl, hb4⟩; have HB4 := Lib.hid hb4; clear hb4)
        | (go_at_call 15; refine (refOf_calls _ _ _ HP.out HN.out).mono ?_; rintro e w5 ⟨rfl, hb5⟩; have HB5 := Lib.hid hb5; clear hb5))
      go_returns
      exact ⟨rfl, below_then (below_then (below_then HB1.out HB2.out HB1.out.size) HB4.out (Nat.le_trans HB1.out.size HB2.out.size)) HB5.out (Nat.le_trans HB1.out.size (Nat.le_trans HB2.out.size HB4.out.size))⟩
  all_goals
    go_enter Try.func3, Try.ntmps3
    go_wp2_with (first
      | (go_at_call 11; refine (lives32_calls _).mono ?_; rintro e w1 ⟨rfl, hb1⟩; have HB1 := Lib.hid hb1; clear hb1)
      | (go_at_call 12; refine (refSome_calls _ _ _ _ _ (HL.out.later HB1.out)).mono ?_; rintro e w2 ⟨rfl, hb2⟩; have HB2 := Lib.hid hb2; clear hb2))
    all_goals
      go_returns
      first
        | exact ⟨rfl, HB1.out⟩
        | exact ⟨rfl, below_then HB1.out HB2.out HB1.out.size⟩
end Go.Proofs.Ytemnakfjmikcdaa
