/- Layer 32 (shard): what Of, Split and the reference's Of and Part come to. -/
import Derived.Test.YtemnakfjmikcdaaDraw
import Derived.Test.YtemnakfjmikcdaaEvents
set_option linter.unusedVariables false
set_option linter.unusedSimpArgs false
namespace Go.Proofs.Ytemnakfjmikcdaa
open Go.RowKit

def shardOf (p : ByteArray) (n : Int) : Int := below (hash 0 [p]) n
theorem shardOf_range (p : ByteArray) {n : Int} (hn : n ≤ 9223372036854775807) : 0 ≤ shardOf p n ∧ (1 ≤ n → shardOf p n < n) :=
  let r := hash_range 0 [p]
  let b := below_range r.1 r.2 hn
  ⟨b.1, b.2.1⟩

theorem rd_one {w : World} (s : ByteArray) (hs : isStr s) : Rd kS (w.alloc (.cells #[.string s] 9)) (some ⟨w.heap.size, 0, none⟩) 1 [s] :=
  Rd.one kS_elem s hs (by decide) _ rfl

set_option maxHeartbeats 400000 in
theorem of_calls (p : ByteArray) (n : Int) (w : World) (hp : isStr p) (hn : isI64 n) :
    Calls Try.prog 14 #[.string p, .int .i64 n] w (RetB w (.int .i64 (shardOf p n))) := by
  have hh := hash_range 0 [p]
  have HN := Lib.hid hn
  have HP := Lib.hid hp
  have HE : Hid (shardOf p n = below (hash 0 [p]) n) := rfl
  clear hn hp
  go_enter Try.func14, Try.ntmps14
  go_wp2_with (first | (go_at_call 21; refine (hash_calls 0 _ _ [p] _ (rd_one p HP.out)).mono ?_; rintro e w' ⟨rfl, o, rfl⟩) | (go_at_call 22; refine (below_calls _ _ _ hh.1 hh.2 HN.out).mono ?_; rintro e w' ⟨rfl, rfl⟩))
  go_returns
  exact ⟨ret_num HE.out.symm, by go_grown⟩

set_option maxHeartbeats 400000 in
theorem refOf_calls (p : ByteArray) (n : Int) (w : World) (hp : isStr p) (hn : isI64 n) :
    Calls Try.prog 15 #[.string p, .int .i64 n] w (RetB w (.int .i64 (shardOf p n))) := by
  have hh := hash_range 0 [p]
  have HN := Lib.hid hn
  have HP := Lib.hid hp
  have HE : Hid (shardOf p n = below (hash 0 [p]) n) := rfl
  clear hn hp
  go_enter Try.func15, Try.ntmps15
  go_wp2_with (first | (go_at_call 23; refine (refHash_calls 0 _ _ [p] _ (rd_one p HP.out)).mono ?_; rintro e w' ⟨rfl, rfl⟩) | (go_at_call 24; refine (refBelow_calls _ _ _ hh.1 hh.2 HN.out).mono ?_; rintro e w' ⟨rfl, rfl⟩))
  go_returns
  exact ⟨ret_num HE.out.symm, by go_grown⟩
def thing (e : Ev) : Bool := e.kind == 11 || e.kind == 12 || e.kind == 13
def part (n k : Int) (l : List Ev) : List Ev := l.filter (fun e => thing e || decide (shardOf e.person n = k))
theorem take_filter_succ {α : Type} (p : α → Bool) {l : List α} {k : Nat} (h : k < l.length) : (l.take (k + 1)).filter p = (l.take k).filter p ++ (if p l[k] then [l[k]] else []) := by
  rw [List.take_succ_eq_append_getElem h, List.filter_append]
  simp [List.filter_cons]
theorem part_le (n k : Int) (l : List Ev) (j : Nat) (h : j < l.length) (hr : l.length * 96 ≤ 140737488351232) : ((part n k (l.take j)).length + 1) * 96 ≤ 140737488351232 := by
  have := List.length_filter_le (fun e => thing e || decide (shardOf e.person n = k)) (l.take j)
  rw [List.length_take] at this
  unfold part; omega

set_option maxHeartbeats 1600000 in
set_option maxRecDepth 100000 in
theorem refPart_calls (A : Option Addr) (c : Nat) (l : List Ev) (n k : Int) (w : World) (hl : Rd kE w A c l) (hn : isI64 n) :
    Calls Try.prog 17 #[.slice A l.length c, .int .i64 n, .int .i64 k] w fun e w' => ∃ v, e = .returned v ∧ Own kE w' w.heap.size v (part n k l) ∧ Below w.heap.size w w' := by
  have h1 := hl.len (by decide)
  have hroom : l.length * 96 ≤ 140737488351232 := hl.room
  have HL := Lib.hid hl
  have HN := Lib.hid hn
  clear hl hn
  go_enter Try.func17, Try.ntmps17
  go_wp2
  go_loopw [7, 8] (fun v i wr => ∃ j : Nat, j ≤ l.length ∧ i = .int .i64 j ∧ Below w.heap.size w wr ∧ Own kE wr w.heap.size v (part n k (l.take j))) (fun _ i _ => l.length - (intOf i).toNat)
  case atStart => exact ⟨0, Nat.zero_le _, rfl, (Below.refl _ _).alloc (Nat.le_refl _) _, Own.empty kE w (Nat.le_refl _)⟩
  case round =>
    obtain ⟨j, hj, rfl, hb, ho⟩ := hrel
    have HO := Lib.hid ho
    have HB := Lib.hid hb
    clear hb ho
    by_cases hlt : j < l.length
    · obtain ⟨a, rfl, a0, a1, a2, a3, a4, a5, a6, a7⟩ := (HL.out.later HB.out).ev j hlt
      have hok : Hid (l[j].ok) := HL.out.ok l[j] (List.getElem_mem hlt)
      have HE := Lib.hid (take_filter_succ (fun e => thing e || decide (shardOf e.person n = k)) hlt)
      have HR := Lib.hid (part_le n k l j hlt hroom)
      generalize l[j] = x at *
      have hsz := HB.out.size
      have hF : Hid ((thing x || decide (shardOf x.person n = k)) = (x.kind == 11 || x.kind == 12 || x.kind == 13 || shardOf x.person n == k)) := by
        show _ = _
        rw [beq_eq_dec]
        rfl
      rcases (by cases (x.kind == 11) <;> cases (x.kind == 12) <;> cases (x.kind == 13) <;> cases (shardOf x.person n == k) <;> simp : (x.kind == 11) = true ∨ ((x.kind == 11) = false ∧ (x.kind == 12) = true) ∨ ((x.kind == 11) = false ∧ (x.kind == 12) = false ∧ (x.kind == 13) = true) ∨
        ((x.kind == 11) = false ∧ (x.kind == 12) = false ∧ (x.kind == 13) = false ∧ (shardOf x.person n == k) = true) ∨ ((x.kind == 11) = false ∧ (x.kind == 12) = false ∧ (x.kind == 13) = false ∧ (shardOf x.person n == k) = false)) with h | ⟨h, h2⟩ | ⟨h, h2, h3⟩ | ⟨h, h2, h3, h4⟩ | ⟨h, h2, h3, h4⟩
      case' inr.inr.inr.inr =>
        have hT : Hid ((thing x || decide (shardOf x.person n = k)) = false) := by show _ = _; rw [hF.out]; simp [*]
        go_wp2_with (go_at_call 15; refine (refOf_calls _ _ _ hok.out.person HN.out).mono ?_; rintro e w' ⟨rfl, hb'⟩)
        go_roundw
        case rel => exact ⟨j + 1, by omega, by go_num, below_then (HB.out.alloc HB.out.size _) (by assumption) (by simp; omega), by have h9 := (HO.out.alloc _).upto hb' (by simp); unfold part at h9 ⊢; rw [HE.out, hT.out]; simpa using h9⟩
        case measure => simp [intOf]; omega
      all_goals
        have hT : Hid ((thing x || decide (shardOf x.person n = k)) = true) := by show _ = _; rw [hF.out]; simp [*]
        go_wp2_with (first
          | (go_at_call 15; refine (refOf_calls _ _ _ hok.out.person HN.out).mono ?_; rintro e w' ⟨rfl, hb'⟩; obtain ⟨c0, c1, c2, c3, c4, c5, c6, c7⟩ := evBox hb'; have hsz2 := hb'.size; simp at hsz2)
          | (at_builtin; refine wp_append1 kE_elem w.heap.size _ _ (HO.out.alloc _) x hok.out rfl HR.out rfl _ _ rfl rfl rfl (by simp) (by omega) ?_; intro v' w1 ho' hg' hat hsz')
          | (at_builtin; refine wp_append1 kE_elem w.heap.size _ _ ((HO.out.alloc _).upto (by assumption) (by simp)) x hok.out rfl HR.out rfl _ _ rfl rfl rfl (by simp) (by omega) ?_; intro v' w1 ho' hg' hat hsz'))
        go_roundw
        case rel => exact ⟨j + 1, by omega, by go_num, by first | exact Own.below (HB.out.alloc HB.out.size _) (HO.out.alloc _) (by assumption) (by simp; omega) (Nat.le_refl _) | exact Own.below (below_then (HB.out.alloc HB.out.size _) (by assumption) (by simp; omega)) ((HO.out.alloc _).upto (by assumption) (by simp)) (by assumption) (by omega) (Nat.le_refl _), by unfold part; rw [HE.out, hT.out]; assumption⟩
        case measure => simp [intOf]; omega
    · have HJ := Lib.hid (take_all (l := l) (k := j) (by omega))
      rw [HJ.out] at HO
      go_wp2
      go_returns
      exact ⟨_, rfl, HO.out, HB.out⟩
end Go.Proofs.Ytemnakfjmikcdaa
