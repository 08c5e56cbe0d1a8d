/- Layer 26 (draw): each text once: draw.once, and the reference's Once and in; layer 8's reference In. -/
import Derived.Test.YtemnakfjmikcdaaDraw
import Derived.Test.YtemnakfjmikcdaaEvents
set_option linter.unusedVariables false
set_option linter.unusedSimpArgs false
namespace Go.Proofs.Ytemnakfjmikcdaa
open Go.RowKit

/-- Texts as keys of a map. -/
def kkS : KK Try.prog ByteArray := ⟨9, fun s => .string s, isStr, fun _ _ h => by injection h, Go.Maps.string_keyed Try.underlying9, fun x hx => ⟨.string x.data.toList, by
  unfold keyOf
  rw [Try.underlying9]
  simp [mapKey, Try.underlying9]
  unfold isStr at hx; unfold maxLen; omega⟩⟩

theorem textIn_calls (f : Nat) (hf : f = 46 ∨ f = 31) (A : Option Addr) (c : Nat) (l : List ByteArray) (s : ByteArray) (w : World) (hl : Rd kS w A c l) :
    Calls Try.prog f #[.slice A l.length c, .string s] w (RetB w (.bool (l.any (fun x => decide (x = s))))) := by
  have h1 := hl.len (by decide)
  have HL := Lib.hid hl
  clear hl
  rcases hf with rfl | rfl
  case' inl => go_enter Try.func46, Try.ntmps46
  case' inr => go_enter Try.func31, Try.ntmps31
  all_goals
    go_wp2
    go_loopw [5] (fun i wr => ∃ k : Nat, k ≤ l.length ∧ i = .int .i64 k ∧ (∃ n, wr = w.drewN n) ∧ Hid ((l.take k).any (fun x => decide (x = s)) = false)) (fun i _ => l.length - (intOf i).toNat)
    case atStart => exact ⟨0, Nat.zero_le _, rfl, ⟨0, rfl⟩, rfl⟩
    case round =>
      obtain ⟨k, hk, rfl, ⟨n, rfl⟩, he⟩ := hrel
      by_cases hlt : k < l.length
      · obtain ⟨a, rfl, a0⟩ := HL.out.str k hlt
        have HE := Lib.hid (take_any_succ (fun x => decide (x = s)) hlt)
        have HA : Hid (decide (l[k] = s) = true → l.any (fun x => decide (x = s)) = true) := fun h => List.any_eq_true.2 ⟨_, List.getElem_mem hlt, h⟩
        generalize l[k] = x at *
        cases hx : decide (x = s)
        all_goals
          have hd := toList_beq x s
          rw [hx] at hd
          have HX := Lib.hid hx
          clear hx
          go_wp2
        · go_roundw
          case rel => exact ⟨k + 1, by omega, by go_num, ⟨_, rfl⟩, by show _ = _; rw [HE.out, he.out, HX.out]; rfl⟩
          case measure => simp [intOf]; omega
        · go_returns
          exact ⟨ret_bool (HA.out HX.out).symm, by first | exact drewN_below _ _ | exact drewN_below2 _ _ _⟩
      · go_wp2
        go_returns
        exact ⟨ret_bool (by have := he.out; rw [take_all (by omega)] at this; exact this.symm), drewN_below _ _⟩

/-! ### each once -/
def has (l : List ByteArray) (s : ByteArray) : Bool := l.any (fun x => decide (x = s))
def onceStep (acc : List ByteArray) (s : ByteArray) : List ByteArray := if has acc s then acc else acc ++ [s]
def once (l : List ByteArray) : List ByteArray := l.foldl onceStep []
theorem once_succ {l : List ByteArray} {k : Nat} (h : k < l.length) : once (l.take (k + 1)) = onceStep (once (l.take k)) l[k] := by
  unfold once
  rw [List.take_succ_eq_append_getElem h, List.foldl_append]; rfl
theorem onceStep_len (acc : List ByteArray) (s : ByteArray) : (onceStep acc s).length ≤ acc.length + 1 := by
  unfold onceStep; split <;> simp
theorem once_len : ∀ (k : Nat) (l : List ByteArray), (once (l.take k)).length ≤ k
  | 0, l => by simp [once]
  | k + 1, l => by
    by_cases h : k < l.length
    · rw [once_succ h]
      have := onceStep_len (once (l.take k)) l[k]
      have := once_len k l
      omega
    · have e : l.take (k + 1) = l.take k := by rw [take_all (by omega), take_all (by omega)]
      rw [e]
      have := once_len k l
      omega
theorem once_le (l : List ByteArray) : (once l).length ≤ l.length := by
  have := once_len l.length l
  rwa [List.take_length] at this
theorem has_iff {l : List ByteArray} {s : ByteArray} : has l s = true ↔ s ∈ l := by
  unfold has
  rw [List.any_eq_true]
  constructor
  · rintro ⟨x, hx, h⟩
    rw [decide_eq_true_iff] at h
    rw [← h]; exact hx
  · exact fun h => ⟨s, h, by simp⟩
theorem met_get (m : List ByteArray) (s : ByteArray) : mget (m.map (fun x => (x, true))) s = if has m s then some true else none := by
  induction m with
  | nil => rfl
  | cons x m ih =>
    rw [List.map_cons, mget_cons, ih]
    unfold has
    rw [List.any_cons]
    by_cases e : x = s
    · simp [e]
    · have hd : decide (x = s) = false := decide_eq_false e
      rw [if_neg e, hd, Bool.false_or]
theorem met_put (m : List ByteArray) (s : ByteArray) : mput (m.map (fun x => (x, true))) s true = (onceStep m s).map (fun x => (x, true)) := by
  unfold mput onceStep
  rw [any_key, met_get]
  cases h : has m s with
  | true =>
    rw [if_pos (by simp), if_pos rfl, List.map_map]
    refine List.map_congr_left fun x _ => ?_
    simp only [Function.comp_apply]
    split
    · rename_i e; rw [e]
    · rfl
  | false => simp

theorem below_map {B : Nat} {w w1 w2 : World} {r : Nat} (h : Below B w w1) (hg : w1.grownBy w2 (some r)) (hB : B ≤ w1.heap.size) (hr : B ≤ r) : Below B w w2 :=
  h.grown hg hB fun k hk => by cases hk; exact hr
theorem room16 {α : Type} {l : List α} {k : Nat} {acc : List ByteArray} (h : k < l.length) (hr : l.length * 16 ≤ 140737488351232) (ha : acc.length ≤ k) : (acc.length + 1) * 16 ≤ 140737488351232 ∧ acc.length + 1 ≤ 140737488351232 := by omega

set_option maxHeartbeats 800000 in
theorem once_calls (A : Option Addr) (c : Nat) (l : List ByteArray) (w : World) (hl : Rd kS w A c l) :
    Calls Try.prog 37 #[.slice A l.length c] w fun e w' => ∃ v, e = .returned v ∧ Own kS w' w.heap.size v (once l) ∧ Below w.heap.size w w' := by
  have h1 := hl.len (by decide)
  have hroom : l.length * 16 ≤ 140737488351232 := hl.room
  have HL := Lib.hid hl
  have HRoom := Lib.hid hroom
  clear hl hroom
  have hmm := @run_makeMap Try.prog
  go_enter Try.func37, Try.ntmps37
  go_wp2
  go_loopw [3, 10] (fun v i wr => ∃ k : Nat, k ≤ l.length ∧ i = .int .i64 k ∧ Below w.heap.size w wr ∧ Own kS wr (w.heap.size + 1) v (once (l.take k)) ∧ MapAt kkS (fun b => .bool b) wr w.heap.size ((once (l.take k)).map (fun x => (x, true)))) (fun _ i _ => l.length - (intOf i).toNat)
  case atStart => exact ⟨0, Nat.zero_le _, rfl, (Below.refl _ _).alloc (Nat.le_refl _) _, Own.nil kS _ _, MapAt.made kkS _ w⟩
  case round =>
    obtain ⟨k, hk, rfl, hb, ho, hm⟩ := hrel
    have HB := Lib.hid hb
    have HO := Lib.hid ho
    have HM := Lib.hid hm
    have hml := hm.lt
    clear hb ho hm
    by_cases hlt : k < l.length
    · obtain ⟨a, rfl, a0⟩ := (HL.out.later HB.out).str k hlt
      have hok : Hid (isStr l[k]) := HL.out.ok l[k] (List.getElem_mem hlt)
      have HE := Lib.hid (once_succ hlt)
      have HR := Lib.hid (room16 hlt HRoom.out (once_len k l))
      generalize l[k] = x at *
      generalize once (l.take k) = acc at *
      have HG : Hid (∀ b, has acc x = b → ((mget (acc.map (fun x => (x, true))) x).getD false) = b) := fun b h => by rw [met_get, h]; cases b <;> rfl
      have HP := Lib.hid (met_put acc x)
      have HMR : Hid ((acc.map (fun x => (x, true))).length + 1 ≤ 140737488351232) := by show _ ≤ _; rw [List.length_map]; exact HR.out.2
      cases hh : has acc x with
      | true =>
        have HS : Hid (onceStep acc x = acc) := by show _ = _; unfold onceStep; rw [hh]; rfl
        have HG2 := Lib.hid (HG.out true hh)
        clear hh HG
        go_wp2_with (first
          | (at_lookup; refine wp_lookup (z := false) HM.out Try.underlying68 Try.zeroValue4 x hok.out rfl _ _ rfl rfl rfl ?_; rw [HG2.out])
          | (at_mapUpdate; refine wp_update HM.out Try.underlying68 x hok.out true HMR.out rfl _ _ _ rfl rfl rfl rfl ?_; intro w1 hm1 hg1 hs1))
        go_roundw
        case rel => exact ⟨k + 1, by omega, by go_num, below_map HB.out hg1 HB.out.size (Nat.le_refl _), by rw [HE.out, HS.out]; exact HO.out.kept hg1 (.inr (fun e => by have := (HO.out.lt _ e).1; omega)), by rw [HE.out, ← HP.out]; exact hm1⟩
        case measure => simp [intOf]; omega
      | false =>
        have HS : Hid (onceStep acc x = acc ++ [x]) := by show _ = _; unfold onceStep; rw [hh]; rfl
        have HG2 := Lib.hid (HG.out false hh)
        have hrow : some w.heap.size ≠ u3.ownBlock := fun e => by have := (HO.out.lt _ e.symm).1; omega
        clear hh HG
        go_wp2_with (first
          | (at_lookup; refine wp_lookup (z := false) HM.out Try.underlying68 Try.zeroValue4 x hok.out rfl _ _ rfl rfl rfl ?_; rw [HG2.out])
          | (at_builtin; refine wp_append1 kS_elem (w.heap.size + 1) _ _ HO.out x hok.out rfl HR.out.1 rfl _ _ rfl rfl rfl (by simp) (by omega) ?_; intro v' w1 ho' hg' hat hsz'; have HM1 := Lib.hid (HM.out.kept hg' hrow))
          | (at_mapUpdate; refine wp_update HM1.out Try.underlying68 x hok.out true HMR.out rfl _ _ _ rfl rfl rfl rfl ?_; intro w2 hm1 hg1 hs1))
        have HB1 := Lib.hid (Own.below HB.out HO.out hg' HB.out.size (Nat.le_succ _))
        go_roundw
        case rel => exact ⟨k + 1, by omega, by go_num, below_map HB1.out hg1 HB1.out.size (Nat.le_refl _), by rw [HE.out, HS.out]; exact ho'.kept hg1 (.inr (fun e => by have := (ho'.lt _ e).1; omega)), by rw [HE.out, ← HP.out]; exact hm1⟩
        case measure => simp [intOf]; omega
    · have HJ := Lib.hid (take_all (l := l) (k := k) (by omega))
      rw [HJ.out] at HO
      go_wp2
      go_returns
      exact ⟨_, rfl, HO.out.mono (Nat.le_succ _), HB.out⟩

set_option maxHeartbeats 800000 in
theorem refOnce_calls (A : Option Addr) (c : Nat) (l : List ByteArray) (w : World) (hl : Rd kS w A c l) :
    Calls Try.prog 30 #[.slice A l.length c] w fun e w' => ∃ v, e = .returned v ∧ Own kS w' w.heap.size v (once l) ∧ Below w.heap.size w w' := by
  have h1 := hl.len (by decide)
  have hroom : l.length * 16 ≤ 140737488351232 := hl.room
  have HL := Lib.hid hl
  have HRoom := Lib.hid hroom
  clear hl hroom
  go_enter Try.func30, Try.ntmps30
  go_wp2
  go_loopw [3, 4] (fun v i wr => ∃ k : Nat, k ≤ l.length ∧ i = .int .i64 k ∧ Below w.heap.size w wr ∧ Own kS wr w.heap.size v (once (l.take k))) (fun _ i _ => l.length - (intOf i).toNat)
  case atStart => exact ⟨0, Nat.zero_le _, rfl, (Below.refl _ _).alloc (Nat.le_refl _) _, Own.empty kS w (Nat.le_refl _)⟩
  case round =>
    obtain ⟨k, hk, rfl, hb, ho⟩ := hrel
    have HB := Lib.hid hb
    have HO := Lib.hid ho
    have hsz := hb.size
    clear hb ho
    by_cases hlt : k < l.length
    · obtain ⟨a, rfl, a0⟩ := (HL.out.later HB.out).str k hlt
      have hok : Hid (isStr l[k]) := HL.out.ok l[k] (List.getElem_mem hlt)
      have HE := Lib.hid (once_succ hlt)
      have HR := Lib.hid (room16 hlt HRoom.out (once_len k l))
      have hoL := Lib.hid (once_len k l)
      generalize l[k] = x at *
      generalize once (l.take k) = acc at *
      obtain ⟨A3, c3, rfl, hr3⟩ := HO.out.reads (show acc.length * 16 ≤ _ by have := HR.out.1; omega)
      have HR3 := Lib.hid hr3
      clear hr3
      cases hh : acc.any (fun y => decide (y = x)) with
      | true =>
        have HS : Hid (onceStep acc x = acc) := by show _ = _; unfold onceStep has; rw [hh]; rfl
        have hc := Lib.hid (textIn_calls 46 (.inl rfl) A3 c3 acc x wr HR3.out)
        rw [hh] at hc
        go_wp2_with (go_at_call 46; refine hc.out.mono ?_; rintro e w1 ⟨rfl, hb1⟩)
        go_roundw
        case rel => exact ⟨k + 1, by omega, by go_num, below_then HB.out hb1 HB.out.size, by rw [HE.out, HS.out]; exact HO.out.later hb1⟩
        case measure => simp [intOf]; omega
      | false =>
        have HS : Hid (onceStep acc x = acc ++ [x]) := by show _ = _; unfold onceStep has; rw [hh]; rfl
        have hc := Lib.hid (textIn_calls 46 (.inl rfl) A3 c3 acc x wr HR3.out)
        rw [hh] at hc
        go_wp2_with (first
          | (go_at_call 46; refine hc.out.mono ?_; rintro e w1 ⟨rfl, hb1⟩; have HB1 := Lib.hid (below_then HB.out hb1 HB.out.size); have HO1 := Lib.hid (HO.out.later hb1); have a1 := cell_later hb1 a0; have hsz1 := hb1.size; clear hb1)
          | (at_builtin; refine wp_append1 kS_elem w.heap.size _ _ HO1.out x hok.out rfl HR.out.1 rfl _ _ rfl rfl rfl (by simp) (by omega) ?_; intro v' w2 ho' hg' hat hsz'))
        go_roundw
        case rel => exact ⟨k + 1, by omega, by go_num, Own.below HB1.out HO1.out hg' HB1.out.size (Nat.le_refl _), by rw [HE.out, HS.out]; exact ho'⟩
        case measure => simp [intOf]; omega
    · have HJ := Lib.hid (take_all (l := l) (k := k) (by omega))
      rw [HJ.out] at HO
      go_wp2
      go_returns
      exact ⟨_, rfl, HO.out, HB.out⟩
end Go.Proofs.Ytemnakfjmikcdaa
