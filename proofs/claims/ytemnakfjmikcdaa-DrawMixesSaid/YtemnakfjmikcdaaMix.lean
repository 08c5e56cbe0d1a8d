/- Layer 26 (draw): draw.Mix. -/
import Derived.Test.YtemnakfjmikcdaaSample
set_option linter.unusedVariables false
set_option linter.unusedSimpArgs false
namespace Go.Proofs.Ytemnakfjmikcdaa
open Go.RowKit

/-! ### each so-manyth from others -/
def mixL (every : Int) : Nat → Nat → List ByteArray → List ByteArray → List ByteArray → List ByteArray
  | 0, _, _, _, out => out
  | n + 1, p, L, D, out =>
    if decide (1 ≤ every) && (decide ((p : Int) % every = 0) && !D.isEmpty) then mixL every n (p + 1) L D.tail (out ++ D.take 1)
    else mixL every n (p + 1) L.tail D (out ++ L.take 1)
def fresh (seed : Int) (main other : List ByteArray) : List ByteArray := (sample seed other.length other).filter fun s => !has (once main) s
def mix (seed : Int) (main other : List ByteArray) (every : Int) : List ByteArray := mixL every (once main).length 1 (once main) (fresh seed main other) []

theorem mixL_other {every : Int} {n p : Nat} {L D out : List ByteArray} {z : ByteArray} (h1 : 1 ≤ every) (h2 : ((p : Int) % every == 0) = true) : mixL every (n + 1) p L (z :: D) out = mixL every n (p + 1) L D (out ++ [z]) := by
  rw [mixL, if_pos (by simpa [h1] using h2)]; rfl
theorem mixL_own {every : Int} {n p : Nat} {L D out : List ByteArray} {y : ByteArray} (h : (decide (1 ≤ every) && (((p : Int) % every == 0) && !D.isEmpty)) = false) : mixL every (n + 1) p (y :: L) D out = mixL every n (p + 1) L D (out ++ [y]) := by
  rw [mixL, if_neg (by simpa using h)]; rfl

/-! ### the closure -/
theorem containsS_has (l : List ByteArray) (x : ByteArray) : Lib.containsS l x = has l x := by
  rw [Bool.eq_iff_iff, Lib.containsS_iff, has_iff]

theorem mixIn_calls (b : Nat) (v : Value) (l : List ByteArray) (base : Nat) (W : World) (x : ByteArray) (ho : Own kS W base v l) (hb : W.cell? ⟨b, 0, none⟩ = some v) :
    Calls Try.prog 44 #[.string x, .pointer (some ⟨b, 0, none⟩)] W fun e w' => e = .returned (.bool (has l x)) ∧ w' = W := by
  rcases ho.forms with ⟨rfl, rfl⟩ | ⟨g, cap, rfl, hcap, hcm⟩
  · go_enter Try.func44, Try.ntmps44
    go_wp2_with (go_at_call 45; refine (Try.slices_Contains_string_empty _ _ _ _).mono ?_; rintro e w' ⟨rfl, rfl⟩)
    go_returns
    exact ⟨rfl, rfl⟩
  · have hc : Hid (∀ j, j < l.length → W.cell? ⟨g, 0 + j, none⟩ = some (.string (l.getD j ByteArray.empty))) := by
      intro j hj
      have := ho.row.cells (g := g) rfl j (.string l[j]) (by
        have := flatMap_get kS l j hj 0 (.string l[j]) rfl
        simpa [kS] using this)
      rw [add_off] at this
      rw [this]
      simp [List.getD_eq_getElem?_getD, hj]
    have hcm2 : l.length ≤ 9223372036854775807 := by unfold maxLen at hcm; omega
    go_enter Try.func44, Try.ntmps44
    go_wp2_with (go_at_call 45; refine (Try.slices_Contains_string g 0 _ _ l _ _ (Nat.le_refl _) hcm2 hc.out).mono ?_; rintro e w' ⟨rfl, rfl⟩)
    go_returns
    exact ⟨ret_bool (containsS_has l x), rfl⟩


/-! ### what is deleted -/
theorem sort_none (enc : Txt → Value) (w : World) (g q : Nat) (d : Array Txt) : sortWorld enc w g 0 q d #[] = Sort.putRow enc (Sort.ahead w q) g 0 d := by
  unfold sortWorld Sort.grow
  rw [Array.append_empty]
theorem sort_grown (enc : Txt → Value) (w : World) (g m : Nat) (d : Array Txt) (os : Array Obj) : w.grownBy (sortWorld enc w g 0 m d os) (some g) :=
  ⟨rfl, rfl, rfl, sort_size enc w g 0 m d os, fun k hk hne => sort_heap enc w g 0 m d os hk (fun e => hne (by rw [e]))⟩
theorem Own.keep {w : World} {base g cap : Nat} {l : List ByteArray} (h : Own kS w base (.slice (some ⟨g, 0, none⟩) l.length cap) l) (kept : List ByteArray) (hk : ∀ x ∈ kept, isStr x) (hle : kept.length ≤ l.length) (d : Array Txt) (hd : d.size = l.length) (hd2 : d.toList.map (·.1) = kept ++ List.replicate (l.length - kept.length) ⟨#[]⟩) (q : Nat) :
    Own kS (Sort.putRow encT (Sort.ahead w q) g 0 d) base (.slice (some ⟨g, 0, none⟩) kept.length cap) kept := by
  have h1 := h.put d hd q #[]
  rw [sort_none, hd2] at h1
  have hl : (kept ++ List.replicate (l.length - kept.length) (⟨#[]⟩ : ByteArray)).length = l.length := by rw [List.length_append, List.length_replicate]; omega
  have h1' : Own kS (Sort.putRow encT (Sort.ahead w q) g 0 d) base (.slice (some ⟨g, 0, none⟩) (kept ++ List.replicate (l.length - kept.length) (⟨#[]⟩ : ByteArray)).length cap) (kept ++ List.replicate (l.length - kept.length) (⟨#[]⟩ : ByteArray)) := by rw [hl]; exact h1
  have h2 := h1'.take kept.length (by rw [hl]; exact hle)
  rwa [List.take_left'] at h2
  rfl
theorem filter_txt (p : ByteArray → Bool) (d : List Txt) : (d.filter fun x => !p x.1).map (·.1) = (d.map (·.1)).filter fun s => !p s := by
  rw [List.filter_map]; rfl

set_option maxHeartbeats 400000 in
theorem delete_calls (b : Nat) (v vl : Value) (l left : List ByteArray) (base0 base : Nat) (w : World) (hown : Own kS w base v l) (hleft : Own kS w base0 vl left) (hbl : ∀ k, vl.ownBlock = some k → k < base) (hb : w.cell? ⟨b, 0, none⟩ = some vl) (hbb : b < base) (hroom : l.length ≤ 140737488351232) (hbase : base ≤ w.heap.size) :
    Calls Try.prog 43 #[v, .func (.func 44) #[] #[.pointer (some ⟨b, 0, none⟩)]] w fun e w' => ∃ v', e = .returned v' ∧ Own kS w' base v' (l.filter fun s => !has left s) ∧ Below base w w' := by
  rcases hown.row.2 with ⟨rfl, e2⟩ | ⟨g, cap, cur, rfl, hg, hh, hn, hm, _⟩
  · have : l = [] := List.eq_nil_of_length_eq_zero e2
    subst this
    go_enter Try.func43, Try.ntmps43
    go_wp2_with (go_at_call 53; refine (Try.slices_IndexFunc_empty (α := Txt) _ _ _ _).mono ?_; rintro e w' ⟨rfl, rfl⟩)
    go_returns
    exact ⟨_, rfl, Own.nil kS _ _, Below.refl _ _⟩
  · obtain ⟨d, hd, hds⟩ := txts_of hown.ok
    have hgl : g < w.heap.size := (Array.getElem?_eq_some_iff.1 hh).1
    have hbl2 := World.block_lt_of_cell? w _ hb
    have hpl : ∀ W : World, Below w.heap.size w W → ∀ x : Txt, FnGives Try.prog 44 #[.pointer (some ⟨b, 0, none⟩)] #[encT x] (.bool (has left x.1)) W := by
      intro W hW x
      refine (mixIn_calls b vl left base0 W x.1 (hleft.later hW) (cell_later hW hb)).mono ?_
      rintro e w' ⟨rfl, rfl⟩
      exact ⟨rfl, 0, rfl⟩
    have hov : PredOver Try.prog 44 #[.pointer (some ⟨b, 0, none⟩)] encT (fun x : Txt => has left x.1) g 0 d.size w := by
      intro m os dk x hdk
      have hkeep : ∀ k, k < base → k < w.heap.size → (sortWorld encT w g 0 m dk os).heap[k]? = w.heap[k]? := fun k hk hk2 => sort_heap encT w g 0 m dk os hk2 (by omega)
      refine (mixIn_calls b vl left base0 _ x.1 (hleft.kept (sort_grown encT w g m dk os) ?_) ?_).mono ?_
      · cases hv : vl.ownBlock with
        | none => exact .inl rfl
        | some k => exact .inr (fun e => by injection e with e; have := hbl k hv; omega)
      · rw [World.cell?_of_block (hkeep b hbb hbl2)]; exact hb
      · rintro e w' ⟨rfl, rfl⟩
        exact ⟨rfl, 0, rfl⟩
    have hcap : d.size ≤ cap := by omega
    have hsz : d.size ≤ 9223372036854775807 := by omega
    have hH := hown.held d hd
    have h := Try.slices_DeleteFunc encT encT_one (fun x : Txt => has left x.1) 44 #[.pointer (some ⟨b, 0, none⟩)] (enters_of Try.func44 (by kernel_rfl) rfl) (⟨⟨#[]⟩, by unfold isStr; decide⟩ : Txt) (fun w => by kernel_rfl) g 0 cap d w (fun W x hW => hpl W hW x) hov hH hsz hcap
    rw [hds] at h
    refine h.mono ?_
    rintro e w' ⟨rfl, q, rfl⟩
    have hlenf : (d.toList.filter fun x => !has left x.1).length = (l.filter fun s => !has left s).length := by
      rw [← hd, ← filter_txt, List.length_map]
    have hle : (l.filter fun s => !has left s).length ≤ l.length := List.length_filter_le _ _
    refine ⟨_, rfl, ?_, ?_⟩
    · rw [hlenf]
      refine hown.keep (l.filter fun s => !has left s) (fun x hx => hown.ok x (List.mem_filter.1 hx).1) hle _ ?_ ?_ q
      · simp only [List.size_toArray, List.length_append, List.length_replicate]; omega
      · rw [List.toList_toArray, List.map_append, filter_txt, hd, List.map_replicate, ← hlenf]
    · rw [← sort_none]
      exact sort_below encT w g 0 q _ #[] hg hbase

/-! ### Mix -/
/-- A row that may be cut from its front: where it lies. -/
def Lies (A : Option Addr) (base g : Nat) : Prop := ∀ a, A = some a → a.block < base ∧ a.block ≠ g ∧ a.spot = none
theorem heap_through {w0 w2 : World} {o : Obj} {k : Nat} {row : Option Nat} (h : (w0.alloc o).drew.grownBy w2 row) (hl : k < w0.heap.size) (hne : some k ≠ row) : w2.heap[k]? = w0.heap[k]? := by
  rw [h.block k (by show _ < (w0.alloc o).heap.size; rw [World.size_alloc]; omega) hne]
  exact Below.heap_alloc w0 o k hl
theorem below_set {B : Nat} {w w1 : World} {g : Nat} (h : Below B w w1) (hg : B ≤ g) (j : Nat) (v : Value) : Below B w (w1.setCell ⟨g, j, none⟩ v) :=
  ⟨h.os, h.tape, h.output, by rw [World.size_setCell]; exact h.size, fun k hk => (Below.heap_setCell w1 _ v k (by show k ≠ g; omega)).trans (h.block k hk)⟩
theorem lies_of {w : World} {base B g c : Nat} {A : Option Addr} {l : List ByteArray} (h : Own kS w base (.slice A l.length c) l) (hB : w.heap.size ≤ B) (hg : w.heap.size ≤ g ∨ g < base) : Lies A B g := by
  intro a e
  subst e
  rcases h.row.2 with ⟨e1, _⟩ | ⟨b, cap, cur, e1, hb, hh, _⟩
  · injection e1 with e1
    cases e1
  · injection e1 with e1
    injection e1 with e1
    subst e1
    have := (Array.getElem?_eq_some_iff.1 hh).1
    exact ⟨by show b < B; omega, by show b ≠ g; omega, rfl⟩
theorem Rd.set {α : Type} {K : EK α} {w : World} {A : Option Addr} {c : Nat} {l : List α} (h : Rd K w A c l) {p : Addr} (hp : ∀ a, A = some a → a.block ≠ p.block) (v : Value) : Rd K (w.setCell p v) A c l :=
  h.same fun a e => Below.heap_setCell w p v a.block (hp a e)
theorem Own.set {α : Type} {K : EK α} {w : World} {base : Nat} {v : Value} {l : List α} (h : Own K w base v l) {p : Addr} (hp : ∀ k, v.ownBlock = some k → k ≠ p.block) (u : Value) : Own K (w.setCell p u) base v l := by
  refine h.kept (row := some p.block) ⟨rfl, rfl, rfl, by simp [World.setCell], fun k _ hk => Below.heap_setCell w p u k (fun e => hk (by rw [e]))⟩ ?_
  cases hv : v.ownBlock with
  | none => exact .inl rfl
  | some k => exact .inr (fun e => hp k hv (by injection e))
theorem Rd.cut {w : World} {b o c : Nat} {y : ByteArray} {l : List ByteArray} (h : Rd kS w (some ⟨b, o, none⟩) c (y :: l)) (hc : c ≠ 1) : Rd kS w (some ⟨b, o + 1, none⟩) (c - 1) l := by
  have hle := h.le
  simp at hle
  refine ⟨by omega, ?_, fun x hx => h.ok x (List.mem_cons_of_mem _ hx), fun i hi => ⟨_, rfl, fun j u hj => ?_⟩⟩
  · have := h.room
    rw [List.length_cons] at this
    exact Nat.le_trans (Nat.mul_le_mul_right _ (Nat.le_succ _)) this
  · obtain ⟨a, e, hcell⟩ := h.cell (i + 1) (by simpa using hi)
    cases e
    have := hcell j u (by simpa using hj)
    rw [add_off] at this ⊢
    have e2 : o + ((i + 1) * kS.sz + j) = o + 1 + (i * kS.sz + j) := by show o + ((i + 1) * 1 + j) = o + 1 + (i * 1 + j); omega
    rw [e2] at this
    exact this
theorem Rd.end_ {w : World} {A : Option Addr} {c : Nat} {y : ByteArray} {l : List ByteArray} (h : Rd kS w A c (y :: l)) (hc : c = 1) : l = [] := by
  have hle := h.le
  rw [hc, List.length_cons] at hle
  exact List.eq_nil_of_length_eq_zero (by omega)

set_option maxHeartbeats 1600000 in
set_option maxRecDepth 100000 in
theorem mix_calls (seed : Int) (A1 : Option Addr) (c1 : Nat) (main : List ByteArray) (A2 : Option Addr) (c2 : Nat) (other : List ByteArray) (every : Int) (w : World) (hm : Rd kS w A1 c1 main) (ho : Rd kS w A2 c2 other) (he : isI64 every) :
    Calls Try.prog 28 #[.int .u64 seed, .slice A1 main.length c1, .slice A2 other.length c2, .int .i64 every] w fun e w' => ∃ v, e = .returned v ∧ Own kS w' w.heap.size v (mix seed main other every) ∧ Below w.heap.size w w' := by
  have hmroom : main.length * 16 ≤ 140737488351232 := hm.room
  have horoom : other.length * 16 ≤ 140737488351232 := ho.room
  have hol := once_le main
  have hsl : (sample seed other.length other).length ≤ other.length := by
    unfold sample
    rw [List.length_take]
    omega
  unfold isI64 at he
  have HM := Lib.hid hm
  have HO := Lib.hid ho
  clear hm ho
  go_enter Try.func28, Try.ntmps28
  go_wp2_with (first
    | (go_at_call 37; refine (once_calls _ _ _ _ HM.out).mono ?_; rintro e w1 ⟨v1, rfl, ho1, hb1⟩; obtain ⟨A3, c3, rfl, hr1⟩ := ho1.reads (show (once main).length * 16 ≤ 140737488351232 by omega); have HO1 := Lib.hid ho1; have HB1 := Lib.hid hb1; have HR1 := Lib.hid hr1; clear ho1 hb1 hr1; have HA := Lib.hid ((Below.refl w1.heap.size w1).alloc (Nat.le_refl _) (.cells #[.slice A3 (once main).length c3] 37)))
    | (go_at_call 25; refine (sample_calls seed _ _ _ other _ (by unfold isI64; omega) ((HO.out.later HB1.out).later HA.out)).mono ?_; rintro e w2 ⟨v2, rfl, ho2, hb2⟩; have HO2 := Lib.hid ho2; have HB2 := Lib.hid hb2; clear ho2 hb2)
    | (go_at_call 43; refine (delete_calls w1.heap.size v2 (.slice A3 (once main).length c3) (sample seed other.length other) (once main) w.heap.size (w1.alloc (.cells #[.slice A3 (once main).length c3] 37)).heap.size w2 HO2.out ((HO1.out.later HA.out).later HB2.out) (fun k hk => by have := (HO1.out.lt k hk).2; rw [World.size_alloc]; omega) (cell_later HB2.out (cell_new #[.slice A3 (once main).length c3] 37 (k := 0) (w := w1) rfl rfl)) (by rw [World.size_alloc]; omega) (by omega) HB2.out.size).mono ?_; rintro e w3 ⟨v3, rfl, ho3, hb3⟩; obtain ⟨A4, c4, rfl, hr3⟩ := ho3.reads (show ((sample seed other.length other).filter fun s => !has (once main) s).length * 16 ≤ 140737488351232 by have := List.length_filter_le (fun s => !has (once main) s) (sample seed other.length other); omega); have HO3 := Lib.hid ho3; have HB3 := Lib.hid hb3; have HR3 := Lib.hid hr3; clear ho3 hb3 hr3))
  have hs1 := HB1.out.size
  have hs2 := HB2.out.size
  have hs3 := HB3.out.size
  rw [World.size_alloc] at hs2
  have HBw : Hid (Below w.heap.size w w3) := below_then (below_then HB1.out HA.out HB1.out.size) (HB2.out.trans HB3.out) (by rw [World.size_alloc]; omega)
  have HB4 := Lib.hid (HB2.out.trans HB3.out)
  have hb9 : w3.heap[w1.heap.size]? = some (.cells #[.slice A3 (once main).length c3] 37 (0, 0)) := (HB4.out.block w1.heap.size (by rw [World.size_alloc]; omega)).trans (heap_alloc_new w1 _)
  have hc9 : w3.cell? ⟨w1.heap.size, 0, none⟩ = some (.slice A3 (once main).length c3) := by rw [cell_of_row _ _ _ _ _ _ hb9]; rfl
  have hf9 : w3.frozen? ⟨w1.heap.size, 0, none⟩ = false := by simp [World.frozen?, hb9]
  have HRL : Hid (Rd kS w3 A3 c3 (once main)) := (HR1.out.later HA.out).later HB4.out
  have HLL : Hid (Lies A3 w3.heap.size w1.heap.size) := lies_of HO1.out (by omega) (.inl (Nat.le_refl _))
  have HLD : Hid (Lies A4 w3.heap.size w1.heap.size) := lies_of HO3.out (Nat.le_refl _) (.inr (by rw [World.size_alloc]; omega))
  have HD : Hid ((sample seed other.length other).filter (fun s => !has (once main) s) = fresh seed main other) := rfl
  rw [HD.out] at HR3
  rw [HD.out]
  have HX : Hid (mix seed main other every = mixL every ((once main).length - 0) 1 (once main) (fresh seed main other) []) := rfl
  clear HO3 HD HO1 HB1 HB2 HB3 HB4 HA HR1 HO2 hsl hb9
  generalize once main = left at *
  generalize fresh seed main other = drawn at *
  go_quiet (fail)
  go_wp2
  have hg9 : w1.heap.size < w3.heap.size := by omega
  generalize w1.heap.size = g9 at *
  go_loopw [10, 11, 12] (fun vd vo vp wr => ∃ (p : Nat) (L D O : List ByteArray) (Al Ad : Option Addr) (cl cd : Nat), p ≤ left.length ∧ vp = .int .i64 ((p : Int) + 1) ∧ vd = .slice Ad D.length cd ∧ Rd kS wr Ad cd D ∧ wr.cell? ⟨g9, 0, none⟩ = some (.slice Al L.length cl) ∧ wr.frozen? ⟨g9, 0, none⟩ = false ∧ Rd kS wr Al cl L ∧ left.length - p ≤ L.length ∧ O.length ≤ p ∧ Own kS wr w3.heap.size vo O ∧ Below w.heap.size w wr ∧ w3.heap.size ≤ wr.heap.size ∧ Hid (Lies Al w3.heap.size g9) ∧ Hid (Lies Ad w3.heap.size g9) ∧ Hid (mix seed main other every = mixL every (left.length - p) (p + 1) L D O)) (fun _ _ vp _ => left.length + 1 - (intOf vp).toNat)
  case atStart => exact ⟨0, left, drawn, [], A3, A4, c3, c4, Nat.zero_le _, rfl, rfl, HR3.out.drewN _, hc9, hf9, HRL.out.drewN _, by omega, Nat.le_refl _, Own.nil kS _ _, below_drewN HBw.out _, Nat.le_refl _, HLL, HLD, HX⟩
  case round =>
    obtain ⟨p, L, D, O, Al, Ad, cl, cd, hp, rfl, rfl, hrd, hcl, hfl, hrl, hpl, hol2, ho, hb, hsz, hll, hld, hx⟩ := hrel
    have HRD := Lib.hid hrd
    have HRL2 := Lib.hid hrl
    have HO := Lib.hid ho
    have HB := Lib.hid hb
    have HP : Hid (((p : Int) + 1) % every = ((p + 1 : Nat) : Int) % every) := rfl
    clear hrd hrl ho hb HX HRL HR3 HLL HLD hc9 hf9 HBw
    by_cases hlt : p < left.length
    · obtain ⟨m, hm⟩ : ∃ m, left.length - p = m + 1 := ⟨left.length - p - 1, by omega⟩
      have HN : Hid (left.length - (p + 1) = m) := by show _ = _; omega
      rw [hm] at hx
      have HMM := Lib.hid hm
      clear hm
      have hroom : (O.length + 1) * 16 ≤ 140737488351232 := by omega
      have HROOM := Lib.hid hroom
      have hbase : w3.heap.size ≤ wr.heap.size := hsz
      have hgl : g9 < wr.heap.size := by omega
      have hp0 : (0 : Int) ≤ (p : Int) + 1 := by omega
      have hNE : Hid (some g9 ≠ u11.ownBlock) := fun e => by have := (HO.out.lt _ e.symm).1; omega
      by_cases hother : (decide (1 ≤ every) && ((((p + 1 : Nat) : Int) % every == 0) && !D.isEmpty)) = true
      · -- one of the others
        simp only [Bool.and_eq_true, decide_eq_true_eq, Bool.not_eq_true', List.isEmpty_eq_false_iff] at hother
        obtain ⟨h1, h2, h3⟩ := hother
        obtain ⟨z, D', rfl⟩ := List.exists_cons_of_ne_nil h3
        have h2' : (((p : Int) + 1) % every == 0) = true := h2
        have HXN : Hid (mix seed main other every = mixL every m (p + 2) L D' (O ++ [z])) := by show _ = _; rw [hx.out, mixL_other h1 h2]
        have hok : Hid (isStr z) := HRD.out.ok z (by simp)
        obtain ⟨a, rfl, d0⟩ := HRD.out.str 0 (by simp)
        obtain ⟨b, o, sp⟩ := a
        have hsp := (hld.out _ rfl).2.2
        have hbs := (hld.out _ rfl).1
        have hbn := (hld.out _ rfl).2.1
        simp only at hsp hbs hbn
        subst hsp
        rw [add_off, Nat.add_zero] at d0
        rw [List.getElem_cons_zero] at d0
        have h1' : decide (1 ≤ every) = true := decide_eq_true h1
        have hcd : D'.length + 1 ≤ cd := by have := HRD.out.le; simpa using this
        have hd0 : decide ((0 : Int) < ((D'.length + 1 : Nat) : Int)) = true := decide_eq_true (by omega)
        clear h3 h2 hx
        have e0 : (wr.drew).cell? ⟨b, o, none⟩ = some (.string z) := d0
        have HOd : Hid (Own kS (wr.alloc (.cells #[.string z] 9)).drew w3.heap.size u11 O) := (HO.out.alloc _).drew
        have hbase2 : w3.heap.size ≤ (wr.alloc (.cells #[.string z] 9)).drew.heap.size := by show _ ≤ (wr.alloc _).heap.size; rw [World.size_alloc]; omega
        have HBd : Hid (Below wr.heap.size wr (wr.alloc (.cells #[.string z] 9)).drew) := ((Below.refl _ wr).alloc (Nat.le_refl _) _).drew
        have hd1 : (1 : Int) ≤ (D'.length : Int) + 1 := by omega
        by_cases hc1 : cd = 1
        all_goals
          go_wp2
          go_region_law
            ((refine step_append1 kS_elem w3.heap.size u11 O HOd.out z hok.out (heap_alloc_new _ _) (by rfl) HROOM.out (by rfl) _ _ (by rfl) (by rfl) (by rfl) hbase2 rfl ?_; intro v5 w5 ho5 hg5 hat5))
          all_goals go_wp2
          have HC5 := Lib.hid (cell_through hg5 hNE.out hcl)
          have HF5 := Lib.hid (free_through hg5 hNE.out hfl hgl)
          have HL5 : Hid (Rd kS w5 Al cl L) := HRL2.out.same fun a e => heap_through hg5 (by have := (hll.out a e).1; omega) (fun e2 => by have := (HO.out.lt _ e2.symm).1; have := (hll.out a e).1; omega)
          have HB5 : Hid (Below w.heap.size w w5) := Own.below (below_then HB.out HBd.out HB.out.size) HOd.out hg5 (by omega) (by omega)
          have hs5 : w3.heap.size ≤ w5.heap.size := Nat.le_trans hbase2 hg5.size
          have HXM : Hid (mix seed main other every = mixL every (left.length - (p + 1)) (p + 1 + 1) L D' (O ++ [z])) := by show _ = _; rw [HN.out]; exact HXN.out
          have hl5 : (O ++ [z]).length ≤ p + 1 := by rw [List.length_append, List.length_singleton]; omega
          have HP2 := HMM.out
          have ho5' := Lib.hid ho5
          have HG5 := Lib.hid hg5
          clear ho5 hg5 hat5
          go_roundw
          case measure => simp [intOf]; omega
        case rel =>
          subst hc1
          exact ⟨p + 1, L, D', O ++ [z], Al, _, cl, _, by omega, by go_num, rfl, by rw [HRD.out.end_ rfl]; exact Rd.nil kS _ _ _ (Nat.zero_le _), HC5.out, HF5.out, HL5.out, by omega, hl5, ho5'.out, HB5.out, hs5, hll, hld, HXM⟩
        case rel =>
          exact ⟨p + 1, L, D', O ++ [z], Al, _, cl, _, by omega, by go_num, rfl, (HRD.out.cut hc1).same (fun a e => by cases e; exact heap_through (k := b) HG5.out (by omega) (fun e2 => by have := (HO.out.lt b e2.symm).1; omega)), HC5.out, HF5.out, HL5.out, by omega, hl5, ho5'.out, HB5.out, hs5, hll, fun a e => by cases e; exact ⟨hbs, hbn, rfl⟩, HXM⟩
      · -- one of main's
        have hother' : (decide (1 ≤ every) && ((((p + 1 : Nat) : Int) % every == 0) && !D.isEmpty)) = false := by simpa using hother
        obtain ⟨y, L', rfl⟩ : ∃ y L', L = y :: L' := by
          cases L with
          | nil => simp at hpl; omega
          | cons y L' => exact ⟨y, L', rfl⟩
        have HXN : Hid (mix seed main other every = mixL every m (p + 2) L' D (O ++ [y])) := by show _ = _; rw [hx.out, mixL_own hother']
        have hok : Hid (isStr y) := HRL2.out.ok y (by simp)
        obtain ⟨a, rfl, d0⟩ := HRL2.out.str 0 (by simp)
        obtain ⟨b, o, sp⟩ := a
        have hsp := (hll.out _ rfl).2.2
        have hbs := (hll.out _ rfl).1
        have hbn := (hll.out _ rfl).2.1
        simp only at hsp hbs hbn
        subst hsp
        rw [add_off, Nat.add_zero] at d0
        rw [List.getElem_cons_zero] at d0
        have hcd : L'.length + 1 ≤ cl := by have := HRL2.out.le; simpa using this
        have hd1 : (1 : Int) ≤ (L'.length : Int) + 1 := by omega
        have hd2 : decide ((0 : Int) < ((L'.length + 1 : Nat) : Int)) = true := decide_eq_true (by omega)
        have HOd : Hid (Own kS (wr.alloc (.cells #[.string y] 9)).drew w3.heap.size u11 O) := (HO.out.alloc _).drew
        have hbase2 : w3.heap.size ≤ (wr.alloc (.cells #[.string y] 9)).drew.heap.size := by show _ ≤ (wr.alloc _).heap.size; rw [World.size_alloc]; omega
        have HBd : Hid (Below wr.heap.size wr (wr.alloc (.cells #[.string y] 9)).drew) := ((Below.refl _ wr).alloc (Nat.le_refl _) _).drew
        have hways : (decide (1 ≤ every) = false) ∨ (decide (1 ≤ every) = true ∧ 1 ≤ every ∧ (((p : Int) + 1) % every == 0) = false) ∨ (decide (1 ≤ every) = true ∧ 1 ≤ every ∧ (((p : Int) + 1) % every == 0) = true ∧ D = []) := by
          cases h1 : decide (1 ≤ every) with
          | false => exact .inl rfl
          | true =>
            rw [h1, Bool.true_and] at hother'
            have h1' := of_decide_eq_true h1
            cases h2 : (((p : Int) + 1) % every == 0) with
            | false => exact .inr (.inl ⟨rfl, h1', rfl⟩)
            | true =>
              have h2' : ((((p + 1 : Nat) : Int) % every == 0)) = true := h2
              rw [h2', Bool.true_and] at hother'
              exact .inr (.inr ⟨rfl, h1', rfl, by simpa using hother'⟩)
        clear hx hother hother'
        rcases hways with h1 | ⟨h1, h2, h3⟩ | ⟨h1, h2, h3, rfl⟩
        all_goals
          by_cases hc1 : cl = 1
          case' pos =>
            go_wp2
            go_region_law
              ((refine step_append1 kS_elem w3.heap.size u11 O HOd.out y hok.out (heap_alloc_new _ _) (by rfl) HROOM.out (by rfl) _ _ (by rfl) (by rfl) (by rfl) hbase2 rfl ?_; intro v5 w5 ho5 hg5 hat5; have e5 := cell_through hg5 hNE.out hcl; have f5 := free_through hg5 hNE.out hfl hgl))
            all_goals
              go_wp2
              have HE5 := Lib.hid e5
              have HF5 := Lib.hid f5
              have HD5 : Hid (Rd kS w5 Ad cd _) := HRD.out.same fun a e => heap_through hg5 (by have := (hld.out a e).1; omega) (fun e2 => by have := (HO.out.lt _ e2.symm).1; have := (hld.out a e).1; omega)
              have HB5 : Hid (Below w.heap.size w w5) := Own.below (below_then HB.out HBd.out HB.out.size) HOd.out hg5 (by omega) (by omega)
              have hs5 : w3.heap.size ≤ w5.heap.size := Nat.le_trans hbase2 hg5.size
              have hxm := HXN.out
              rw [← HN.out] at hxm
              have HXM := Lib.hid hxm
              clear hxm
              have hl5 : (O ++ [y]).length ≤ p + 1 := by rw [List.length_append, List.length_singleton]; omega
              have HP2 := HMM.out
              have hpl2 : left.length - (p + 1) ≤ L'.length := by rw [List.length_cons] at hpl; omega
              have HO5 := Lib.hid ho5
              have HG5 := Lib.hid hg5
              have hk5 : Hid (∀ k, v5.ownBlock = some k → k ≠ g9) := fun k hk => by have := (HO5.out.lt k hk).1; omega
              clear e5 f5 ho5 hg5 hat5
              go_roundw
              case measure => simp [intOf]; omega
              case rel =>
                subst hc1
                exact ⟨p + 1, L', _, O ++ [y], _, Ad, _, cd, by omega, by go_num, rfl, HD5.out.set (fun a e => (hld.out a e).2.1) _, World.cell?_setCell_same _ _ _ HE5.out, by rw [World.frozen?_setCell]; exact HF5.out, by rw [HRL2.out.end_ rfl]; exact Rd.nil kS _ _ _ (Nat.zero_le _), hpl2, hl5, HO5.out.set hk5.out _, below_set HB5.out hs1 _ _, by rw [World.size_setCell]; exact hs5, hll, hld, HXM⟩
          case' neg =>
            go_wp2
            go_region_law
              ((refine step_append1 kS_elem w3.heap.size u11 O HOd.out y hok.out (heap_alloc_new _ _) (by rfl) HROOM.out (by rfl) _ _ (by rfl) (by rfl) (by rfl) hbase2 rfl ?_; intro v5 w5 ho5 hg5 hat5; have e5 := cell_through hg5 hNE.out hcl; have f5 := free_through hg5 hNE.out hfl hgl))
            all_goals
              go_wp2
              have HE5 := Lib.hid e5
              have HF5 := Lib.hid f5
              have HD5 : Hid (Rd kS w5 Ad cd _) := HRD.out.same fun a e => heap_through hg5 (by have := (hld.out a e).1; omega) (fun e2 => by have := (HO.out.lt _ e2.symm).1; have := (hld.out a e).1; omega)
              have HB5 : Hid (Below w.heap.size w w5) := Own.below (below_then HB.out HBd.out HB.out.size) HOd.out hg5 (by omega) (by omega)
              have hs5 : w3.heap.size ≤ w5.heap.size := Nat.le_trans hbase2 hg5.size
              have hxm := HXN.out
              rw [← HN.out] at hxm
              have HXM := Lib.hid hxm
              clear hxm
              have hl5 : (O ++ [y]).length ≤ p + 1 := by rw [List.length_append, List.length_singleton]; omega
              have HP2 := HMM.out
              have hpl2 : left.length - (p + 1) ≤ L'.length := by rw [List.length_cons] at hpl; omega
              have HO5 := Lib.hid ho5
              have HG5 := Lib.hid hg5
              have hk5 : Hid (∀ k, v5.ownBlock = some k → k ≠ g9) := fun k hk => by have := (HO5.out.lt k hk).1; omega
              clear e5 f5 ho5 hg5 hat5
              go_roundw
              case measure => simp [intOf]; omega
              case rel =>
                exact ⟨p + 1, L', _, O ++ [y], _, Ad, _, cd, by omega, by go_num, rfl, HD5.out.set (fun a e => (hld.out a e).2.1) _, World.cell?_setCell_same _ _ _ HE5.out, by rw [World.frozen?_setCell]; exact HF5.out, ((HRL2.out.cut hc1).same (fun a e => by cases e; exact heap_through (k := b) HG5.out (by omega) (fun e2 => by have := (HO.out.lt b e2.symm).1; omega))).set (fun a e => by cases e; exact hbn) _, hpl2, hl5, HO5.out.set hk5.out _, below_set HB5.out hs1 _ _, by rw [World.size_setCell]; exact hs5, fun a e => by cases e; exact ⟨hbs, hbn, rfl⟩, hld, HXM⟩
    · have HP2 : p = left.length := by omega
      have HX2 : Hid (mix seed main other every = O) := by show _ = _; rw [hx.out, show left.length - p = 0 by omega]; rfl
      go_wp2
      go_returns
      exact ⟨_, rfl, by rw [HX2.out]; exact HO.out.mono (by omega), HB.out⟩
end Go.Proofs.Ytemnakfjmikcdaa
