/- A row's arguments, as they read as data, opened to the walks' own words: rows of texts, of whole numbers, of events. -/
import Derived.Test.YtemnakfjmikcdaaKinds
import Derived.Deep.Slices
import Derived.Deep.Fields
import Derived.SizedLaws
import Derived.ProofKit
import Derived.OpenShut
import Derived.ShutString
import Derived.ChangeOld
set_option linter.unusedVariables false
set_option linter.unusedSimpArgs false
namespace Go.Proofs.Ytemnakfjmikcdaa
open Go.RowKit Go.ChangeShapes Go.WideShapes

section
variable {H : Type} {enc : TypeId × Value → H} {P : Program} {W : World}
/-- An element of this kind is what its datum says. -/
def Opens {α : Type} (P : Program) (K : EK α) : Prop := ∀ {H : Type} {enc : TypeId × Value → H} {W : World} {n : Nat} {cs : List Value} {x : DataW H × List MemPlace},
  DataW.trod enc P W 0 (fun _ => true) true n K.ty cs = some x → (∀ m ∈ x.1.weights P K.ty, m ≤ reachBytes) → ∃ y : α, cs = K.enc y ∧ K.ok y

theorem mem_weightsAll {e : TypeId} {d : DataW H} : ∀ {ds : List (DataW H)}, d ∈ ds → ∀ m ∈ d.weights P e, m ∈ DataW.weightsAll P e ds
  | [], h, _, _ => absurd h (by simp)
  | x :: r, h, m, hm => by
    unfold DataW.weightsAll
    rcases List.mem_cons.1 h with rfl | h
    · exact List.mem_append_left _ hm
    · exact List.mem_append_right _ (mem_weightsAll h m hm)
theorem mem_weightsEach {t : TypeId} {d : DataW H} : ∀ {ts : List TypeId} {ds : List (DataW H)} {j : Nat}, ts[j]? = some t → ds[j]? = some d → ∀ m ∈ d.weights P t, m ∈ DataW.weightsEach P ts ds
  | [], _, _, h, _, _, _ => by simp at h
  | _ :: _, [], _, _, h, _, _ => by simp at h
  | t0 :: ts, d0 :: ds, 0, h, h', m, hm => by
    simp at h h'
    subst h; subst h'
    unfold DataW.weightsEach
    exact List.mem_append_left _ hm
  | t0 :: ts, d0 :: ds, j + 1, h, h', m, hm => by
    unfold DataW.weightsEach
    exact List.mem_append_right _ (mem_weightsEach (by simpa using h) (by simpa using h') m hm)

theorem weights_le {ts : List TypeId} {ds : List (DataW H)} (h : (DataW.weightsEach P ts ds).all (· ≤ reachBytes) = true) {j : Nat} {t : TypeId} {d : DataW H} (ht : ts[j]? = some t) (hd : ds[j]? = some d) : ∀ m ∈ d.weights P t, m ≤ reachBytes := fun m hm => by
  have := List.all_eq_true.1 h m (mem_weightsEach ht hd m hm)
  simpa using this

/-- A slice argument reads as a row. -/
theorem openRd {α : Type} {K : EK α} (O : Opens P K) {t : TypeId} {a : Option Addr} {len cap : Nat} {d : DataW H} {p : List MemPlace} (ht : P.underlying t = some (.slice K.ty)) (hc : P.cellsOf K.ty = K.sz) (hB : P.bytesOf K.ty = K.bytes)
    (h : DataW.Trod enc P W 0 (fun _ => true) true t (.slice a len cap) d p) (hw : ∀ m ∈ d.weights P t, m ≤ reachBytes) : ∃ l : List α, l.length = len ∧ Rd K W a cap l := by
  obtain ⟨fuel, hf⟩ := h
  rcases Go.Deep.open_slice ht hf with ⟨hcs, _⟩ | ⟨ad, len', cap', m, n, D, Pl, hcs, _, hl, hm, hmm, hx, hi⟩
  · simp [Value.cells] at hcs
    obtain ⟨rfl, rfl, rfl⟩ := hcs
    exact ⟨[], rfl, Rd.nil K W _ _ (Nat.zero_le _)⟩
  · simp [Value.cells] at hcs
    obtain ⟨rfl, rfl, rfl⟩ := hcs
    simp only [Prod.mk.injEq] at hx
    obtain ⟨rfl, _⟩ := hx
    have hm' : m = cap := by rw [hmm]; rfl
    subst hm'
    have hW : ∀ w, w ∈ ((((List.range len).map D).length + ((List.range (m - len)).map fun j => D (len + j)).length) * P.bytesOf K.ty :: (DataW.weightsAll P K.ty ((List.range len).map D) ++ DataW.weightsAll P K.ty ((List.range (m - len)).map fun j => D (len + j)))) → w ≤ reachBytes := by
      intro w hw'
      refine hw w ?_
      unfold DataW.weights
      rw [ht]
      exact hw'
    have hroom := hW _ (List.mem_cons_self ..)
    simp only [List.length_map, List.length_range, hB] at hroom
    have each : ∀ i, i < len → ∃ y : α, W.cells? 0 (ad.add (i * K.sz)) K.sz = some (K.enc y) ∧ K.ok y := by
      intro i hil
      obtain ⟨cs', h1, h2⟩ := hi i (by omega)
      rw [hc] at h1
      obtain ⟨y, rfl, hy⟩ := O h2 (fun w hw' => hW w (List.mem_cons_of_mem _ (List.mem_append_left _ (mem_weightsAll (d := D i) (List.mem_map.2 ⟨i, List.mem_range.2 hil, rfl⟩) w hw'))))
      exact ⟨y, h1, hy⟩
    have : ∃ l : List α, l.length = len ∧ ∀ i (h : i < l.length), W.cells? 0 (ad.add (i * K.sz)) K.sz = some (K.enc l[i]) ∧ K.ok l[i] := by
      clear hW hroom hi hf hw hmm hl hm
      induction len with
      | zero => exact ⟨[], rfl, fun i h => absurd h (by simp)⟩
      | succ k ih =>
        obtain ⟨l, hl, hlc⟩ := ih (fun i hi => each i (by omega))
        obtain ⟨y, hy⟩ := each k (by omega)
        refine ⟨l ++ [y], by simp [hl], fun i h => ?_⟩
        by_cases e : i < l.length
        · rw [List.getElem_append_left e]; exact hlc i e
        · have : i = l.length := by simp at h; omega
          subst this
          simp only [List.getElem_concat_length]
          rw [hl]; exact hy
    obtain ⟨l, hll, hlc⟩ := this
    refine ⟨l, hll, by omega, ?_, ?_, ?_⟩
    · have h1 : l.length * K.bytes ≤ (len + (m - len)) * K.bytes := Nat.mul_le_mul_right _ (by omega)
      have h2 : reachBytes = 140737488351232 := rfl
      omega
    · intro x hx
      obtain ⟨i, hi', rfl⟩ := List.getElem_of_mem hx
      exact (hlc i hi').2
    · intro i hi'
      refine ⟨ad, rfl, fun j u hj => ?_⟩
      obtain ⟨_, hlen, hat⟩ := World.cells?_some (hlc i hi').1
      have hjl : j < K.sz := by rw [← K.len l[i]]; exact (List.getElem?_eq_some_iff.1 hj).1
      have := hat j hjl
      rw [hj] at this
      rw [← this]
      congr 1
      unfold Addr.add
      by_cases e1 : i * K.sz = 0
      · simp [e1]
      · by_cases e2 : j = 0
        · simp [e1, e2]
        · simp [e1, e2, Nat.add_assoc]
end

theorem reach_str {n : Nat} (h : n ≤ reachBytes) : n ≤ 140737488351232 := h
theorem wf_isI64 {n : Int} (h : (Lit.int .i64 n).wf = true) : isI64 n := by
  have : IntKind.i64.min ≤ n ∧ n ≤ 9223372036854775807 := by simpa [Lit.wf] using h
  have e : IntKind.i64.min = -9223372036854775808 := by decide
  unfold isI64; omega
theorem wf_u64 {n : Int} (h : (Lit.int .u64 n).wf = true) : 0 ≤ n ∧ n < 18446744073709551616 := by
  have : IntKind.u64.min ≤ n ∧ n ≤ IntKind.u64.max := by simpa [Lit.wf] using h
  have e : IntKind.u64.min = 0 := by decide
  have e' : IntKind.u64.max = 18446744073709551615 := by decide
  omega

theorem kS_opens : Opens Try.prog kS := by
  intro H enc W n cs x h hw
  obtain ⟨s, rfl, rfl, _⟩ := DataW.trod_string Try.underlying9 h
  refine ⟨s, rfl, reach_str (hw s.size ?_)⟩
  simp [DataW.weights]
theorem kI_opens : Opens Try.prog kI := by
  intro H enc W n cs x h _
  obtain ⟨k, rfl, rfl, hw⟩ := DataW.trod_int Try.underlying3 h
  exact ⟨k, rfl, wf_isI64 hw⟩
theorem kE_opens : Opens Try.prog kE := by
  intro H enc W n cs x h hw
  obtain ⟨xs, m, _, rfl, hl, hlen, hf⟩ := DataW.trod_struct Try.underlying33 h
  have hc : Try.prog.cellsOf 33 = 8 := by kernel_rfl
  rw [hc] at hl
  have c9 : Try.prog.cellsOf 9 = 1 := by kernel_rfl
  have c3 : Try.prog.cellsOf 3 = 1 := by kernel_rfl
  have c31 : Try.prog.cellsOf 31 = 1 := by kernel_rfl
  match cs, hl with
  | [v0, v1, v2, v3, v4, v5, v6, v7], _ =>
    match xs, hlen with
    | [y0, y1, y2, y3, y4, y5, y6, y7], _ =>
      have f0 := hf 0 _ rfl
      have f1 := hf 1 _ rfl
      have f2 := hf 2 _ rfl
      have f3 := hf 3 _ rfl
      have f4 := hf 4 _ rfl
      have f5 := hf 5 _ rfl
      have f6 := hf 6 _ rfl
      have f7 := hf 7 _ rfl
      simp only [c9, c3, c31, List.drop_zero, List.drop_succ_cons, List.take_succ_cons, List.take_zero, List.getElem?_cons_zero, List.getElem?_cons_succ] at f0 f1 f2 f3 f4 f5 f6 f7
      obtain ⟨a0, e0, rfl, _⟩ := DataW.trod_string Try.underlying9 f0
      obtain ⟨a1, e1, rfl, w1⟩ := DataW.trod_int Try.underlying3 f1
      obtain ⟨a2, e2, rfl, w2⟩ := DataW.trod_int Try.underlying3 f2
      obtain ⟨a3, e3, rfl, w3⟩ := DataW.trod_int Try.underlying31 f3
      obtain ⟨a4, e4, rfl, _⟩ := DataW.trod_string Try.underlying9 f4
      obtain ⟨a5, e5, rfl, _⟩ := DataW.trod_string Try.underlying9 f5
      obtain ⟨a6, e6, rfl, w6⟩ := DataW.trod_int Try.underlying3 f6
      obtain ⟨a7, e7, rfl, _⟩ := DataW.trod_string Try.underlying9 f7
      have hu : Try.prog.underlying kE.ty = _ := Try.underlying33
      have hW : ∀ (j : Nat) (t : TypeId) (d : DataW H), (#[9, 3, 3, 31, 9, 9, 3, 9] : Array Nat).toList[j]? = some t → ([(DataW.lit (.string a0.data.toList), ([] : List MemPlace)), (.lit (.int .i64 a1), []), (.lit (.int .i64 a2), []), (.lit (.int .i64 a3), []), (.lit (.string a4.data.toList), []), (.lit (.string a5.data.toList), []), (.lit (.int .i64 a6), []), (.lit (.string a7.data.toList), [])].map (·.1))[j]? = some d → ∀ m ∈ d.weights Try.prog t, m ≤ reachBytes := by
        intro j t d h1 h2 m hm
        refine hw m ?_
        unfold DataW.weights
        rw [hu]
        exact mem_weightsEach h1 h2 m hm
      have s0 : a0.size ≤ reachBytes := hW 0 _ _ rfl rfl _ (by simp [DataW.weights])
      have s4 : a4.size ≤ reachBytes := hW 4 _ _ rfl rfl _ (by simp [DataW.weights])
      have s5 : a5.size ≤ reachBytes := hW 5 _ _ rfl rfl _ (by simp [DataW.weights])
      have s7 : a7.size ≤ reachBytes := hW 7 _ _ rfl rfl _ (by simp [DataW.weights])
      obtain rfl := List.cons.inj e0 |>.1
      obtain rfl := List.cons.inj e1 |>.1
      obtain rfl := List.cons.inj e2 |>.1
      obtain rfl := List.cons.inj e3 |>.1
      obtain rfl := List.cons.inj e4 |>.1
      obtain rfl := List.cons.inj e5 |>.1
      obtain rfl := List.cons.inj e6 |>.1
      obtain rfl := List.cons.inj e7 |>.1
      exact ⟨⟨a0, a1, a2, a3, a4, a5, a6, a7⟩, rfl, ⟨s0, wf_isI64 w1, wf_isI64 w2, wf_isI64 w3, s4, s5, wf_isI64 w6, s7⟩⟩
end Go.Proofs.Ytemnakfjmikcdaa
