/- SenderAgain: in plain lists. -/
import Derived.Test.YtoljllfbabahpaaU16
set_option linter.unusedVariables false
namespace Go.Proofs.Ytoljllfbabahpaa
open Go Go.Ab
theorem rng_eq {l : List Int} {a b : Int} (hl : l.Pairwise (· < ·)) (hm : ∀ k, k ∈ l ↔ a ≤ k ∧ k < b) : l = (List.range (b - a).toNat).map fun (i : Nat) => a + (i : Int) := by
  refine asc_ext hl ?_ (fun x => ?_)
  · refine List.Pairwise.map _ ?_ (List.pairwise_lt_range (n := (b - a).toNat))
    intro x y hxy
    omega
  · rw [hm]
    constructor
    · rintro ⟨h1, h2⟩
      exact List.mem_map.2 ⟨(x - a).toNat, List.mem_range.2 (by omega), by omega⟩
    · intro h
      obtain ⟨i, hi, rfl⟩ := List.mem_map.1 h
      have := List.mem_range.1 hi
      omega
theorem rng_get {l : List Int} {a b : Int} (hl : l.Pairwise (· < ·)) (hm : ∀ k, k ∈ l ↔ a ≤ k ∧ k < b) {i : Nat} (hi : i < l.length) : l.getD i 0 = a + (i : Int) := by
  have e := rng_eq hl hm
  have hi2 := hi
  rw [e] at hi2 ⊢
  rw [List.getD_eq_getElem?_getD, List.getElem?_eq_getElem hi2]
  simp
/-- each waits for one moment, told so often -/
def TA (v : SV) (k : Int) : Prop := ∀ x ∈ v.TS, x.2.1 = 4 * k ∧ x.2.2 = k - 1
def BD (v : SV) : Prop := ∀ x ∈ v.C, x.2 = [x.1]
theorem wait44 (n : Int) : waitV 4 4 n = 4 := by
  unfold waitV
  rw [waitW_stop (by decide)]
  rfl
theorem rs_all {R k : Int} : ∀ {S : List Wt}, (∀ x ∈ S, x.2.1 = 4 * k ∧ x.2.2 = k - 1) → k - 1 < R → agS R (4 * k) S = keys S ∧ ovS R (4 * k) S = [] ∧ keys (rsS 4 4 R (4 * k) S) = keys S ∧ ∀ x ∈ rsS 4 4 R (4 * k) S, x.2.1 = 4 * (k + 1) ∧ x.2.2 = k + 1 - 1
  | [], _, _ => ⟨rfl, rfl, rfl, fun x hx => by cases hx⟩
  | x :: S, h, hk => by
    obtain ⟨h1, h2⟩ := h x (by simp)
    obtain ⟨i1, i2, i3, i4⟩ := rs_all (S := S) (fun y hy => h y (List.mem_cons_of_mem _ hy)) hk
    have hg : ¬ x.2.1 > 4 * k := by omega
    have hl : x.2.2 < R := by omega
    have ea : agB R (4 * k) x = true := by rw [agB, decide_eq_false hg, decide_eq_true hl]; rfl
    have eo : ovB R (4 * k) x = false := by rw [ovB, decide_eq_true hl]; simp
    have ed : dueF 4 4 R (4 * k) x = some (x.1, 4 * k + waitV 4 4 (x.2.2 + 1), x.2.2 + 1) := by rw [dueF, if_neg hg, if_pos hl]
    have er : rsS 4 4 R (4 * k) (x :: S) = (x.1, 4 * k + waitV 4 4 (x.2.2 + 1), x.2.2 + 1) :: rsS 4 4 R (4 * k) S := by
      unfold rsS
      rw [List.filterMap_cons, ed]
    refine ⟨?_, ?_, ?_, fun y hy => ?_⟩
    · rw [agS, List.filter_cons_of_pos ea]
      show x.1 :: agS R (4 * k) S = x.1 :: keys S
      rw [i1]
    · rw [ovS, List.filter_cons_of_neg (by rw [eo]; simp)]
      exact i2
    · rw [er]
      show x.1 :: keys (rsS 4 4 R (4 * k) S) = x.1 :: keys S
      rw [i3]
    · rw [er] at hy
      rcases List.mem_cons.1 hy with rfl | hy
      · show 4 * k + waitV 4 4 (x.2.2 + 1) = 4 * (k + 1) ∧ x.2.2 + 1 = k + 1 - 1
        rw [wait44]
        omega
      · exact i4 y hy
theorem ov_all {R k : Int} {S : List Wt} (h : ∀ x ∈ S, x.2.1 = 4 * k ∧ x.2.2 = k - 1) (hk : ¬ k - 1 < R) : ovS R (4 * k) S = keys S := by
  rw [ovS, List.filter_eq_self.2 (fun x hx => ?_)]
  obtain ⟨h1, h2⟩ := h x hx
  rw [ovB, decide_eq_false (show ¬ x.2.1 > 4 * k by omega), decide_eq_false (show ¬ x.2.2 < R by omega)]
  rfl
theorem KR.again {v : SV} {a k : Int} (kr : KR v a) (ta : TA v k) (hov : v.ov = false) (hB : v.B = 4) (hM : v.M = 4) (hk : k - 1 < v.R) :
    ∃ v2, againV v (4 * k) = ((keys v.TS, 0), v2) ∧ KR v2 a ∧ TA v2 (k + 1) ∧ v2.C = v.C ∧ v2.N = v.N ∧ v2.W = v.W ∧ v2.ov = false ∧ v2.B = 4 ∧ v2.M = 4 ∧ v2.R = v.R := by
  obtain ⟨i1, i2, i3, i4⟩ := rs_all (R := v.R) ta hk
  refine ⟨{ v with TS := rsS v.B v.M v.R (4 * k) v.TS }, ?_, ⟨kr.le, kr.c, ?_⟩, ?_, rfl, rfl, rfl, hov, hB, hM, rfl⟩
  · rw [againV, if_neg (by rw [hov]; simp), if_pos i2, i1]
  · show ∀ x, x ∈ keys (rsS v.B v.M v.R (4 * k) v.TS) ↔ a ≤ x ∧ x < v.N
    rw [hB, hM, i3]
    exact kr.t
  · show ∀ x ∈ rsS v.B v.M v.R (4 * k) v.TS, _
    rw [hB, hM]
    exact i4
theorem KR.over {v : SV} {a k : Int} (kr : KR v a) (ta : TA v k) (hov : v.ov = false) (hk : ¬ k - 1 < v.R) (ha : a < v.N) : ∃ v2, againV v (4 * k) = (([], 6), v2) ∧ v2.ov = true := by
  have h1 := ov_all (R := v.R) ta hk
  have h2 : ovS v.R (4 * k) v.TS ≠ [] := by
    rw [h1]
    intro e
    have := (kr.t a).2 ⟨Int.le_refl _, ha⟩
    rw [e] at this
    cases this
  exact ⟨{ v with ov := true, TS := rsS v.B v.M v.R (4 * k) v.TS }, by rw [againV, if_neg (by rw [hov]; simp), if_neg h2], rfl⟩
theorem KR.none {v : SV} {a : Int} (kr : KR v a) (o : SOk v) (now : Int) (hov : v.ov = false) (ha : a = v.N) : againV v now = ((keys v.TS, 0), v) ∧ v.TS = [] := by
  have hl := (kr.len o).2
  have ht : v.TS = [] := List.eq_nil_of_length_eq_zero (by omega)
  refine ⟨?_, ht⟩
  obtain ⟨W, N, ov, C, B, M, R, TS⟩ := v
  have ht : TS = [] := ht
  subst ht
  have hov : ov = false := hov
  subst hov
  rfl
theorem again_ok {v : SV} {a k : Int} (kr : KR v a) (o : SOk v) (ta : TA v k) (hov : v.ov = false) (hB : v.B = 4) (hM : v.M = 4) (hk : k - 1 < v.R ∨ a = v.N) :
    ∃ v2, againV v (4 * k) = ((keys v.TS, 0), v2) ∧ KR v2 a ∧ TA v2 (k + 1) ∧ v2.C = v.C ∧ v2.N = v.N ∧ v2.W = v.W ∧ v2.ov = false ∧ v2.B = 4 ∧ v2.M = 4 ∧ v2.R = v.R := by
  rcases hk with hk | hk
  · exact kr.again ta hov hB hM hk
  · obtain ⟨h1, h2⟩ := kr.none o (4 * k) hov hk
    refine ⟨v, h1, kr, ?_, rfl, rfl, rfl, hov, hB, hM, rfl⟩
    unfold TA
    rw [h2]
    exact fun x hx => by cases hx
theorem TA.ack {v : SV} {k : Int} (t : TA v k) (ack : Int) : TA (ackV v ack).2 k := by
  unfold ackV
  split
  · exact t
  · exact fun x hx => t x (List.mem_filter.1 hx).1
theorem BD.ack {v : SV} (t : BD v) (ack : Int) : BD (ackV v ack).2 := by
  unfold ackV
  split
  · exact t
  · exact fun x hx => t x (List.mem_filter.1 hx).1
theorem BD.body {v : SV} (b : BD v) (o : SOk v) {x : Int} (hx : x ∈ keys v.C) : bodyV v.C x = [x] := by
  unfold bodyV
  cases e : sget v.C x with
  | none => exact absurd hx (sget_none.1 e)
  | some w =>
    have := b (x, w) ((sget_mem o.asc.nodup).1 e)
    exact this
theorem TA.send {v : SV} {a : Int} (t : TA v 1) (b : BD v) (k : KR v a) (o : SOk v) (hov : v.ov = false) (hB : v.B = 4) (hM : v.M = 4) (hf : v.N - a < v.W) : TA (sendV v 0 [v.N]).2 1 ∧ BD (sendV v 0 [v.N]).2 ∧ (sendV v 0 [v.N]).2.B = 4 ∧ (sendV v 0 [v.N]).2.M = 4 ∧ (sendV v 0 [v.N]).2.R = v.R := by
  have hl := (k.len o).1
  have hv : sendV v 0 [v.N] = ((v.N, 0), { v with N := v.N + 1, C := insS v.C v.N [v.N], TS := insS v.TS v.N (0 + waitV v.B v.M 0, 0) }) := by rw [sendV, if_neg (by rw [hov]; simp), if_neg (by omega)]
  rw [hv]
  have e1 := insS_top (v := [v.N]) (fun k hk => (o.kb k hk).2)
  have e2 := insS_top (S := v.TS) (n := v.N) (v := (0 + waitV v.B v.M 0, (0 : Int))) (fun k hk => (o.kb k (o.tk k hk)).2)
  refine ⟨?_, ?_, hB, hM, rfl⟩
  · show ∀ x ∈ insS v.TS v.N _, _
    rw [e2, hB, hM, wait44]
    intro x hx
    rcases List.mem_append.1 hx with hx | hx
    · exact t x hx
    · have : x = (v.N, 0 + 4, 0) := by simpa using hx
      subst this
      exact ⟨rfl, rfl⟩
  · show ∀ x ∈ insS v.C v.N _, _
    rw [e1]
    intro x hx
    rcases List.mem_append.1 hx with hx | hx
    · exact b x hx
    · have : x = (v.N, [v.N]) := by simpa using hx
      subst this
      rfl
end Go.Proofs.Ytoljllfbabahpaa
