/- Senders: what is under way is all from one number to another. -/
import Derived.Test.YtoljllfbabahpaaU15
set_option linter.unusedVariables false
namespace Go.Proofs.Ytoljllfbabahpaa
open Go Go.Ab
theorem rng_len {l : List Int} {a b : Int} (hl : l.Pairwise (· < ·)) (hm : ∀ k, k ∈ l ↔ a ≤ k ∧ k < b) (hab : a ≤ b) : (l.length : Int) = b - a := by
  have h1 := asc_short (a := a) (b := b) hl (fun x hx => (hm x).1 hx)
  have h2 : ((List.range (b - a).toNat).map fun (i : Nat) => a + (i : Int)).length ≤ l.length := by
    refine List.Nodup.length_le_of_subset ?_ (fun x hx => ?_)
    · refine List.Pairwise.map _ ?_ (List.nodup_range (n := (b - a).toNat))
      intro x y hxy e
      exact hxy (by omega)
    · obtain ⟨i, hi, rfl⟩ := List.mem_map.1 hx
      have := List.mem_range.1 hi
      exact (hm _).2 (by omega)
  rw [List.length_map, List.length_range] at h2
  omega
structure KR (v : SV) (a : Int) : Prop where
  le : a ≤ v.N
  c : ∀ k, k ∈ keys v.C ↔ a ≤ k ∧ k < v.N
  t : ∀ k, k ∈ keys v.TS ↔ a ≤ k ∧ k < v.N
theorem KR.len {v : SV} {a : Int} (k : KR v a) (o : SOk v) : (v.C.length : Int) = v.N - a ∧ (v.TS.length : Int) = v.N - a := by
  have h1 := rng_len (l := keys v.C) o.asc k.c k.le
  have h2 := rng_len (l := keys v.TS) o.tasc k.t k.le
  rw [keys_length] at h1 h2
  exact ⟨h1, h2⟩
theorem mem_flt {β : Type} {S : List (Int × β)} {P : Int → Bool} {k : Int} : k ∈ keys (S.filter fun p => P p.1) ↔ k ∈ keys S ∧ P k = true := by
  constructor
  · intro h
    obtain ⟨x, hx, rfl⟩ := List.mem_map.1 h
    obtain ⟨a, b⟩ := List.mem_filter.1 hx
    exact ⟨List.mem_map.2 ⟨x, a, rfl⟩, b⟩
  · rintro ⟨h, b⟩
    obtain ⟨x, hx, rfl⟩ := List.mem_map.1 h
    exact List.mem_map.2 ⟨x, List.mem_filter.2 ⟨hx, b⟩, rfl⟩
/-- what an ack takes -/
def tookV (a N ack : Int) : Int := if ack > N then 0 else if ack > a then ack - a else 0
theorem KR.ack {v : SV} {a : Int} (k : KR v a) (o : SOk v) (ack : Int) : (ackV v ack).1 = tookV a v.N ack ∧ KR (ackV v ack).2 (a + tookV a v.N ack) ∧ (ackV v ack).2.N = v.N ∧ (ackV v ack).2.W = v.W ∧ (ackV v ack).2.ov = v.ov := by
  have hle := k.le
  unfold ackV tookV
  by_cases h1 : ack > v.N
  · rw [if_pos h1, if_pos h1]
    exact ⟨rfl, ⟨by show a + 0 ≤ v.N; omega, by show ∀ k, k ∈ keys v.C ↔ a + 0 ≤ k ∧ k < v.N; rw [Int.add_zero]; exact k.c, by show ∀ k, k ∈ keys v.TS ↔ a + 0 ≤ k ∧ k < v.N; rw [Int.add_zero]; exact k.t⟩, rfl, rfl, rfl⟩
  rw [if_neg h1, if_neg h1]
  have hc : ((v.C.filter fun p => decide (p.1 < ack)).length : Int) = if ack > a then ack - a else 0 := by
    have hm : ∀ k, k ∈ keys (v.C.filter fun p => decide (p.1 < ack)) ↔ a ≤ k ∧ k < max a ack := fun x => by
      rw [mem_flt (P := fun k => decide (k < ack)), k.c]
      simp
      omega
    have := rng_len (filter_asc o.asc _) hm (by omega)
    rw [keys_length] at this
    split <;> omega
  refine ⟨hc, ⟨?_, fun x => ?_, fun x => ?_⟩, rfl, rfl, rfl⟩
  · show _ ≤ v.N
    split <;> omega
  · show x ∈ keys (v.C.filter fun p => decide (ack ≤ p.1)) ↔ _ ≤ x ∧ x < v.N
    rw [mem_flt (P := fun k => decide (ack ≤ k)), k.c]
    simp
    split <;> omega
  · show x ∈ keys (v.TS.filter fun p => decide (ack ≤ p.1)) ↔ _ ≤ x ∧ x < v.N
    rw [mem_flt (P := fun k => decide (ack ≤ k)), k.t]
    simp
    split <;> omega
theorem KR.send {v : SV} {a : Int} (k : KR v a) (o : SOk v) (hov : v.ov = false) (now : Int) (body : List Int) (hf : v.N - a < v.W) : (sendV v now body).1 = (v.N, 0) ∧ KR (sendV v now body).2 a ∧ (sendV v now body).2.N = v.N + 1 ∧ (sendV v now body).2.W = v.W ∧ (sendV v now body).2.ov = false ∧ bodyV (sendV v now body).2.C v.N = body ∧ (sget (sendV v now body).2.C v.N).isSome = true := by
  have hl := (k.len o).1
  have hle := k.le
  have hv : sendV v now body = ((v.N, 0), { v with N := v.N + 1, C := insS v.C v.N body, TS := insS v.TS v.N (now + waitV v.B v.M 0, 0) }) := by rw [sendV, if_neg (by rw [hov]; simp), if_neg (by omega)]
  rw [hv]
  have e1 := insS_top (v := body) (fun k hk => (o.kb k hk).2)
  have e2 := insS_top (S := v.TS) (n := v.N) (v := (now + waitV v.B v.M 0, (0 : Int))) (fun k hk => (o.kb k (o.tk k hk)).2)
  have hg : sget (insS v.C v.N body) v.N = some body := by rw [insS_get o.asc, if_pos rfl]
  refine ⟨rfl, ⟨by show a ≤ v.N + 1; omega, fun x => ?_, fun x => ?_⟩, rfl, rfl, hov, ?_, ?_⟩
  · show x ∈ keys (insS v.C v.N body) ↔ a ≤ x ∧ x < v.N + 1
    rw [e1, keys_snoc, List.mem_append, k.c, List.mem_singleton]
    omega
  · show x ∈ keys (insS v.TS v.N _) ↔ a ≤ x ∧ x < v.N + 1
    rw [e2, keys_snoc, List.mem_append, k.t, List.mem_singleton]
    omega
  · show bodyV (insS v.C v.N body) v.N = body
    rw [bodyV, hg]
    rfl
  · show (sget (insS v.C v.N body) v.N).isSome = true
    rw [hg]
    rfl
theorem sendV_full {v : SV} {a : Int} (k : KR v a) (o : SOk v) (hov : v.ov = false) (now : Int) (body : List Int) (hf : v.N - a ≥ v.W) : sendV v now body = ((0, 5), v) := by
  have hl := (k.len o).1
  have := o.len
  rw [sendV, if_neg (by rw [hov]; simp), if_pos (by omega)]
theorem KR.new (W B M R : Int) : KR ⟨W, 0, false, [], B, M, R, []⟩ 0 := by
  refine ⟨Int.le_refl _, fun k => ?_, fun k => ?_⟩
  · show k ∈ [] ↔ 0 ≤ k ∧ k < 0
    simp
  · show k ∈ [] ↔ 0 ≤ k ∧ k < 0
    simp
theorem KR.is {v : SV} {a : Int} (k : KR v a) (x : Int) : (sget v.C x).isSome = (decide (a ≤ x) && decide (x < v.N)) := by
  rw [Bool.eq_iff_iff, sget_some, k.c]
  simp
end Go.Proofs.Ytoljllfbabahpaa
