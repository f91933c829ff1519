/- The readers: Raw. -/
import Derived.Test.YtnpfdppmpmnhbaaS1
set_option linter.unusedVariables false
namespace Go.Proofs.Ytnpfdppmpmnhbaa
open Go Go.Ab
def rawOk (xs : List Int) (sp : Bool) (k : Int) : Bool := !sp && decide (0 ≤ k) && decide (k ≤ xs.length)
def rawV (xs : List Int) (sp : Bool) (k : Int) : List Int := if rawOk xs sp k then xs.take k.toNat else []
def rawX (xs : List Int) (sp : Bool) (k : Int) : List Int := if rawOk xs sp k then xs.drop k.toNat else xs
def RawQ (g : Nat) (xs : List Int) (sp : Bool) (k : Int) (h : H) (v : V) (h' : H) : Prop := ∃ q m, v = .sl q m ∧ Oct h' q m (rawV xs sp k) ∧ Rdr h' g (rawX xs sp k) (!rawOk xs sp k) ∧ Mod (one g) h h'
theorem Rdr.ro {h : H} {g : Nat} {xs : List Int} {sp : Bool} (r : Rdr h g xs sp) {i : Nat} (hi : g ≠ i) : Rdr (h.ro i) g xs sp := by
  obtain ⟨p, n, h1, h2⟩ := r
  exact ⟨p, n, by rw [H.ro_ne _ hi, h1], RoSl.ro h2 i⟩
theorem Rdr.lt {h : H} {g : Nat} {xs : List Int} {sp : Bool} (r : Rdr h g xs sp) : g < h.next := by
  obtain ⟨p, n, h1, h2⟩ := r
  exact h.lt _ _ h1
def RawQ' (g : Nat) (xs : List Int) (sp : Bool) (k : Int) (h : H) (v : V) (h' : H) : Prop := ∃ q m, v = .sl q m ∧ NewSl h h' q m 1 (ints .u8 (rawV xs sp k)) ∧ Rdr h' g (rawX xs sp k) (!rawOk xs sp k) ∧ Ab.Mod (one g) h h'
theorem rawQ_no {g : Nat} {xs : List Int} {sp : Bool} {k : Int} {h h' : H} (hk : rawOk xs sp k = false) (r : Rdr h' g xs true) (m : Mod (one g) h h') : RawQ' g xs sp k h (.sl none 0) h' :=
  ⟨none, 0, rfl, by rw [rawV, hk]; exact NewSl.nil _ _ _, by rw [rawX, hk]; exact r, m⟩
theorem RawQ'.ro {g : Nat} {xs : List Int} {sp : Bool} {k : Int} {h : H} (hg : g < h.next) (v : V) (h' : H) (q : RawQ' g xs sp k h v h') : ∃ i, RawQ g xs sp k h v (h'.ro i) := by
  obtain ⟨p, n, rfl, n1, r, m⟩ := q
  obtain ⟨i, hi, k1, k2⟩ := n1.freeze m
  exact ⟨i, p, n, rfl, k1, r.ro (by omega), k2⟩
theorem Rdr.set {h : H} {g : Nat} {xs ys : List Int} {sp sp' : Bool} {p : Option (Nat × Nat)} {n : Nat} (r : Rdr h g xs sp) (o : Oct h p n ys) : Rdr (h.set g (.row true 2 [.sl p n, .bool sp'])) g ys sp' := by
  obtain ⟨p0, n0, h1, h2⟩ := r
  exact ⟨p, n, by rw [H.obj_set_same h1], o.get (Mod.set (S := one g) rfl h1 rfl)⟩
theorem Rdr.modset {h : H} {g : Nat} {xs : List Int} {sp : Bool} (r : Rdr h g xs sp) (ob : Ab.Obj) : Ab.Mod (one g) h (h.set g ob) := by
  obtain ⟨p0, n0, h1, h2⟩ := r
  exact Mod.set rfl h1 rfl

theorem raw28 {h : H} {g : Nat} {xs : List Int} {sp : Bool} (r : Rdr h g xs sp) (hx : xs.length ≤ 70368744177664) (k : Int) : ACalls Try.prog 28 [.ptr (some (g, 0)), i64 k] h (RawQ g xs sp k h) := by
  obtain ⟨p, n, hg, ho⟩ := r
  have hl := ho.len
  subst hl
  have r : Rdr h g xs sp := ⟨p, _, hg, ho⟩
  refine ACalls.ro (Q := RawQ' g xs sp k h) ?_ (RawQ'.ro r.lt)
  refine call_ Try.func28 rfl rfl (by kernel_rfl) ?_
  conv => whnf
  refine ⟨_, Cell.mk hg rfl, ?_⟩
  conv => whnf
  refine br_mk (fun hb => ?_) (fun hb => ?_)
  · conv => whnf
    refine ⟨_, _, hg, Nat.le_of_ble_eq_true rfl, ?_⟩
    conv => whnf
    exact rawQ_no (by simp [rawOk, hb]) (r.set ho) (r.modset _)
  conv => whnf
  refine br_mk (fun hc => ?_) (fun hc => ?_)
  · conv => whnf
    refine ⟨_, _, hg, Nat.le_of_ble_eq_true rfl, ?_⟩
    conv => whnf
    simp at hc
    exact rawQ_no (by simp [rawOk, hb]; omega) (r.set ho) (r.modset _)
  conv => whnf
  refine ⟨_, Cell.mk hg rfl, ?_⟩
  conv => whnf
  refine br_mk (fun hd => ?_) (fun hd => ?_)
  · conv => whnf
    refine ⟨_, _, hg, Nat.le_of_ble_eq_true rfl, ?_⟩
    conv => whnf
    simp at hd
    exact rawQ_no (by simp [rawOk, hb]; omega) (r.set ho) (r.modset _)
  conv => whnf
  simp at hc hd
  obtain ⟨j, rfl⟩ : ∃ j : Nat, k = j := ⟨k.toNat, by omega⟩
  have hg1 := (H.obj_push_old (h := h) (.row true (T.at_ 5).size (zerosV 0 (vcells (T.at_ 5).zero))) (Nat.ne_of_lt (h.lt _ _ hg))).trans hg
  refine ⟨_, Cell.mk hg1 rfl, ?_⟩
  conv => whnf
  have ho1 := ho.get (Mod.push none_ h (.row true (T.at_ 5).size (zerosV 0 (vcells (T.at_ 5).zero))))
  refine ⟨⟨_, ho1.is⟩, ?_⟩
  conv => whnf
  refine ⟨j, rfl, Nat.zero_le _, by omega, ?_⟩
  conv => whnf
  refine ⟨[], _, ⟨rfl, .inr ⟨_, 0, true, [], rfl, by simp [H.push]; rfl, fun e => e, by simp, by simp⟩⟩, (ho1.cut (Nat.zero_le j) (by omega)).is, by rw [T5b]; omega, by omega, fun p' h' hs hm hf => ?_⟩
  conv => whnf
  have hg2 := hm.get hg1 (.inl (fun k => by
    obtain ⟨o, k⟩ := k
    injection k with k
    injection k with k
    exact absurd (h.lt _ _ hg) (by omega)))
  refine ⟨_, Cell.mk hg2 rfl, ?_⟩
  conv => whnf
  have ho2 := ho1.get hm
  refine ⟨⟨_, ho2.is⟩, ?_⟩
  conv => whnf
  refine ⟨j, rfl, by omega, Nat.le_refl _, ?_⟩
  conv => whnf
  refine ⟨_, _, hg2, Nat.le_of_ble_eq_true rfl, ?_⟩
  conv => whnf
  have hk : rawOk xs sp (j : Int) = true := by simp [rawOk, hb]; omega
  have hng : ∀ i o, p' = some (i, o) → h.next ≤ i := fun i o e => by
    rcases hf i o e with k | k
    · rw [e] at k
      injection k with k
      injection k with k
      omega
    · exact Nat.le_trans (Nat.le_succ _) k
  have hs' : SlIs h' p' (0 + (j - 0)) true 1 (ints .u8 (rawV xs sp j)) := by
    rw [rawV, hk]
    simpa [T5s] using hs
  have he : splice [V.sl p xs.length, V.bool sp] (0 + 0) (vcells (V.sl (slp p (j * (T.at_ 5).size)) (xs.length - j))) = [.sl (slp p j) (xs.length - j), .bool sp] := by simp [splice, vcells, T5s]
  rw [he]
  have ms := Mod.set (S := one g) (ob := .row true 2 [.sl (slp p j) (xs.length - j), .bool sp]) rfl hg2 rfl
  refine ⟨p', _, rfl, ⟨hs'.get ms (fun i o e => .inl (fun k => ?_)), hng⟩, ?_, ?_⟩
  · exact absurd (hng i o e) (by
      have := r.lt
      rw [k]
      omega)
  · rw [rawX, hk]
    refine ⟨slp p j, xs.length - j, ?_, ?_⟩
    · rw [H.obj_set_same hg2]
      simp [hb]
    · have := (ho2.cut (show j ≤ xs.length by omega) (Nat.le_refl _)).get ms
      rw [List.take_of_length_le (by simp)] at this
      simpa using this
  · refine (Mod.trans' (S2 := one g) (Mod.push none_ h _) hm (fun _ _ k => k.elim) (fun i hi k => ?_)).trans' ms (fun _ _ k => k) (fun _ _ k => k)
    obtain ⟨o, k⟩ := k
    injection k with k
    injection k with k
    omega
end Go.Proofs.Ytnpfdppmpmnhbaa
