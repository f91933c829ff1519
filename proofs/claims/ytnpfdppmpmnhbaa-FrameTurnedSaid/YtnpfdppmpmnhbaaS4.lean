/- The readers: Num of the reference, Read. -/
import Derived.Test.YtnpfdppmpmnhbaaS3
set_option linter.unusedVariables false
namespace Go.Proofs.Ytnpfdppmpmnhbaa
open Go Go.Ab
theorem size20 (k : Int) (h : H) : ACalls Try.prog 20 [i64 k] h (fun v h' => h' = h ∧ v = .bool (decide (1 ≤ k ∧ k ≤ 7))) := by
  refine call_ Try.func20 rfl rfl (by kernel_rfl) ?_
  conv => whnf
  refine br_mk (fun hb => ?_) (fun hb => ?_)
  · conv => whnf
    simp at hb ⊢
    omega
  · conv => whnf
    simp at hb ⊢
    omega
theorem read24 {h : H} {p : Option (Nat × Nat)} {n : Nat} {xs : List Int} (o : Oct h p n xs) (hn : xs.length ≤ 70368744177664) : ACalls Try.prog 24 [.sl p n] h (fun v h' => ∃ g, v = .ptr (some (g, 0)) ∧ h.next ≤ g ∧ Rdr h' g xs false ∧ Ab.Mod none_ h h') := by
  refine call_ Try.func24 rfl rfl (by kernel_rfl) ?_
  conv => whnf
  refine (clone54 o.is hn).mono ?_
  rintro _ h' ⟨q, rfl, hq, hm⟩
  conv => whnf
  refine ⟨_, rfl, hm.next, ⟨q, _, H.obj_push_new _ _, hq.get (Mod.push none_ _ _)⟩, hm.trans' (Mod.push none_ _ _) (fun _ _ k => k) (fun _ _ k => k)⟩
theorem num26 {h : H} {g : Nat} {xs : List Int} {sp : Bool} (r : Rdr h g xs sp) (hx : xs.length ≤ 70368744177664) (k : Int) : ACalls Try.prog 26 [.ptr (some (g, 0)), i64 k] h (NumQ g xs sp k h) := by
  obtain ⟨p, n, hg, ho⟩ := r
  have hl := ho.len
  subst hl
  have r : Rdr h g xs sp := ⟨p, _, hg, ho⟩
  refine call_ Try.func26 rfl rfl (by kernel_rfl) ?_
  conv => whnf
  refine ⟨_, Cell.mk hg rfl, ?_⟩
  conv => whnf
  refine br_mk (fun hb => ?_) (fun hb => ?_)
  · conv => whnf
    refine ⟨_, _, hg, Nat.le_of_ble_eq_true rfl, ?_⟩
    conv => whnf
    have hk : rawOk xs sp (numK k) = false := by simp [rawOk, hb]
    refine ⟨by rw [rawV, hk]; rfl, ?_, r.modset _⟩
    rw [rawX, hk]
    exact r.set ho
  conv => whnf
  refine (size20 k h).mono ?_
  rintro _ h' ⟨eh, rfl⟩
  subst h'
  conv => whnf
  refine br_mk (fun hc => ?_) (fun hc => ?_)
  · conv => whnf
    refine ⟨_, _, hg, Nat.le_of_ble_eq_true rfl, ?_⟩
    conv => whnf
    have hk : rawOk xs sp (numK k) = false := by
      simp at hc
      rw [numK, if_pos (by omega)]
      simp [rawOk]
    refine ⟨by rw [rawV, hk]; rfl, ?_, r.modset _⟩
    rw [rawX, hk]
    exact r.set ho
  conv => whnf
  refine ⟨_, Cell.mk hg rfl, ?_⟩
  conv => whnf
  refine br_mk (fun hd => ?_) (fun hd => ?_)
  · conv => whnf
    refine ⟨_, _, hg, Nat.le_of_ble_eq_true rfl, ?_⟩
    conv => whnf
    have hk : rawOk xs sp (numK k) = false := by
      simp at hc hd
      rw [numK, if_neg (by omega)]
      simp [rawOk]
      omega
    refine ⟨by rw [rawV, hk]; rfl, ?_, r.modset _⟩
    rw [rawX, hk]
    exact r.set ho
  conv => whnf
  simp at hc hd
  obtain ⟨j, rfl⟩ : ∃ j : Nat, k = j := ⟨k.toNat, by omega⟩
  have e : numK j = j := by rw [numK, if_neg (by omega)]
  have hk : rawOk xs sp (j : Int) = true := by simp [rawOk, hb]; omega
  have hv : rawV xs sp (j : Int) = xs.take j := by rw [rawV, hk]; rfl
  refine ⟨fun env hh => hh = h ∧ ∃ i : Nat, i ≤ j ∧ env = [(6, i64 i), (5, i64 ((xs.take i).foldl shOr 0)), (1, i64 j), (0, .ptr (some (g, 0)))],
      fun env _ => match get env 6 with
        | .int _ z => ((j : Int) - z).toNat
        | _ => 0, ⟨_, Forget.cons rfl (Forget.cons rfl (Forget.cons rfl (Forget.cons rfl (Forget.nil _)))), rfl, 0, Nat.zero_le _, rfl⟩, ?_⟩
  rintro _ _ ⟨rfl, i, hi, rfl⟩
  conv => whnf
  refine br_mk (fun he => ?_) (fun he => ?_)
  · conv => whnf
    simp at he
    refine ⟨by decide, ?_⟩
    conv => whnf
    refine ⟨_, Cell.mk hg rfl, ?_⟩
    conv => whnf
    obtain ⟨i', c, rfl, hc'⟩ := ho.get? (j := i) (by omega)
    refine ⟨i', c, i, rfl, rfl, by omega, ?_⟩
    conv => whnf
    refine ⟨_, hc', ?_⟩
    conv => whnf
    refine ⟨_, Forget.cons ?_ (Forget.cons ?_ (Forget.cons rfl (Forget.cons rfl (Forget.nil _)))), ⟨rfl, i + 1, by omega, rfl⟩, ?_⟩
    · exact congrArg (V.int .i64) (succ_i64 he (by omega))
    · rw [foldl_take (by omega)]
      rfl
    · show ((j : Int) - ((i + 1 : Nat) : Int)).toNat < ((j : Int) - (i : Int)).toNat
      omega
  · conv => whnf
    simp at he
    have : i = j := by omega
    subst this
    refine ⟨_, Cell.mk hg rfl, ?_⟩
    conv => whnf
    refine ⟨⟨_, ho.is⟩, ?_⟩
    conv => whnf
    refine ⟨i, rfl, by omega, Nat.le_refl _, ?_⟩
    conv => whnf
    refine ⟨_, _, hg, Nat.le_of_ble_eq_true rfl, ?_⟩
    conv => whnf
    have he : splice [V.sl p xs.length, V.bool sp] (0 + 0) (vcells (V.sl (slp p (i * (T.at_ 5).size)) (xs.length - i))) = [.sl (slp p i) (xs.length - i), .bool sp] := by simp [splice, vcells, T5s]
    rw [he]
    have ms := Mod.set (S := one g) (ob := .row true 2 [.sl (slp p i) (xs.length - i), .bool sp]) rfl hg rfl
    refine ⟨?_, ?_, ms⟩
    · rw [e, hv]
    · rw [e, rawX, hk]
      refine ⟨slp p i, xs.length - i, ?_, ?_⟩
      · rw [H.obj_set_same hg]
        simp [hb]
      · have := (ho.cut (show i ≤ xs.length by omega) (Nat.le_refl _)).get ms
        rw [List.take_of_length_le (by simp)] at this
        simpa using this
end Go.Proofs.Ytnpfdppmpmnhbaa
