/- The readers: Raw of octets, Num of both. -/
import Derived.Test.YtnpfdppmpmnhbaaS2
set_option linter.unusedVariables false
namespace Go.Proofs.Ytnpfdppmpmnhbaa
open Go Go.Ab
theorem rawQ_no' {g : Nat} {xs : List Int} {sp : Bool} {k : Int} {h h' : H} (hk : rawOk xs sp k = false) (r : Rdr h' g xs true) (m : Ab.Mod (one g) h h') : RawQ g xs sp k h (.sl none 0) h' :=
  ⟨none, 0, rfl, by rw [rawV, hk]; exact Oct.nil _ _, by rw [rawX, hk]; exact r, m⟩
theorem raw27 {h : H} {g : Nat} {xs : List Int} {sp : Bool} (r : Rdr h g xs sp) (hx : xs.length ≤ 70368744177664) (k : Int) : ACalls Try.prog 27 [.ptr (some (g, 0)), i64 k] h (RawQ g xs sp k h) := by
  obtain ⟨p, n, hg, ho⟩ := r
  have hl := ho.len
  subst hl
  have r : Rdr h g xs sp := ⟨p, _, hg, ho⟩
  refine call_ Try.func27 rfl rfl (by kernel_rfl) ?_
  conv => whnf
  refine ⟨_, Cell.mk hg rfl, ?_⟩
  conv => whnf
  refine br_mk (fun hb => ?_) (fun hb => ?_)
  · conv => whnf
    exact rawQ_no' (by simp [rawOk, hb]) (by rw [← hb]; exact r) ⟨Nat.le_refl _, fun _ _ _ => rfl⟩
  conv => whnf
  refine br_mk (fun hc => ?_) (fun hc => ?_)
  · conv => whnf
    refine ⟨_, _, hg, Nat.le_of_ble_eq_true rfl, ?_⟩
    conv => whnf
    simp at hc
    exact rawQ_no' (by simp [rawOk, hb]; omega) (r.set ho) (r.modset _)
  conv => whnf
  refine ⟨_, Cell.mk hg rfl, ?_⟩
  conv => whnf
  refine br_mk (fun hd => ?_) (fun hd => ?_)
  · conv => whnf
    refine ⟨_, _, hg, Nat.le_of_ble_eq_true rfl, ?_⟩
    conv => whnf
    simp at hd
    exact rawQ_no' (by simp [rawOk, hb]; omega) (r.set ho) (r.modset _)
  conv => whnf
  simp at hc hd
  obtain ⟨j, rfl⟩ : ∃ j : Nat, k = j := ⟨k.toNat, by omega⟩
  refine ⟨_, Cell.mk hg rfl, ?_⟩
  conv => whnf
  refine ⟨⟨_, ho.is⟩, ?_⟩
  conv => whnf
  refine ⟨j, rfl, Nat.zero_le _, by omega, ?_⟩
  conv => whnf
  refine (clone54 (ho.cut (Nat.zero_le j) (by omega)).is (by simp; omega)).mono ?_
  rintro _ h' ⟨q, rfl, hq, hm⟩
  conv => whnf
  have hg2 := hm.get hg (.inl (fun k => k))
  refine ⟨_, Cell.mk hg2 rfl, ?_⟩
  conv => whnf
  have ho2 := ho.get hm
  refine ⟨⟨_, ho2.is⟩, ?_⟩
  conv => whnf
  refine ⟨j, rfl, by omega, Nat.le_refl _, ?_⟩
  conv => whnf
  refine ⟨_, _, hg2, Nat.le_of_ble_eq_true rfl, ?_⟩
  conv => whnf
  have hk : rawOk xs sp (j : Int) = true := by simp [rawOk, hb]; omega
  have he : splice [V.sl p xs.length, V.bool sp] (0 + 0) (vcells (V.sl (slp p (j * (T.at_ 5).size)) (xs.length - j))) = [.sl (slp p j) (xs.length - j), .bool sp] := by simp [splice, vcells, T5s]
  rw [he]
  have ms := Mod.set (S := one g) (ob := .row true 2 [.sl (slp p j) (xs.length - j), .bool sp]) rfl hg2 rfl
  refine ⟨q, _, rfl, ?_, ?_, ?_⟩
  · rw [rawV, hk]
    simpa using hq.get ms
  · rw [rawX, hk]
    refine ⟨slp p j, xs.length - j, ?_, ?_⟩
    · rw [H.obj_set_same hg2]
      simp [hb]
    · have := (ho2.cut (show j ≤ xs.length by omega) (Nat.le_refl _)).get ms
      rw [List.take_of_length_le (by simp)] at this
      simpa using this
  · exact hm.trans' ms (fun _ _ k => k.elim) (fun _ _ k => k)

/-- one octet more -/
def shOr (n b : Int) : Int := IntKind.i64.wrap (BitVec.ofInt IntKind.i64.bits (IntKind.i64.wrap (n * 2 ^ (min (8 : Int).toNat IntKind.i64.bits))) ||| BitVec.ofInt IntKind.i64.bits (IntKind.i64.wrap b)).toNat
def numK (k : Int) : Int := if k < 1 ∨ 7 < k then -1 else k
def NumQ' (g : Nat) (xs : List Int) (sp : Bool) (k : Int) (h : H) (v : V) (h' : H) : Prop := v = i64 ((rawV xs sp k).foldl shOr 0) ∧ Rdr h' g (rawX xs sp k) (!rawOk xs sp k) ∧ Ab.Mod (one g) h h'
def numV (xs : List Int) (sp : Bool) (k : Int) : Int := (rawV xs sp (numK k)).foldl shOr 0
def NumQ (g : Nat) (xs : List Int) (sp : Bool) (k : Int) (h : H) (v : V) (h' : H) : Prop := NumQ' g xs sp (numK k) h v h'
theorem Oct.get? {h : H} {p : Option (Nat × Nat)} {n : Nat} {xs : List Int} (o : Oct h p n xs) {j : Nat} (hj : j < n) : ∃ i c, p = some (i, c) ∧ Cell h i (c + j * 1) (.int .u8 (xs.getD j 0)) := by
  have hl := o.len
  obtain ⟨i, c, rfl⟩ := RoSl.some o (by omega)
  exact ⟨i, c, rfl, by rw [Nat.mul_one]; exact RoSl.cell o (ints_get (by omega))⟩
theorem foldl_take {α : Type} {f : α → Int → α} {z : α} {xs : List Int} {j : Nat} (hj : j < xs.length) : (xs.take (j + 1)).foldl f z = f ((xs.take j).foldl f z) (xs.getD j 0) := by
  rw [List.take_add_one, List.foldl_append, List.getElem?_eq_getElem hj, List.getD_eq_getElem?_getD, List.getElem?_eq_getElem hj]
  rfl
theorem succ_i64 {j n : Nat} (h : j < n) (hn : n ≤ 70368744177664) : IntKind.i64.wrap ((j : Int) + 1) = ((j + 1 : Nat) : Int) := by
  rw [wrap_i64 (by omega) (by omega)]
  omega

theorem num25 {h : H} {g : Nat} {xs : List Int} {sp : Bool} (r : Rdr h g xs sp) (hx : xs.length ≤ 70368744177664) (k : Int) : ACalls Try.prog 25 [.ptr (some (g, 0)), i64 k] h (NumQ g xs sp k h) := by
  unfold NumQ
  generalize hkk : numK k = kk
  refine call_ Try.func25 rfl rfl (by kernel_rfl) ?_
  conv => whnf
  refine br_mk (fun hb => ?_) (fun hb => ?_)
  rotate_left
  conv => whnf
  refine br_mk (fun hc => ?_) (fun hc => ?_)
  all_goals (conv => whnf)
  all_goals refine ACalls.mono (Q := RawQ g xs sp kk h) ?_ ?_
  · simp at hc
    rw [← hkk, numK, if_pos (.inr hc)]
    exact raw27 r hx _
  rotate_left
  · simp at hb hc
    rw [← hkk, numK, if_neg (by omega)]
    exact raw27 r hx _
  rotate_left
  · simp at hb
    rw [← hkk, numK, if_pos (.inl hb)]
    exact raw27 r hx _
  all_goals
    rintro _ h' ⟨q, m, rfl, hq, hr, hm⟩
    have hl := hq.len
    subst hl
    have hml : (rawV xs sp kk).length ≤ 70368744177664 := by
      simp [rawV]
      split <;> simp <;> omega
    unfold NumQ'
    generalize rawV xs sp kk = ys at *
    conv => whnf
    refine ⟨fun env hh => hh = h' ∧ ∃ j : Nat, j ≤ ys.length ∧ env = [(17, i64 j), (4, i64 ((ys.take j).foldl shOr 0)), (16, i64 ys.length), (15, .sl q ys.length)],
      fun env _ => match get env 17 with
        | .int _ z => (ys.length - z).toNat
        | _ => 0, ⟨_, Forget.cons rfl (Forget.cons rfl (Forget.cons rfl (Forget.cons rfl (Forget.nil _)))), rfl, 0, Nat.zero_le _, rfl⟩, ?_⟩
    rintro _ _ ⟨rfl, j, hj, rfl⟩
    conv => whnf
    refine br_mk (fun hb => ?_) (fun hb => ?_)
    · conv => whnf
      simp at hb
      obtain ⟨i, c, rfl, hc⟩ := hq.get? (j := j) (by omega)
      refine ⟨i, c, j, rfl, rfl, by omega, ?_⟩
      conv => whnf
      refine ⟨_, hc, ?_⟩
      conv => whnf
      refine ⟨by decide, ?_⟩
      conv => whnf
      refine ⟨_, Forget.cons ?_ (Forget.cons ?_ (Forget.cons rfl (Forget.cons rfl (Forget.nil _)))), ⟨rfl, j + 1, by omega, rfl⟩, ?_⟩
      · exact congrArg (V.int .i64) (succ_i64 hb hml)
      · rw [foldl_take hb]
        rfl
      · show (ys.length - ((j + 1 : Nat) : Int)).toNat < (ys.length - (j : Int)).toNat
        omega
    · conv => whnf
      simp at hb
      have : j = ys.length := by omega
      subst this
      rw [List.take_length]
      exact ⟨rfl, hr, hm⟩
end Go.Proofs.Ytnpfdppmpmnhbaa
