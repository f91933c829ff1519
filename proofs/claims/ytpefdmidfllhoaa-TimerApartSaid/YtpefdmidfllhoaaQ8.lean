/- Closing, opening, lapsing, asking: the document's set. -/
import Derived.Test.YtpefdmidfllhoaaQ7
set_option linter.unusedVariables false
namespace Go.Proofs.Ytpefdmidfllhoaa
open Go Go.Ab
theorem own_putV {h : H} {p : Option (Nat × Nat)} {n : Nat} {xs : List V} (w : SlIs h p n true 1 xs) {j : Nat} (hj : j < n) (v : V) : ∃ i c sz cs, p = some (i, c) ∧ h.obj i = some (.row true sz cs) ∧ c + j * 1 + 1 ≤ cs.length ∧ SlIs (h.set i (.row true sz (splice cs (c + j * 1) [v]))) p n true 1 (xs.set j v) ∧ Ab.Mod (inSl p) h (h.set i (.row true sz (splice cs (c + j * 1) [v]))) := by
  obtain ⟨hl, hr⟩ := w
  rcases hr with ⟨rfl, _⟩ | ⟨i, c, o', r, rfl, e2, e3, e4, e5⟩
  · omega
  · obtain rfl := e3 rfl
    refine ⟨i, c, 1, r, rfl, e2, by omega, ⟨by rw [List.length_set, hl], .inr ⟨i, c, true, _, rfl, H.obj_set_same e2, fun e => e, ?_, ?_⟩⟩, Mod.set ⟨c, rfl⟩ e2 rfl⟩
    · rw [splice_one, List.length_set]
      exact e4
    · rw [splice_one, Nat.mul_one, Nat.mul_one, List.drop_set, if_neg (by omega), List.take_set]
      rw [Nat.mul_one] at e5
      rw [e5, show c + j - c = j by omega]
theorem bools_get {l : List Bool} {j : Nat} (h : j < l.length) : (bools l)[j]? = some (.bool (l.getD j false)) := by
  simp [bools, List.getElem?_eq_getElem h, List.getD_eq_getElem?_getD]
theorem bools_set (l : List Bool) (j : Nat) (b : Bool) : (bools l).set j (.bool b) = bools (l.set j b) := by simp [bools, List.map_set]
theorem zeros_bools (n : Nat) : zerosV n [V.bool false] = bools (List.replicate n false) := by
  unfold zerosV bools
  rw [List.map_replicate, show n * [V.bool false].length = n from Nat.mul_one n]
  apply List.ext_getElem?
  intro i
  rw [List.getElem?_map, List.getElem?_replicate]
  by_cases h : i < n
  · rw [List.getElem?_range h, if_pos h]
    show some (([V.bool false] : List V).getD (i % 1) .undef) = _
    rw [Nat.mod_one]
    rfl
  · rw [List.getElem?_eq_none (by simp; omega), if_neg h]
    rfl
theorem slb_get {h : H} {p : Option (Nat × Nat)} {n : Nat} {own : Bool} {l : List Bool} (o : SlIs h p n own 1 (bools l)) (hl : l.length = n) {j : Nat} (hj : j < n) : ∃ i c, p = some (i, c) ∧ Cell h i (c + j * 1) (.bool (l.getD j false)) := by
  rw [Nat.mul_one]
  exact SlIs.cell o (bools_get (by omega))
def PlQ (h : H) (l : List Int) (r : V) (h' : H) : Prop := ∃ q, r = .sl q l.length ∧ NewSl h h' q l.length 1 (ints .i64 l) ∧ Ab.Mod none_ h h'
theorem listed73 {h : H} {q : Option (Nat × Nat)} {n : Nat} {l : List Bool} (o : SlIs h q n false 1 (bools l)) (hl : l.length = n) (hn : n ≤ 1000000) :
    ACalls Try.prog 73 [.sl q n] h (PlQ h (pl n fun k => l.getD k false)) := by
  refine call_ Try.func73 rfl rfl (by kernel_rfl) ?_
  conv => whnf
  refine ⟨fun env hh => ∃ (j : Nat) (z : Int) (po : Option (Nat × Nat)), j ≤ n ∧ z = j ∧ NewSl h hh po (pl j fun k => l.getD k false).length 1 (ints .i64 (pl j fun k => l.getD k false)) ∧ Ab.Mod none_ h hh ∧
      env = [(4, i64 z), (3, .sl po (pl j fun k => l.getD k false).length), (0, .sl q n)],
    fun env _ => match get env 4 with
      | .int _ z => (n - z).toNat
      | _ => 0, ⟨_, Forget.cons rfl (Forget.cons rfl (Forget.cons rfl (Forget.nil _))), 0, _, none, Nat.zero_le _, rfl, NewSl.nil _ _ _, ⟨Nat.le_refl _, fun _ _ _ => rfl⟩, rfl⟩, ?_⟩
  rintro _ hh ⟨j, z, po, hj, rfl, no, mo, rfl⟩
  conv => whnf
  refine br_mk (fun hd => ?_) (fun hd => ?_)
  · conv => whnf
    have hd : j < n := by simpa using hd
    obtain ⟨i1, c1, f1, f2⟩ := slb_get (SlIs.old o mo (fun _ _ k => k)) hl hd
    refine ⟨i1, c1, j, f1, rfl, hd, ?_⟩
    conv => whnf
    refine ⟨_, f2, ?_⟩
    conv => whnf
    have hjl := pl_le j fun k => l.getD k false
    refine br_mk (fun hb => ?_) (fun hb => ?_)
    · have e0 : (pl (j + 1) fun k => l.getD k false) = (pl j fun k => l.getD k false) ++ [(j : Int)] := by rw [pl_succ, if_pos hb]
      conv => whnf
      obtain ⟨q1', q2', q3'⟩ := app1 no mo [i64 (j : Int)] rfl
      refine ⟨_, _, q1', q2', by rw [show (T.at_ 3).bytes = 8 from rfl]; omega, by omega, fun po2 h6 hs hm6 hf => ?_⟩
      obtain ⟨no2, mo2, m6⟩ := q3' po2 h6 hs hm6 hf
      conv => whnf
      have e6 : ints .i64 (pl j fun k => l.getD k false) ++ [i64 (j : Int)] = ints .i64 (pl (j + 1) fun k => l.getD k false) := by rw [e0, ints_append]; rfl
      have e7 : (pl j fun k => l.getD k false).length + 1 = (pl (j + 1) fun k => l.getD k false).length := by rw [e0]; simp
      rw [e6, e7] at no2
      rw [e7]
      refine ⟨_, Forget.cons rfl (Forget.cons rfl (Forget.cons rfl (Forget.nil _))), ⟨j + 1, _, po2, hd, succ_i64 hd (by omega), no2, mo2, rfl⟩, ?_⟩
      exact mu_lt hd (by omega)
    · have e0 : (pl (j + 1) fun k => l.getD k false) = (pl j fun k => l.getD k false) := by rw [pl_succ, if_neg (by rw [hb]; simp), List.append_nil]
      conv => whnf
      rw [← e0] at no ⊢
      refine ⟨_, Forget.cons rfl (Forget.cons rfl (Forget.cons rfl (Forget.nil _))), ⟨j + 1, _, po, hd, succ_i64 hd (by omega), no, mo, rfl⟩, ?_⟩
      exact mu_lt hd (by omega)
  · conv => whnf
    have hd : ¬ j < n := by simpa using hd
    obtain rfl : j = n := by omega
    exact ⟨po, rfl, no, mo⟩
def bt (n : Nat) (F : Nat → Bool) : List Bool := (List.range n).map F
theorem bt_len (n : Nat) (F : Nat → Bool) : (bt n F).length = n := by simp [bt]
theorem bt_get {n : Nat} (F : Nat → Bool) {j : Nat} (h : j < n) : (bt n F).getD j false = F j := by
  simp [bt, List.getD_eq_getElem?_getD, h]
theorem bt_cong {n : Nat} {F G : Nat → Bool} (h : ∀ k, k < n → F k = G k) : bt n F = bt n G := by
  unfold bt
  exact List.map_congr_left (fun k hk => h k (List.mem_range.1 hk))
theorem bt_set {n : Nat} {F G : Nat → Bool} {j : Nat} {b : Bool} (hj : j < n) (h1 : G j = b) (h : ∀ k, k < n → k ≠ j → G k = F k) : (bt n F).set j b = bt n G := by
  apply List.ext_getElem?
  intro i
  rw [List.getElem?_set]
  by_cases e : j = i
  · subst e
    simp [bt, hj, h1]
  · rw [if_neg e]
    by_cases hi : i < n
    · simp [bt, hi, h i hi (Ne.symm e)]
    · simp [bt, hi]
theorem new_bools (h : H) (n : Nat) : NewSl h (h.push (.row true 1 (zerosV n [V.bool false]))) (some (h.next, 0)) n 1 (bools (bt n fun _ => false)) := by
  have e : zerosV n [V.bool false] = bools (bt n fun _ => false) := by
    rw [zeros_bools]
    congr 1
    apply List.ext_getElem
    · simp [bt]
    · intro i h1 h2
      simp [bt]
  rw [e]
  refine ⟨SlIs.row (H.obj_push_new _ _) (by rw [bools_length, bt_len, Nat.mul_one]), fun i o e => ?_⟩
  injection e with e
  injection e with e
  omega
theorem NewSl.put {S : Nat → Prop} {h0 hh : H} {p : Option (Nat × Nat)} {n : Nat} {xs : List V} (w : NewSl h0 hh p n 1 xs) (m : Ab.Mod S h0 hh) {j : Nat} (hj : j < n) (v : V) :
    ∃ i c sz cs, p = some (i, c) ∧ hh.obj i = some (.row true sz cs) ∧ c + j * 1 + 1 ≤ cs.length ∧ NewSl h0 (hh.set i (.row true sz (splice cs (c + j * 1) [v]))) p n 1 (xs.set j v) ∧ Ab.Mod S h0 (hh.set i (.row true sz (splice cs (c + j * 1) [v]))) ∧ Ab.Mod (inSl p) hh (hh.set i (.row true sz (splice cs (c + j * 1) [v]))) := by
  obtain ⟨i, c, sz, cs, a1, a2, a3, a4, a5⟩ := own_putV w.1 hj v
  exact ⟨i, c, sz, cs, a1, a2, a3, ⟨a4, w.2⟩, NewSl.mod w m a5, a5⟩
theorem mask53 {h : H} {g : Nat} {p : Option (Nat × Nat)} {U : List Int} (s : St h g p U) (hU : U.length ≤ 512) (hp : Pos U) : ACalls Try.prog 53 [.ptr (some (g, 0))] h (MaskQ h U) := by
  refine call_ Try.func53 rfl rfl (by kernel_rfl) ?_
  conv => whnf
  refine ⟨_, Cell.mk s.box rfl, ?_⟩
  conv => whnf
  refine ⟨U.length, rfl, rfl, by omega, by rw [show (T.at_ 4).bytes = 1 from rfl]; omega, ?_⟩
  conv => whnf
  have m0 := Mod.push none_ h (.row true 1 (zerosV U.length [V.bool false]))
  have n0 := new_bools h U.length
  refine ⟨fun env hh => ∃ (j : Nat) (z : Int), j ≤ U.length ∧ z = j ∧ NewSl h hh (some (h.next, 0)) U.length 1 (bools (bt U.length fun k => decide (k < j) && decide (0 < U.getD k 0))) ∧ Ab.Mod none_ h hh ∧
      env = [(4, i64 z), (3, .sl (some (h.next, 0)) U.length), (0, .ptr (some (g, 0)))],
    fun env _ => match get env 4 with
      | .int _ z => (U.length - z).toNat
      | _ => 0, ⟨_, Forget.cons rfl (Forget.cons rfl (Forget.cons rfl (Forget.nil _))), 0, _, Nat.zero_le _, rfl, by
        rw [bt_cong (G := fun _ => false) (fun k hk => by simp)]
        exact n0, m0, rfl⟩, ?_⟩
  clear n0 m0
  rintro _ hh ⟨j, z, hj, rfl, no, mo, rfl⟩
  conv => whnf
  have st := s.old mo (fun _ _ k => k)
  refine ⟨_, Cell.mk st.box rfl, ?_⟩
  conv => whnf
  refine br_mk (fun hd => ?_) (fun hd => ?_)
  · conv => whnf
    have hd : j < U.length := by simpa using hd
    refine ⟨_, Cell.mk st.box rfl, ?_⟩
    conv => whnf
    obtain ⟨i1, c1, f1, f2⟩ := st.cell hd
    refine ⟨i1, c1, j, f1, rfl, hd, ?_⟩
    conv => whnf
    refine ⟨_, f2, ?_⟩
    conv => whnf
    have hne : (U.getD j 0 != 0) = decide (0 < U.getD j 0) := by
      have := hp j
      by_cases h0 : U.getD j 0 = 0
      · rw [h0]
        rfl
      · rw [decide_eq_true (by omega)]
        simpa using h0
    rw [hne]
    obtain ⟨i2, c2, sz2, cs2, b1, b2, b3, b4, b5, b6⟩ := NewSl.put no mo hd (.bool (decide (0 < U.getD j 0)))
    refine ⟨i2, c2, j, b1, rfl, hd, ?_⟩
    conv => whnf
    refine ⟨_, _, b2, b3, ?_⟩
    conv => whnf
    rw [bools_set, bt_set (G := fun k => decide (k < j + 1) && decide (0 < U.getD k 0)) hd (by simp) (fun k hk hkj => by
      simp only [show decide (k < j + 1) = decide (k < j) from decide_eq_decide.2 (by omega)])] at b4
    exact ⟨_, Forget.cons rfl (Forget.cons rfl (Forget.cons rfl (Forget.nil _))), ⟨j + 1, _, hd, succ_i64 hd (by omega), b4, b5, rfl⟩, mu_lt hd (by omega)⟩
  · conv => whnf
    have hd : ¬ j < U.length := by simpa using hd
    obtain rfl : j = U.length := by omega
    rw [bt_cong (G := fun k => decide (0 < U.getD k 0)) (fun k hk => by simp [hk])] at no
    exact ⟨_, rfl, no, mo⟩
end Go.Proofs.Ytpefdmidfllhoaa
