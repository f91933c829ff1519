/- Frames: what is in a frame that was wrapped, cut, or made longer. -/
import Derived.Test.YtnpfdppmpmnhbaaS23
set_option linter.unusedVariables false
namespace Go.Proofs.Ytnpfdppmpmnhbaa
open Go Go.Ab
def hd (a b c : Int) (n : Nat) : List Int := [a, b, c, IntKind.u8.wrap ((n : Int).fdiv (2 ^ (min (8 : Int).toNat IntKind.i64.bits))), IntKind.u8.wrap n]
def frm (a b c : Int) (xs : List Int) : List Int := (hd a b c xs.length ++ xs) ++ sum4 (sumV (hd a b c xs.length ++ xs))
theorem wrOk_frm (x : Int) (xs : List Int) : wrOk x xs = frm 77 3 (IntKind.u8.wrap x) xs := rfl
theorem sum4_length (c : Int) : (sum4 c).length = 4 := rfl
theorem hd_length (a b c : Int) (n : Nat) : (hd a b c n).length = 5 := rfl
theorem frm_length (a b c : Int) (xs : List Int) : (frm a b c xs).length = xs.length + 9 := by
  rw [frm, List.length_append, List.length_append, hd_length, sum4_length]
  omega
theorem hd_n {n : Nat} (h : n < 65536) : (IntKind.u8.wrap ((n : Int).fdiv (2 ^ (min (8 : Int).toNat IntKind.i64.bits))) * 256 + IntKind.u8.wrap n).toNat = n := by
  rw [wrap_u8_eq, wrap_u8_eq]
  have e : (n : Int).fdiv (2 ^ (min (8 : Int).toNat IntKind.i64.bits)) = (n : Int) / 256 := Int.fdiv_eq_ediv_of_nonneg _ (by decide)
  rw [e]
  omega
theorem frm_n {a b c : Int} {xs : List Int} (h : xs.length < 65536) : unN (frm a b c xs) = xs.length := hd_n h
theorem frm_take (a b c : Int) (xs : List Int) : (frm a b c xs).take (xs.length + 5) = hd a b c xs.length ++ xs := by
  rw [frm, List.take_append_of_le_length (by rw [List.length_append, hd_length]; omega)]
  exact List.take_of_length_le (by rw [List.length_append, hd_length]; omega)
theorem frm_drop (a b c : Int) (xs : List Int) : (frm a b c xs).drop (xs.length + 5) = sum4 (sumV (hd a b c xs.length ++ xs)) := by
  rw [frm, List.drop_append_of_le_length (by rw [List.length_append, hd_length]; omega), List.drop_eq_nil_of_le (by rw [List.length_append, hd_length]; omega)]
  rfl
theorem frm_body (a b c : Int) (xs : List Int) : ((frm a b c xs).drop 5).take xs.length = xs := by
  show (xs ++ sum4 _).take xs.length = xs
  rw [List.take_append_of_le_length (Nat.le_refl _), List.take_length]
theorem un_frm {a b c : Int} {xs : List Int} (h : xs.length ≤ 2000) : unV (frm a b c xs) = if a != 77 then (0, [], 2) else if b != 3 then (0, [], 3) else (c, xs, 0) := by
  have hl := frm_length a b c xs
  have hn := frm_n (a := a) (b := b) (c := c) (xs := xs) (by omega)
  rw [unV, hn, frm_take, frm_drop, frm_body]
  have g0 : (frm a b c xs).getD 0 0 = a := rfl
  have g1 : (frm a b c xs).getD 1 0 = b := rfl
  have g2 : (frm a b c xs).getD 2 0 = c := rfl
  rw [g0, g1, g2, hl]
  have e1 : decide (xs.length + 9 < 9) = false := by simp
  have e2 : (xs.length + 9 != xs.length + 9) = false := by simp
  have e3 : (sum4 (sumV (hd a b c xs.length ++ xs)) != sum4 (sumV (hd a b c xs.length ++ xs))) = false := by simp
  rw [e1, e2, e3, Bool.false_or, Bool.or_false, Bool.or_false]
  rw [if_neg (show ¬ (2000 < xs.length) by omega)]
theorem un_len {ys : List Int} (h : ys.length ≠ unN ys + 9) : unV ys = (0, [], 2) := by
  rw [unV, if_pos]
  simp [h]
theorem un_cut {a b c : Int} {xs : List Int} (h : xs.length < 65536) {r : Nat} (hr : r < (frm a b c xs).length) : unV ((frm a b c xs).take r) = (0, [], 2) := by
  by_cases h9 : r < 9
  · rw [unV, if_pos]
    simp
    omega
  · apply un_len
    have e : unN ((frm a b c xs).take r) = xs.length := by
      rw [← frm_n (a := a) (b := b) (c := c) h, unN, unN]
      have g : ∀ j, j < 5 → ((frm a b c xs).take r).getD j 0 = (frm a b c xs).getD j 0 := fun j hj => by
        rw [List.getD_eq_getElem?_getD, List.getElem?_take, if_pos (by omega), List.getD_eq_getElem?_getD]
      rw [g 3 (by decide), g 4 (by decide)]
    rw [e, List.length_take]
    rw [frm_length] at hr
    omega
theorem un_more {a b c m : Int} {xs : List Int} (h : xs.length < 65536) : unV (frm a b c xs ++ [m]) = (0, [], 2) := by
  apply un_len
  have e : unN (frm a b c xs ++ [m]) = xs.length := hd_n h
  rw [e, List.length_append, frm_length]
  simp
theorem hd_bts {a b c : Int} (ha : 0 ≤ a ∧ a < 256) (hb : 0 ≤ b ∧ b < 256) (hc : 0 ≤ c ∧ c < 256) (n : Nat) : Bts (hd a b c n) := by
  intro x hx
  simp only [hd, List.mem_cons, List.not_mem_nil, or_false] at hx
  rcases hx with rfl | rfl | rfl | rfl | rfl
  · exact ha
  · exact hb
  · exact hc
  · exact wrap_u8 _
  · exact wrap_u8 _
theorem frm_bts {a b c : Int} {xs : List Int} (ha : 0 ≤ a ∧ a < 256) (hb : 0 ≤ b ∧ b < 256) (hc : 0 ≤ c ∧ c < 256) (hx : Bts xs) : Bts (frm a b c xs) :=
  ((hd_bts ha hb hc _).append hx).append (sum4_bts _)
theorem wrBad_no {x : Int} {xs : List Int} (h0 : 0 ≤ x) (h1 : x < 256) (h : xs.length ≤ 2000) : wrBad x xs = false := by
  simp [wrBad]
  omega
theorem wrap_u8_id {x : Int} (h0 : 0 ≤ x) (h1 : x < 256) : IntKind.u8.wrap x = x := by
  rw [wrap_u8_eq]
  omega
/-- a frame that is wrapped -/
theorem wrap_ok {h : H} {p : Option (Nat × Nat)} {n : Nat} {xs : List Int} (o : SlIs h p n false 1 (ints .u8 xs)) {x : Int} (h0 : 0 ≤ x) (h1 : x < 256) (hn : xs.length ≤ 2000) : ACalls Try.prog 36 [i64 x, .sl p n] h (fun r h' => ∃ q, r = .tup [.sl q (xs.length + 9), i64 0] ∧ Oct h' q (xs.length + 9) (frm 77 3 x xs) ∧ Ab.Mod none_ h h') := by
  have hl := slo_len o
  subst hl
  refine (wrap36 o (by unfold maxLen; omega) x).mono ?_
  rintro _ h' ⟨q, rfl, oq, m⟩
  unfold wrV at oq ⊢
  rw [wrBad_no h0 h1 hn] at oq ⊢
  have e : wrOk x xs = frm 77 3 x xs := by rw [wrOk_frm, wrap_u8_id h0 h1]
  have e2 : (if false = true then [] else wrOk x xs) = frm 77 3 x xs := e
  rw [e2, frm_length] at oq ⊢
  exact ⟨q, rfl, oq, m⟩
theorem zeros_ints (k : IntKind) (n : Nat) : zerosV n [V.int k 0] = ints k (List.replicate n 0) := by
  unfold zerosV ints
  rw [List.map_replicate, show n * [V.int k 0].length = n from Nat.mul_one n]
  apply List.ext_getElem?
  intro i
  rw [List.getElem?_map, List.getElem?_replicate]
  by_cases h : i < n
  · rw [List.getElem?_range h, if_pos h]
    show some (([V.int k 0] : List V).getD (i % 1) .undef) = _
    rw [Nat.mod_one]
    rfl
  · rw [List.getElem?_eq_none (by simp; omega), if_neg h]
    rfl
theorem awake34 (h : H) : ACalls Try.prog 34 [] h (fun r h' => r = .bool true ∧ Ab.Mod none_ h h') := by
  refine call_ Try.func34 rfl rfl (by kernel_rfl) ?_
  conv => whnf
  refine (wrap_ok (x := 1) (xs := []) (SlIs.nil h false 1) (by decide) (by decide) (by decide)).mono ?_
  rintro _ h1 ⟨q1, rfl, o1, m1⟩
  conv => whnf
  refine ⟨_, rfl, ?_⟩
  conv => whnf
  refine ⟨_, rfl, ?_⟩
  conv => whnf
  refine (wrap36 (xs := []) (SlIs.nil h1 false 1) (by decide) 256).mono ?_
  rintro _ h2 ⟨q2, rfl, o2, m2⟩
  conv => whnf
  refine ⟨_, rfl, ?_⟩
  conv => whnf
  refine ⟨_, rfl, ?_⟩
  conv => whnf
  refine (un38 (o1.get m2).is (frm_bts (by decide) (by decide) (by decide) (fun _ k => by cases k)) (by decide)).mono ?_
  rintro _ h3 ⟨q3, l3, rfl, o3, m3⟩
  rw [un_frm (by decide)] at o3 ⊢
  have e3 := o3.len
  subst e3
  conv => whnf
  refine ⟨_, rfl, ?_⟩
  conv => whnf
  refine ⟨_, rfl, ?_⟩
  conv => whnf
  refine ⟨_, rfl, ?_⟩
  conv => whnf
  refine (un38 (xs := []) (SlIs.nil h3 false 1) (fun _ k => by cases k) (by decide)).mono ?_
  rintro _ h4 ⟨q4, l4, rfl, o4, m4⟩
  conv => whnf
  refine ⟨_, rfl, ?_⟩
  conv => whnf
  refine ⟨_, rfl, ?_⟩
  conv => whnf
  refine ⟨_, rfl, ?_⟩
  conv => whnf
  refine ⟨2001, rfl, rfl, by decide, by decide, ?_⟩
  conv => whnf
  rw [show zerosV 2001 (vcells (T.at_ 5).zero) = ints .u8 (List.replicate 2001 0) from zeros_ints _ _]
  have mp := Mod.push none_ h4 (.row true (T.at_ 5).size (ints .u8 (List.replicate 2001 0)))
  refine (wrap36 (xs := List.replicate 2001 0) (SlIs.row (n := 2001) (H.obj_push_new _ _) (by rw [ints_length, List.length_replicate])).weak (by decide) 1).mono ?_
  rintro _ h5 ⟨q5, rfl, o5, m5⟩
  have hw : wrBad 1 (List.replicate 2001 0) = true := by
    have e : 2000 < (List.replicate 2001 (0 : Int)).length := by rw [List.length_replicate]; decide
    rw [wrBad, decide_eq_true e, Bool.or_true]
  rw [hw]
  conv => whnf
  refine ⟨_, rfl, ?_⟩
  conv => whnf
  refine ⟨_, rfl, ?_⟩
  conv => whnf
  have o1' := ((((o1.get m2).get m3).get m4).get mp).get m5
  obtain ⟨i, c, rfl, k0⟩ := o1'.get? (j := 0) (by decide)
  obtain ⟨i', c', e, k1⟩ := o1'.get? (j := 1) (by decide)
  injection e with e
  injection e with e1 e2
  subst e1 e2
  refine ⟨_, _, 0, rfl, rfl, by decide, ?_⟩
  conv => whnf
  refine ⟨_, k0, ?_⟩
  conv => whnf
  refine ⟨_, _, 1, rfl, rfl, by decide, ?_⟩
  conv => whnf
  refine ⟨_, k1, ?_⟩
  conv => whnf
  exact ⟨rfl, mod_none (mod_none (mod_none (mod_none (mod_none m1 m2) m3) m4) mp) m5⟩
end Go.Proofs.Ytnpfdppmpmnhbaa
