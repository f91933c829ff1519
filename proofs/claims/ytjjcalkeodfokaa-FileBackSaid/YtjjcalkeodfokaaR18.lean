/- Files: turned, cut, longer; one file is of one graph. -/
import Derived.Test.YtjjcalkeodfokaaR17
set_option linter.unusedVariables false
namespace Go.Proofs.Ytjjcalkeodfokaa
open Go Go.Ab
def flip1 (c : List Int) (k : Nat) : List Int := c.set (k / 8) (tw (c.getD (k / 8) 0) (k % 8))
theorem flip1_length (c : List Int) (k : Nat) : (flip1 c k).length = c.length := by simp [flip1]
theorem flip1_bts {c : List Int} (hb : Bts c) (k : Nat) : Bts (flip1 c k) := by
  intro x hx
  rcases List.mem_or_eq_of_mem_set hx with h | rfl
  · exact hb x h
  · exact tw_bts _ _
theorem syn_flip {c : List Int} {m : Nat} (hl : c.length = m + 4) (hb : Bts c) {k : Nat} (hk : k / 8 < c.length) : syn (flip1 c k) m = syn c m ^^^ U (expo m k) := by
  have hx := hb _ (getD_mem hk)
  have hj : k % 8 < 8 := Nat.mod_lt _ (by decide)
  have ht := (tw_facts (c.getD (k / 8) 0).toNat (by omega) (k % 8) hj).1
  rw [Int.toNat_of_nonneg hx.1] at ht
  unfold flip1 expo
  generalize tw (c.getD (k / 8) 0) (k % 8) = y at *
  have hu := U_bit (k % 8) (by omega)
  by_cases h : k / 8 < m
  · rw [if_pos h, syn, syn, List.drop_set_of_lt h, List.take_set]
    rw [crcB_set (c.take m) (k / 8) (c.getD (k / 8) 0) y _ ones (by rw [List.getElem?_take, if_pos h, get_getD hk]) ht]
    rw [← hu, U_add, List.length_take, Nat.min_eq_left (by omega)]
    have : 31 - k % 8 + 8 * (m - k / 8) = 8 * (m - k / 8) + 31 - k % 8 := by omega
    rw [this, ← BitVec.xor_assoc ones, ← BitVec.xor_assoc]
  · rw [if_neg h, syn, syn]
    have e1 : (c.set (k / 8) y).take m = c.take m := by
      rw [List.take_set]
      apply List.ext_getElem?
      intro i
      rw [List.getElem?_set]
      split
      · rename_i e
        subst e
        rw [List.length_take, if_neg (by omega), List.getElem?_take, if_neg (by omega)]
      · rfl
    have e2 : (c.set (k / 8) y).drop m = (c.drop m).set (k / 8 - m) y := by
      rw [List.drop_set, if_neg h]
    rw [e1, e2, word, wordB_set (c.drop m) (k / 8 - m) (c.getD (k / 8) 0) y _ _ (by rw [List.getElem?_drop, show m + (k / 8 - m) = k / 8 by omega, get_getD hk]) ht]
    rw [List.length_drop, ← BitVec.shiftLeft_add, ← U_bit _ (show k % 8 + 8 * (c.length - m - 1 - (k / 8 - m)) < 32 by omega)]
    have : 31 - (k % 8 + 8 * (c.length - m - 1 - (k / 8 - m))) = 31 - (8 * (3 - (k / 8 - m)) + k % 8) := by omega
    rw [this, BitVec.xor_assoc, BitVec.xor_comm (U _), ← BitVec.xor_assoc]
    rfl
theorem EncF.len {b : List Int} {g : Gra} (e : EncF b g) : b.length = 14 + 4 * g.ns.length + 6 * g.es.length + 4 * g.bs.length := by
  rw [← e.is, List.length_append, sum4_length, bodyF_length]
  omega
theorem EncF.bts {b : List Int} {g : Gra} (e : EncF b g) : Bts b := by
  rw [← e.enc]
  exact encF_bts g
theorem EncF.syn {b : List Int} {g : Gra} (e : EncF b g) {m : Nat} (hm : b.length = m + 4) : syn b m = 0#32 := by
  refine (syn_iff hm e.bts).1 ?_
  have hl : (bodyF g).length = m := by
    have := e.len
    rw [bodyF_length]
    omega
  rw [← e.is, List.take_left' hl, List.drop_left' hl]
def GoalSyn (m : Nat) (b : List Int) (a d f : Nat) : Prop := par (syn (flip1 (flip1 (flip1 b a) d) f) m) = true
theorem EncF.flip3 {b : List Int} {g : Gra} (e : EncF b g) {a d f : Nat} (ha : a / 8 < b.length) (hd : d / 8 < b.length) (hf : f / 8 < b.length) :
    flip1 (flip1 (flip1 b a) d) f ≠ b ∧ ∀ g', ¬ EncF (flip1 (flip1 (flip1 b a) d) f) g' := by
  obtain ⟨m, hm⟩ : ∃ m, b.length = m + 4 := ⟨b.length - 4, by have := e.len; omega⟩
  have h0 := e.syn hm
  have b1 := flip1_bts e.bts a
  have b2 := flip1_bts b1 d
  have h3 : GoalSyn m b a d f := by
    unfold GoalSyn
    rw [syn_flip (by rw [flip1_length, flip1_length, hm]) b2 (by rw [flip1_length, flip1_length]; exact hf), syn_flip (by rw [flip1_length, hm]) b1 (by rw [flip1_length]; exact hd), syn_flip hm e.bts ha, h0]
    rw [par_xor, par_xor, par_xor, par_U, par_U, par_U, par_zero]
    rfl
  unfold GoalSyn at h3
  refine ⟨fun k => ?_, fun g' e' => ?_⟩
  · rw [k, h0, par_zero] at h3
    cases h3
  · rw [e'.syn (by rw [flip1_length, flip1_length, flip1_length, hm]), par_zero] at h3
    cases h3
theorem flatB_inj {k : Nat} (h7 : k ≤ 7) (h1 : 1 ≤ k) : ∀ {xs ys : List Int}, Fit k xs → Fit k ys → flatB k xs = flatB k ys → xs = ys
  | [], [], _, _, _ => rfl
  | [], y :: ys, _, _, h => by
    have := congrArg List.length h
    rw [flatB_length, flatB_length, List.length_cons, List.length_nil, Nat.zero_mul, Nat.succ_mul] at this
    omega
  | x :: xs, [], _, _, h => by
    have := congrArg List.length h
    rw [flatB_length, flatB_length, List.length_cons, List.length_nil, Nat.zero_mul, Nat.succ_mul] at this
    omega
  | x :: xs, y :: ys, hx, hy, h => by
    have h : be x k ++ flatB k xs = be y k ++ flatB k ys := h
    obtain ⟨e1, e2⟩ := List.append_inj h (by rw [be_length, be_length])
    have hx0 := hx x (List.mem_cons_self ..)
    have hy0 := hy y (List.mem_cons_self ..)
    have e3 := be_fold h7 hx0.1 hx0.2
    rw [e1, be_fold h7 hy0.1 hy0.2] at e3
    rw [e3, flatB_inj h7 h1 (fun v hv => hx v (List.mem_cons_of_mem _ hv)) (fun v hv => hy v (List.mem_cons_of_mem _ hv)) e2]
theorem EncF.head {b : List Int} {g : Gra} (e : EncF b g) : b.take 10 = mile ++ flatB 2 (headN g) := by
  have h := e.split
  have h2 : numsF g = headN g ++ (g.ns.flatMap pN ++ g.es.flatMap eN ++ g.bs.flatMap pN) := by
    simp [numsF, List.append_assoc]
  rw [h2, flatB_append, List.append_assoc, ← List.append_assoc] at h
  rw [h]
  refine List.take_left' ?_
  rw [List.length_append, flatB_length]
  rfl
theorem EncF.heads {b b' : List Int} {g g' : Gra} (e : EncF b g) (e' : EncF b' g') (h : b.take 10 = b'.take 10) : g.ns.length = g'.ns.length ∧ g.es.length = g'.es.length ∧ g.bs.length = g'.bs.length := by
  rw [e.head, e'.head] at h
  have h := flatB_inj (by decide) (by decide) (fit_head e.ok) (fit_head e'.ok) (List.append_cancel_left h)
  simp only [headN, List.cons.injEq, and_true] at h
  omega
theorem EncF.cut {b : List Int} {g : Gra} (e : EncF b g) {n : Nat} (hn : n < b.length) : ∀ g', ¬ EncF (b.take n) g' := fun g' e' => by
  have l1 := e.len
  have l2 := e'.len
  rw [List.length_take, Nat.min_eq_left (by omega)] at l2
  have := e.heads e' (by rw [List.take_take, Nat.min_eq_left (by omega)])
  omega
theorem EncF.longer {b : List Int} {g : Gra} (e : EncF b g) (x : Int) : ∀ g', ¬ EncF (b ++ [x]) g' := fun g' e' => by
  have l1 := e.len
  have l2 := e'.len
  rw [List.length_append] at l2
  have := e.heads e' (by rw [List.take_append_of_le_length (by omega)])
  simp at l2
  omega
theorem flat_inj {α : Type} {f : α → List Int} {sz : Nat} (hl : ∀ a, (f a).length = sz) (hf : ∀ a b, f a = f b → a = b) : ∀ {xs ys : List α}, xs.length = ys.length → xs.flatMap f = ys.flatMap f → xs = ys
  | [], [], _, _ => rfl
  | [], _ :: _, h, _ => by cases h
  | _ :: _, [], h, _ => by cases h
  | x :: xs, y :: ys, h, e => by
    rw [List.flatMap_cons, List.flatMap_cons] at e
    obtain ⟨e1, e2⟩ := List.append_inj e (by rw [hl, hl])
    rw [hf _ _ e1, flat_inj hl hf (by simpa using h) e2]
theorem pN_inj (a b : Int × Int) (h : pN a = pN b) : a = b := by
  simp only [pN, List.cons.injEq, and_true] at h
  exact Prod.ext h.1 h.2
theorem eN_inj (a b : Int × Int × Int) (h : eN a = eN b) : a = b := by
  simp only [eN, List.cons.injEq, and_true] at h
  exact Prod.ext h.1 (Prod.ext h.2.1 h.2.2)
theorem EncF.inj {b : List Int} {g g' : Gra} (e : EncF b g) (e' : EncF b g') : eqG g g' := by
  obtain ⟨h1, h2, h3⟩ := e.heads e' rfl
  have hs := e.split
  rw [e'.split] at hs
  have hs := List.append_cancel_left hs
  have hl : (flatB 2 (numsF g')).length = (flatB 2 (numsF g)).length := by
    have q : (headN g).length = (headN g').length := rfl
    rw [flatB_length, flatB_length, numsF, numsF]
    simp only [List.length_append, pN_len, eN_len, h1, h2, h3, q]
  have hn := flatB_inj (by decide) (by decide) (fit_nums e'.ok) (fit_nums e.ok) (List.append_inj hs hl).1
  unfold numsF at hn
  have hn1 := List.append_inj hn (by
    have q : (headN g).length = (headN g').length := rfl
    simp only [List.length_append, pN_len, eN_len, h1, h2, q])
  have hn2 := List.append_inj hn1.1 (by
    have q : (headN g).length = (headN g').length := rfl
    simp only [List.length_append, pN_len, h1, q])
  have hn3 := List.append_inj hn2.1 rfl
  exact ⟨flat_inj (sz := 2) (fun _ => rfl) pN_inj h1.symm hn3.2, flat_inj (sz := 3) (fun _ => rfl) eN_inj h2.symm hn2.2, flat_inj (sz := 2) (fun _ => rfl) pN_inj h3.symm hn1.2⟩
end Go.Proofs.Ytjjcalkeodfokaa
