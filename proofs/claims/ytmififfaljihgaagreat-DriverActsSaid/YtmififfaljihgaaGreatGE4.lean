/- GE4: texts of another seat, turned to this one. -/
import Derived.Test.YtmififfaljihgaaGreatGE3
set_option linter.unusedVariables false
set_option linter.unusedSimpArgs false
namespace Go.Proofs.YtmififfaljihgaaGreat
open Go Go.Ab Go.Shelf
structure Grm where
  cn : Int
  k : Int
  sq : Int
  ak : Int
  cd : Int
  bp : Option (Nat × Nat)
  bd : List Int
def Grm.cells (m : Grm) : List V := [i64 m.cn, i64 m.k, i64 m.sq, i64 m.ak, i64 m.cd, .sl m.bp m.bd.length]
def Grm.ok (h : H) (m : Grm) : Prop := SlIs h m.bp m.bd.length false 1 (ints .u8 m.bd) ∧ Bts m.bd ∧ m.bd.length ≤ 100000
theorem Grm.ok.old {S : Nat → Prop} {h h' : H} {m : Grm} (o : m.ok h) (k : Ab.Mod S h h') (hS : ∀ i, i < h.next → ¬ S i) : m.ok h' := ⟨SlIs.old o.1 k hS, o.2⟩
theorem Grm.ok.by {S : Nat → Prop} {h h' : H} {m : Grm} (o : m.ok h) (k : Ab.Mod S h h') (hS : ∀ i o, m.bp = some (i, o) → ¬ S i ∨ m.bd.length = 0) : m.ok h' := by
  refine ⟨?_, o.2⟩
  obtain ⟨⟨l, r⟩, _⟩ := o
  refine ⟨l, ?_⟩
  rcases r with r | ⟨i, c, b, cs, e1, e2, e3⟩
  · exact .inl r
  · rcases hS i c e1 with s | s
    · exact .inr ⟨i, c, b, cs, e1, k.get e2 (.inl s), e3⟩
    · exact .inl ⟨s, .inr rfl⟩
theorem Grm.ok.lt {h : H} {m : Grm} (o : m.ok h) : ∀ i c, m.bp = some (i, c) → i < h.next ∨ m.bd.length = 0 := fun i c e => by
  rcases o.1.2 with ⟨r, _⟩ | ⟨i', c', b, cs, e1, e2, _⟩
  · exact .inr r
  · rw [e] at e1
    injection e1 with e1
    injection e1 with e1
    subst e1
    exact .inl (h.lt _ _ e2)
def gtail (m : Grm) : List (Nat × Int) :=
  if m.k = 1 then [(4, m.sq), (4, m.ak)] else if m.k = 2 then [(4, m.ak)] else if m.k = 3 then [(1, m.cd)] else []
def gparts (m : Grm) : List (Nat × Int) := (4, m.cn) :: gtail m
def gbody (m : Grm) : List Int := if m.k = 1 then m.bd else []
def gpay (m : Grm) : List Int := bytesP (gparts m) ++ gbody m
def gknd (m : Grm) : Bool := decide (1 ≤ m.k ∧ m.k ≤ 3)
def gEncOk (m : Grm) : Bool := gknd m && fitP (gparts m) && decide ((gpay m).length ≤ 2000)
def encG (m : Grm) : List Int := if gEncOk m then frm 77 3 m.k (gpay m) else []
theorem gtail_1 {m : Grm} (h : m.k = 1) : gtail m = [(4, m.sq), (4, m.ak)] := by rw [gtail, if_pos h]
theorem gtail_2 {m : Grm} (h : m.k = 2) : gtail m = [(4, m.ak)] := by rw [gtail, if_neg (by omega), if_pos h]
theorem gtail_3 {m : Grm} (h : m.k = 3) : gtail m = [(1, m.cd)] := by rw [gtail, if_neg (by omega), if_neg (by omega), if_pos h]
theorem gbody_1 {m : Grm} (h : m.k = 1) : gbody m = m.bd := by rw [gbody, if_pos h]
theorem gbody_n {m : Grm} (h : m.k ≠ 1) : gbody m = [] := by rw [gbody, if_neg h]
theorem gpay_bts {m : Grm} (hb : Bts m.bd) : Bts (gpay m) := by
  refine (bytesP_bts _).append ?_
  unfold gbody
  split
  · exact hb
  · exact fun _ k => by cases k
theorem gparts_len (m : Grm) : (gparts m).length ≤ 3 ∧ (bytesP (gparts m)).length ≤ 12 := by
  rw [bytesP_length]
  unfold gparts gtail
  split
  · exact ⟨show (3 : Nat) ≤ 3 by decide, show (12 : Nat) ≤ 12 by decide⟩
  · split
    · exact ⟨show (2 : Nat) ≤ 3 by decide, show (8 : Nat) ≤ 12 by decide⟩
    · split
      · exact ⟨show (2 : Nat) ≤ 3 by decide, show (5 : Nat) ≤ 12 by decide⟩
      · exact ⟨show (1 : Nat) ≤ 3 by decide, show (4 : Nat) ≤ 12 by decide⟩
theorem gpay_len (m : Grm) : (gpay m).length ≤ 12 + m.bd.length := by
  have := (gparts_len m).2
  rw [gpay, List.length_append]
  unfold gbody
  split
  · omega
  · simp only [List.length_nil]
    omega
theorem gk_byte {m : Grm} (h : gknd m = true) : 0 ≤ m.k ∧ m.k < 256 := by
  simp only [gknd, decide_eq_true_eq] at h
  omega
theorem encG_bts {m : Grm} (hb : Bts m.bd) : Bts (encG m) := by
  unfold encG
  split
  · rename_i h
    simp only [gEncOk, Bool.and_eq_true] at h
    exact frm_bts (by decide) (by decide) (gk_byte h.1.1) (gpay_bts hb)
  · exact fun _ k => by cases k
theorem encG_len (m : Grm) : (encG m).length ≤ 21 + m.bd.length := by
  unfold encG
  split
  · rw [frm_length]
    have := gpay_len m
    omega
  · exact Nat.zero_le _
theorem un_encG {m : Grm} (h : gEncOk m = true) : unV (encG m) = (m.k, gpay m, 0) := by
  rw [encG, h, if_pos rfl]
  simp only [gEncOk, Bool.and_eq_true, decide_eq_true_eq] at h
  rw [un_frm h.2]
  rfl
theorem un_inv {b : List Int} (bb : Bts b) {k : Int} {xs : List Int} (h : unV b = (k, xs, 0)) : b = frm 77 3 k xs ∧ xs.length ≤ 2000 ∧ Bts xs ∧ 0 ≤ k ∧ k < 256 := by
  unfold unV at h
  split at h
  · cases h
  · rename_i h1
    split at h
    · cases h
    · rename_i h2
      split at h
      · cases h
      · rename_i h3
        injection h with hk h
        injection h with hx _
        simp only [Bool.or_eq_true, not_or, bne_iff_ne, ne_eq, Decidable.not_not, decide_eq_true_eq] at h1 h2
        obtain ⟨⟨⟨h9, h77⟩, hl⟩, hs⟩ := h1
        have b3 := bts_getD bb 3
        have b4 := bts_getD bb 4
        have b2 := bts_getD bb 2
        have hN : (unN b : Int) = b.getD 3 0 * 256 + b.getD 4 0 := by
          unfold unN
          omega
        have hxl : xs.length = unN b := by
          rw [← hx, List.length_take, List.length_drop]
          omega
        have e5 : b.take 5 = hd 77 3 k xs.length := by
          obtain ⟨a0, a1, a2, a3, a4, rest, rfl⟩ := split5 (xs := b) (by omega)
          have g0 : a0 = 77 := h77
          have g1 : a1 = 3 := h2
          have g2 : a2 = k := hk
          have hN : (unN (a0 :: a1 :: a2 :: a3 :: a4 :: rest) : Int) = a3 * 256 + a4 := hN
          have b3 : 0 ≤ a3 ∧ a3 < 256 := b3
          have b4 : 0 ≤ a4 ∧ a4 < 256 := b4
          rw [g0, g1, g2, hxl]
          show [77, 3, k, a3, a4] = _
          unfold hd
          have e : ((unN (a0 :: a1 :: a2 :: a3 :: a4 :: rest) : Nat) : Int).fdiv (2 ^ (min (8 : Int).toNat IntKind.i64.bits)) = ((unN (a0 :: a1 :: a2 :: a3 :: a4 :: rest) : Nat) : Int) / 256 := Int.fdiv_eq_ediv_of_nonneg _ (by decide)
          rw [wrap_u8_eq, wrap_u8_eq, ← g0, ← g1, ← g2, e, hN]
          have q1 : (a3 * 256 + a4) / 256 % 256 = a3 := by omega
          have q2 : (a3 * 256 + a4) % 256 = a4 := by omega
          rw [q1, q2]
        have e6 : b.take (unN b + 5) = hd 77 3 k xs.length ++ xs := by
          rw [← e5, ← hx, Nat.add_comm, List.take_add]
        refine ⟨?_, by omega, ?_, by omega, by omega⟩
        · rw [frm, ← e6, hs, List.take_append_drop]
        · rw [← hx]
          exact bts_take (bts_drop bb 5) _
theorem be_of_fold : ∀ (ys : List Int) (a : Nat), Bts ys → (a + 1) * 256 ^ ys.length ≤ 72057594037927936 → ∃ n : Nat, ys.foldl shOr (a : Int) = n ∧ n < (a + 1) * 256 ^ ys.length ∧ n / 256 ^ ys.length = a ∧ be (n : Int) ys.length = ys
  | [], a, _, _ => ⟨a, rfl, by simp, by simp, rfl⟩
  | y :: ys, a, hb, h => by
    have hy := hb y (by simp)
    obtain ⟨z, rfl⟩ := Int.eq_ofNat_of_zero_le hy.1
    have hz : z < 256 := by omega
    have hP : 0 < 256 ^ ys.length := Nat.pow_pos (by decide)
    rw [List.length_cons, Nat.pow_succ] at h
    have h2 : (a + 1) * 256 ≤ 72057594037927936 := by
      refine Nat.le_trans ?_ h
      rw [Nat.mul_comm (256 ^ ys.length), ← Nat.mul_assoc]
      exact Nat.le_mul_of_pos_right _ hP
    have e := shOr_eq (n := a) (b := z) (by omega) hz
    have h3 : (a * 256 + z + 1) * 256 ^ ys.length ≤ (a + 1) * (256 ^ ys.length * 256) := by
      rw [Nat.mul_comm (256 ^ ys.length), ← Nat.mul_assoc]
      exact Nat.mul_le_mul_right _ (by omega)
    obtain ⟨n, h4, h5, h6, h7⟩ := be_of_fold ys (a * 256 + z) (fun x hx => hb x (by simp [hx])) (Nat.le_trans h3 h)
    have h8 : n / 256 ^ (ys.length + 1) = a := by
      rw [Nat.pow_succ, ← Nat.div_div_eq_div_mul, h6]
      omega
    refine ⟨n, ?_, ?_, ?_, ?_⟩
    · rw [List.foldl_cons]
      show ys.foldl shOr (shOr (a : Int) (z : Int)) = n
      rw [e, h4]
    · rw [List.length_cons, Nat.pow_succ]
      exact Nat.lt_of_lt_of_le h5 h3
    · rw [List.length_cons]
      exact h8
    · rw [List.length_cons]
      have hl : ys.length ≤ 7 := by
        rcases Nat.lt_or_ge 7 ys.length with hlt | hge
        · have : 256 ^ 8 ≤ 256 ^ ys.length := Nat.pow_le_pow_right (by decide) hlt
          have e8 : (256 : Nat) ^ 8 = 18446744073709551616 := by decide
          have : 256 ^ ys.length ≤ (a + 1) * (256 ^ ys.length * 256) := by
            rw [Nat.mul_comm (256 ^ ys.length), ← Nat.mul_assoc]
            exact Nat.le_mul_of_pos_left _ (by omega)
          omega
        · exact hge
      show oct (n : Int) (ys.length : Nat) :: be (n : Int) ys.length = _
      rw [oct_eq hl, h6, h7]
      congr 1
      omega
/-- a number that was read, with nothing wrong -/
theorem back_pure {xs : List Int} {sp : Bool} (hb : Bts xs) {k : Nat} (h7 : k ≤ 7) :
    (0 ≤ (rawV xs sp (k : Int)).foldl shOr 0 ∧ (rawV xs sp (k : Int)).foldl shOr 0 < 2 ^ (8 * k)) ∧ ((!rawOk xs sp (k : Int)) = false → sp = false ∧ xs = be ((rawV xs sp (k : Int)).foldl shOr 0) k ++ rawX xs sp (k : Int)) := by
  obtain ⟨l1, l2, l3, l4⟩ := rawV_len (xs := xs) (sp := sp) (k := k)
  have hp : 256 ^ k ≤ 256 ^ 7 := Nat.pow_le_pow_right (by decide) h7
  have hp2 : 256 ^ (rawV xs sp (k : Int)).length ≤ 256 ^ k := Nat.pow_le_pow_right (by decide) l1
  have h256 : (256 : Nat) ^ 7 = 72057594037927936 := by decide
  obtain ⟨n, f1, f2, _, f4⟩ := be_of_fold (rawV xs sp (k : Int)) 0 (l2 hb) (by omega)
  have f1 : (rawV xs sp (k : Int)).foldl shOr 0 = (n : Int) := f1
  have e2 : (2 : Int) ^ (8 * k) = ((256 ^ k : Nat) : Int) := by
    rw [Int.pow_mul, Int.natCast_pow]
    rfl
  refine ⟨?_, fun hs => ?_⟩
  · rw [f1, e2]
    omega
  · have hr : rawOk xs sp (k : Int) = true := by simpa using hs
    rw [f1]
    rw [rawV, hr, if_pos rfl, Int.toNat_natCast] at f4
    rw [rawX, hr, if_pos rfl, Int.toNat_natCast]
    simp only [rawOk, Bool.and_eq_true, Bool.not_eq_true', decide_eq_true_eq] at hr
    have hl : (xs.take k).length = k := by
      rw [List.length_take]
      omega
    rw [hl] at f4
    exact ⟨hr.1.1, by rw [f4, List.take_append_drop]⟩
def GEncQ (m : Grm) (h : H) (r : V) (h' : H) : Prop := ∃ q, r = .tup [.sl q (encG m).length, i64 (if gEncOk m then 0 else 1)] ∧ OctR h' q (encG m).length (encG m) ∧ Ab.Mod none_ h h'
theorem gencQ_bad {m : Grm} {h h' : H} (he : gEncOk m = false) (k : Ab.Mod none_ h h') : GEncQ m h (.tup [.sl none 0, i64 1]) h' := by
  have hB : encG m = [] := by rw [encG, he]; rfl
  unfold GEncQ
  rw [he, hB]
  exact ⟨none, rfl, OctR.nil _ _, k⟩
theorem gencQ_wr {m : Grm} {h hx h' : H} {v : V} (hk : gknd m = true) (hf : fitP (gparts m) = true) (k : Ab.Mod none_ h hx) (q : WrQ m.k (gpay m) hx v h') : GEncQ m h v h' := by
  obtain ⟨q, rfl, o, mm⟩ := q
  have hb := gk_byte hk
  have e : gEncOk m = !wrBad m.k (gpay m) := by
    rw [gEncOk, hk, hf, wrBad, decide_eq_false (show ¬ m.k < 0 by omega), decide_eq_false (show ¬ 255 < m.k by omega)]
    by_cases h : (gpay m).length ≤ 2000
    · simp [h]
    · simp [h]
      omega
  have eE : encG m = wrV m.k (gpay m) := by
    rw [encG, e, wrV]
    cases wrBad m.k (gpay m)
    · rw [wrOk_frm, wrap_u8_id hb.1 hb.2]
      rfl
    · rfl
  unfold GEncQ
  rw [eE, e]
  refine ⟨q, ?_, o, mod_none k mm⟩
  cases wrBad m.k (gpay m) <;> rfl
theorem NewW.nil_ {h0 h : H} {g : Nat} {p : Option (Nat × Nat)} {xs ys : List Int} {sp : Bool} (w : NewW h0 h g p xs sp) (e : ys = []) : NewW h0 h g p (xs ++ ys) sp := by
  rw [e, List.append_nil]
  exact w
theorem NewW.app_ {h0 h : H} {g : Nat} {p : Option (Nat × Nat)} {xs ys zs : List Int} {sp : Bool} (w : NewW h0 h g p (xs ++ zs) sp) (e : ys = zs) : NewW h0 h g p (xs ++ ys) sp := by
  rw [e]
  exact w
theorem ws_mk {h0 h : H} {g : Nat} {p : Option (Nat × Nat)} {m : Grm} {xs : List Int} {sp : Bool} (st : Wst (gparts m) xs sp) (w : NewW h0 h g p (xs ++ gbody m) sp) : ∃ xs sp, Wst (gparts m) xs sp ∧ NewW h0 h g p (xs ++ gbody m) sp := ⟨_, _, st, w⟩
theorem gbody_len (m : Grm) : (gbody m).length ≤ m.bd.length := by
  by_cases h : m.k = 1
  · rw [gbody_1 h]
    exact Nat.le_refl _
  · rw [gbody_n h]
    exact Nat.zero_le _
theorem genc49 {h : H} (m : Grm) (ok : m.ok h) : ACalls Tryz.prog 70 [.agg m.cells] h (GEncQ m h) := by
  refine call_ Tryz.func70 rfl rfl (by kernel_rfl) ?_
  conv => whnf
  have mb := Mod.push none_ h (.row true 6 m.cells)
  have ok1 : m.ok (h.push (.row true 6 m.cells)) := ok.old mb (fun _ _ k => k)
  have w := NewW.new (h.push (.row true 6 m.cells))
  have kb : Kp _ (h.push (.row true 6 m.cells)).next none h.next (.row true 6 m.cells) := ⟨w.2.2.get (H.obj_push_new _ _) (.inl (fun k => k)), by
    rintro (k | ⟨_, k⟩)
    · exact absurd k (Nat.ne_of_lt (Nat.lt_succ_self _))
    · cases k⟩
  have hbd := ok.2.2
  have bad : ∀ {h' : H}, gEncOk m = false → Ab.Mod none_ (h.push (.row true 6 m.cells)) h' → GEncQ m h (.tup [.sl none 0, i64 1]) h' := fun he k => gencQ_bad he (mod_none mb k)
  have fin : ∀ {hx : H} {v : V} {h' : H}, gknd m = true → fitP (gparts m) = true → Ab.Mod none_ (h.push (.row true 6 m.cells)) hx → WrQ m.k (gpay m) hx v h' → GEncQ m h v h' := fun hk hf k q => gencQ_wr hk hf (mod_none mb k) q
  have st := Wst.nil
  generalize hbx : h.next = bx at *
  refine ⟨_, Cell.mk kb.1 rfl, ?_⟩
  conv => whnf
  rw [oneNum]
  have s1 := Kp.push w.1 (.row true 1 (ints .i64 [m.cn]))
  have kb := kb.keep (Mod.push none_ _ (.row true 1 (ints .i64 [m.cn])))
  have w := w.keep (Mod.push none_ _ (.row true 1 (ints .i64 [m.cn])))
  refine (nums19 w.1 (s1.nums rfl) (by
    refine Nat.le_trans st.len ?_
    simp) (by simp) (4 : Nat)).mono ?_
  rintro _ _ ⟨rfl, q, wq, fq, mq⟩
  have kb := kb.step fq mq
  have w := w.step' wq fq mq
  have st := st.prog (k := 4) (by decide) (by decide) [m.cn]
  conv => whnf
  refine ⟨_, Cell.mk kb.1 rfl, ?_⟩
  conv => whnf
  refine br_mk (fun h1 => ?_) (fun h1 => ?_)
  conv => whnf
  simp at h1
  refine ⟨[0, 1, 2, 3, 4, 7, 8, 5, 6, 9], [0, 0, 2, 0, 8, 30, 63, 0, 128, 511], by kernel_rfl, ?_⟩
  conv => whnf
  refine ⟨_, Cell.mk kb.1 rfl, ?_⟩
  conv => whnf
  refine ⟨_, Cell.mk kb.1 rfl, ?_⟩
  conv => whnf
  refine ⟨_, Cell.mk kb.1 rfl, ?_⟩
  conv => whnf
  rw [twoNum]
  have s1 := Kp.push w.1 (.row true 1 (ints .i64 [m.sq, m.ak]))
  have kb := kb.keep (Mod.push none_ _ (.row true 1 (ints .i64 [m.sq, m.ak])))
  have w := w.keep (Mod.push none_ _ (.row true 1 (ints .i64 [m.sq, m.ak])))
  refine (nums19 w.1 (s1.nums rfl) (by
    refine Nat.le_trans st.len ?_
    simp) (by simp) (4 : Nat)).mono ?_
  rintro _ _ ⟨rfl, q, wq, fq, mq⟩
  have kb := kb.step fq mq
  have w := w.step' wq fq mq
  have st := st.prog (k := 4) (by decide) (by decide) [m.sq, m.ak]
  conv => whnf
  refine ⟨?_, ?_⟩
  · conv => whnf
    exact ⟨_, Cell.mk kb.1 rfl, rfl⟩
  conv => whnf
  refine (raw22 w.1 (SlIs.old ok1.1 w.2.2 (fun _ _ k => k)) (by
    refine Nat.le_trans st.len ?_
    simp) (by omega)).mono ?_
  rintro _ _ ⟨rfl, q, wq, fq, mq⟩
  have kb := kb.step fq mq
  have w := w.step' wq fq mq
  conv => whnf
  have st := st.cast (ps' := gparts m) (by
    rw [gparts, gtail_1 h1]
    rfl)
  have gb := gbody_1 h1
  have w := w.app_ gb
  have hk : gknd m = true := by
    rw [gknd, h1]
    rfl
  rotate_left
  conv => whnf
  refine br_mk (fun h2 => ?_) (fun h2 => ?_)
  conv => whnf
  simp at h2
  refine ⟨_, Cell.mk kb.1 rfl, ?_⟩
  conv => whnf
  rw [oneNum]
  have s1 := Kp.push w.1 (.row true 1 (ints .i64 [m.ak]))
  have kb := kb.keep (Mod.push none_ _ (.row true 1 (ints .i64 [m.ak])))
  have w := w.keep (Mod.push none_ _ (.row true 1 (ints .i64 [m.ak])))
  refine (nums19 w.1 (s1.nums rfl) (by
    refine Nat.le_trans st.len ?_
    simp) (by simp) (4 : Nat)).mono ?_
  rintro _ _ ⟨rfl, q, wq, fq, mq⟩
  have kb := kb.step fq mq
  have w := w.step' wq fq mq
  have st := st.prog (k := 4) (by decide) (by decide) [m.ak]
  conv => whnf
  have st := st.cast (ps' := gparts m) (by
    rw [gparts, gtail_2 h2]
    rfl)
  have gb := gbody_n (m := m) (by omega)
  have w := w.nil_ gb
  have hk : gknd m = true := by
    rw [gknd, h2]
    rfl
  rotate_left
  conv => whnf
  refine br_mk (fun h3 => ?_) (fun h3 => ?_)
  conv => whnf
  simp at h3
  refine ⟨_, Cell.mk kb.1 rfl, ?_⟩
  conv => whnf
  rw [oneNum]
  have s1 := Kp.push w.1 (.row true 1 (ints .i64 [m.cd]))
  have kb := kb.keep (Mod.push none_ _ (.row true 1 (ints .i64 [m.cd])))
  have w := w.keep (Mod.push none_ _ (.row true 1 (ints .i64 [m.cd])))
  refine (nums19 w.1 (s1.nums rfl) (by
    refine Nat.le_trans st.len ?_
    simp) (by simp) (1 : Nat)).mono ?_
  rintro _ _ ⟨rfl, q, wq, fq, mq⟩
  have kb := kb.step fq mq
  have w := w.step' wq fq mq
  have st := st.prog (k := 1) (by decide) (by decide) [m.cd]
  conv => whnf
  have st := st.cast (ps' := gparts m) (by
    rw [gparts, gtail_3 h3]
    rfl)
  have gb := gbody_n (m := m) (by omega)
  have w := w.nil_ gb
  have hk : gknd m = true := by
    rw [gknd, h3]
    rfl
  rotate_left
  conv => whnf
  simp at h1 h2 h3
  have hk : gknd m = false := by
    rw [gknd, decide_eq_false]
    omega
  exact bad (by rw [gEncOk, hk, Bool.false_and, Bool.false_and]) w.2.2
  all_goals
    obtain ⟨xs, sp, st, w⟩ := ws_mk st w
    have hl := st.len
    have hpl := (gparts_len m).1
    have hgl : (gbody m).length ≤ 100000 := Nat.le_trans (gbody_len m) hbd
    refine (bytes23 w.1 (by rw [List.length_append]; omega)).mono ?_
    rintro _ h3 ⟨q, n, rfl, o3, m3⟩
    conv => whnf
    refine ⟨_, rfl, ?_⟩
    conv => whnf
    refine ⟨_, rfl, ?_⟩
    conv => whnf
    have kb := kb.keep m3
    have w := w.keep m3
    refine br_mk (fun hx => ?_) (fun hx => ?_)
    · have hsp : sp = true := by
        cases sp with
        | true => rfl
        | false => cases hx
      subst hsp
      conv => whnf
      refine bad ?_ w.2.2
      have hf : fitP (gparts m) = false := by simpa using st.hsp
      rw [gEncOk, hf, Bool.and_false, Bool.false_and]
    conv => whnf
    have hsp : sp = false := by
      cases sp with
      | false => rfl
      | true => cases hx
    subst hsp
    have hf : fitP (gparts m) = true := by simpa using st.hsp
    have o3 : OctR h3 q n (gpay m) := by
      rw [gpay, ← st.hxs rfl]
      exact o3
    have hn := o3.len
    subst hn
    have hpl2 := gpay_len m
    refine ⟨_, Cell.mk kb.1 rfl, ?_⟩
    conv => whnf
    refine (wrap36 o3.is (by unfold maxLen; omega) m.k).mono ?_
    rintro _ h4 q4
    have fq := fin hk hf w.2.2 q4
    obtain ⟨q5, rfl, o5, m5⟩ := q4
    conv => whnf
    refine ⟨_, rfl, ?_⟩
    conv => whnf
    refine ⟨_, rfl, ?_⟩
    conv => whnf
    exact fq
theorem gref50 {h : H} (m : Grm) (ok : m.ok h) : ACalls Tryz.prog 20 [.agg m.cells] h (GEncQ m h) := by
  refine call_ Tryz.func20 rfl rfl (by kernel_rfl) ?_
  conv => whnf
  have mb := Mod.push none_ h (.row true 6 m.cells)
  have ok1 : m.ok (h.push (.row true 6 m.cells)) := ok.old mb (fun _ _ k => k)
  have w := NewW.new (h.push (.row true 6 m.cells))
  have kb : Kp _ (h.push (.row true 6 m.cells)).next none h.next (.row true 6 m.cells) := ⟨w.2.2.get (H.obj_push_new _ _) (.inl (fun k => k)), by
    rintro (k | ⟨_, k⟩)
    · exact absurd k (Nat.ne_of_lt (Nat.lt_succ_self _))
    · cases k⟩
  have hbd := ok.2.2
  have bad : ∀ {h' : H}, gEncOk m = false → Ab.Mod none_ (h.push (.row true 6 m.cells)) h' → GEncQ m h (.tup [.sl none 0, i64 1]) h' := fun he k => gencQ_bad he (mod_none mb k)
  have fin : ∀ {hx : H} {v : V} {h' : H}, gknd m = true → fitP (gparts m) = true → Ab.Mod none_ (h.push (.row true 6 m.cells)) hx → WrQ m.k (gpay m) hx v h' → GEncQ m h v h' := fun hk hf k q => gencQ_wr hk hf (mod_none mb k) q
  have st := Wst.nil
  generalize hbx : h.next = bx at *
  refine ⟨_, Cell.mk kb.1 rfl, ?_⟩
  conv => whnf
  refine br_mk (fun h1 => ?_) (fun h1 => ?_)
  conv => whnf
  simp at h1
  refine ⟨_, Cell.mk kb.1 rfl, ?_⟩
  conv => whnf
  refine (num21 w.1 (by
    refine Nat.le_trans st.len ?_
    simp) ((4 : Nat) : Int) m.cn).mono ?_
  rintro _ _ ⟨rfl, q, wq, fq, mq⟩
  have kb := kb.step fq mq
  have w := w.step' wq fq mq
  have st := st.ref (k := 4) (by decide) (by decide) m.cn
  conv => whnf
  refine ⟨_, Cell.mk kb.1 rfl, ?_⟩
  conv => whnf
  refine (num21 w.1 (by
    refine Nat.le_trans st.len ?_
    simp) ((4 : Nat) : Int) m.sq).mono ?_
  rintro _ _ ⟨rfl, q, wq, fq, mq⟩
  have kb := kb.step fq mq
  have w := w.step' wq fq mq
  have st := st.ref (k := 4) (by decide) (by decide) m.sq
  conv => whnf
  refine ⟨_, Cell.mk kb.1 rfl, ?_⟩
  conv => whnf
  refine (num21 w.1 (by
    refine Nat.le_trans st.len ?_
    simp) ((4 : Nat) : Int) m.ak).mono ?_
  rintro _ _ ⟨rfl, q, wq, fq, mq⟩
  have kb := kb.step fq mq
  have w := w.step' wq fq mq
  have st := st.ref (k := 4) (by decide) (by decide) m.ak
  conv => whnf
  refine ⟨[0, 1, 2, 3, 4, 5, 6, 7, 8, 9, 10], [0, 0, 2, 6, 14, 0, 32, 126, 255, 511, 1023], by kernel_rfl, ?_⟩
  conv => whnf
  refine ⟨_, Cell.mk w.1.1 rfl, ?_⟩
  conv => whnf
  refine ⟨_, Cell.mk kb.1 rfl, ?_⟩
  conv => whnf
  have hl : _ ≤ 21 := st.len
  have hv := SlIs.old ok1.1 w.2.2 (fun _ _ k => k)
  refine ⟨_, _, w.1.2.1, hv, by rw [T5b]; omega, by omega, fun p2 h2 hs2 hm2 hf2 => ?_⟩
  conv => whnf
  obtain ⟨e2, q2, wq, fq, mq⟩ := w.1.app (ys := m.bd) (mod_refl _ _) hs2 hm2 hf2
  have kb := kb.step fq mq
  have w := w.step' wq fq mq
  refine ⟨_, _, e2, Nat.le_of_ble_eq_true rfl, ?_⟩
  conv => whnf
  clear hl hv hs2 hm2 hf2 e2
  have st := st.cast (ps' := gparts m) (by
    rw [gparts, gtail_1 h1]
    rfl)
  have gb := gbody_1 h1
  have w := w.app_ gb
  have hk : gknd m = true := by
    rw [gknd, h1]
    rfl
  rotate_left
  conv => whnf
  refine br_mk (fun h2 => ?_) (fun h2 => ?_)
  conv => whnf
  simp at h2
  refine ⟨_, Cell.mk kb.1 rfl, ?_⟩
  conv => whnf
  refine (num21 w.1 (by
    refine Nat.le_trans st.len ?_
    simp) ((4 : Nat) : Int) m.cn).mono ?_
  rintro _ _ ⟨rfl, q, wq, fq, mq⟩
  have kb := kb.step fq mq
  have w := w.step' wq fq mq
  have st := st.ref (k := 4) (by decide) (by decide) m.cn
  conv => whnf
  refine ⟨_, Cell.mk kb.1 rfl, ?_⟩
  conv => whnf
  refine (num21 w.1 (by
    refine Nat.le_trans st.len ?_
    simp) ((4 : Nat) : Int) m.ak).mono ?_
  rintro _ _ ⟨rfl, q, wq, fq, mq⟩
  have kb := kb.step fq mq
  have w := w.step' wq fq mq
  have st := st.ref (k := 4) (by decide) (by decide) m.ak
  conv => whnf
  have st := st.cast (ps' := gparts m) (by
    rw [gparts, gtail_2 h2]
    rfl)
  have gb := gbody_n (m := m) (by omega)
  have w := w.nil_ gb
  have hk : gknd m = true := by
    rw [gknd, h2]
    rfl
  rotate_left
  conv => whnf
  refine br_mk (fun h3 => ?_) (fun h3 => ?_)
  conv => whnf
  simp at h3
  refine ⟨_, Cell.mk kb.1 rfl, ?_⟩
  conv => whnf
  refine (num21 w.1 (by
    refine Nat.le_trans st.len ?_
    simp) ((4 : Nat) : Int) m.cn).mono ?_
  rintro _ _ ⟨rfl, q, wq, fq, mq⟩
  have kb := kb.step fq mq
  have w := w.step' wq fq mq
  have st := st.ref (k := 4) (by decide) (by decide) m.cn
  conv => whnf
  refine ⟨_, Cell.mk kb.1 rfl, ?_⟩
  conv => whnf
  refine (num21 w.1 (by
    refine Nat.le_trans st.len ?_
    simp) ((1 : Nat) : Int) m.cd).mono ?_
  rintro _ _ ⟨rfl, q, wq, fq, mq⟩
  have kb := kb.step fq mq
  have w := w.step' wq fq mq
  have st := st.ref (k := 1) (by decide) (by decide) m.cd
  conv => whnf
  have st := st.cast (ps' := gparts m) (by
    rw [gparts, gtail_3 h3]
    rfl)
  have gb := gbody_n (m := m) (by omega)
  have w := w.nil_ gb
  have hk : gknd m = true := by
    rw [gknd, h3]
    rfl
  rotate_left
  conv => whnf
  simp at h1 h2 h3
  have hk : gknd m = false := by
    rw [gknd, decide_eq_false]
    omega
  exact bad (by rw [gEncOk, hk, Bool.false_and, Bool.false_and]) w.2.2
  all_goals
    obtain ⟨xs, sp, st, w⟩ := ws_mk st w
    have hl := st.len
    have hpl := (gparts_len m).1
    refine ⟨_, Cell.mk w.1.1 rfl, ?_⟩
    conv => whnf
    refine br_mk (fun hx => ?_) (fun hx => ?_)
    · conv => whnf
      refine bad ?_ w.2.2
      have hf : fitP (gparts m) = false := by
        have := st.hsp
        rw [hx] at this
        simpa using this.symm
      rw [gEncOk, hf, Bool.and_false, Bool.false_and]
    conv => whnf
    have hf : fitP (gparts m) = true := by
      have := st.hsp
      rw [hx] at this
      simpa using this.symm
    refine ⟨[0, 1, 2, 3, 4, 5, 6, 7, 8, 9, 10], [0, 1, 0, 4, 12, 28, 63, 127, 127, 511, 1023], by kernel_rfl, ?_⟩
    conv => whnf
    refine ⟨_, Cell.mk kb.1 rfl, ?_⟩
    conv => whnf
    refine ⟨_, Cell.mk w.1.1 rfl, ?_⟩
    conv => whnf
    have hpl2 := gpay_len m
    have ep := st.hxs hx
    have ws := w.1.2.1.weak
    have hpe : xs ++ gbody m = gpay m := by rw [gpay, ← ep]
    refine (wrap37 ws (by rw [hpe]; unfold maxLen; omega) m.k).mono ?_
    rintro _ h4 q4
    rw [hpe] at q4
    have fq := fin hk hf w.2.2 q4
    obtain ⟨q5, rfl, o5, m5⟩ := q4
    conv => whnf
    refine ⟨_, rfl, ?_⟩
    conv => whnf
    refine ⟨_, rfl, ?_⟩
    conv => whnf
    exact fq
def sameG (a b : Grm) : Bool := a.cn == b.cn && (a.k == b.k && (a.sq == b.sq && (a.ak == b.ak && (a.cd == b.cd && a.bd == b.bd))))
def eqG (m m1 : Grm) : Prop := m1 = { m with bp := m1.bp }
theorem eqG.mk {m m1 : Grm} (cn : m1.cn = m.cn) (k : m1.k = m.k) (sq : m1.sq = m.sq) (ak : m1.ak = m.ak) (cd : m1.cd = m.cd) (bd : m1.bd = m.bd) : eqG m m1 := by
  cases m
  cases m1
  simp only at cn k sq ak cd bd
  subst cn k sq ak cd bd
  rfl
theorem eqG.same {m m1 m2 : Grm} (h1 : eqG m m1) (h2 : eqG m m2) : sameG m1 m2 = true := by
  rw [h1, h2]
  simp [sameG]
theorem eqG.encG {m m1 : Grm} (h : eqG m m1) : encG m1 = encG m := by
  rw [h]
  rfl
theorem eqG.gOk {m m1 : Grm} (h : eqG m m1) : gEncOk m1 = gEncOk m := by
  rw [h]
  rfl
/-- a body is a datagram's of that kind -/
structure EncG (body : List Int) (kd : Int) (m : Grm) : Prop where
  k : m.k = kd
  kn : gknd m = true
  fit : fitP (gparts m) = true
  is : gpay m = body
  c1 : m.k ≠ 1 → m.sq = 0 ∧ m.bd = []
  c2 : m.k = 3 → m.ak = 0
  c3 : m.k ≠ 3 → m.cd = 0
def grm0 : Grm := ⟨0, 0, 0, 0, 0, none, []⟩
/-- what both makes tell of bytes -/
def GDec (b : List Int) (m1 : Grm) (e : Int) : Prop :=
  ((unV b).2.2 ≠ 0 ∧ e = (unV b).2.2 ∧ m1 = grm0) ∨ ((unV b).2.2 = 0 ∧ ((e = 0 ∧ EncG (unV b).2.1 (unV b).1 m1 ∧ ∀ m, EncG (unV b).2.1 (unV b).1 m → eqG m m1) ∨ (e = 2 ∧ m1 = grm0 ∧ ∀ m, ¬ EncG (unV b).2.1 (unV b).1 m)))
/-- a datagram with only what its kind names -/
def canonG (m : Grm) : Grm := ⟨m.cn, m.k, if m.k = 1 then m.sq else 0, if m.k = 3 then 0 else m.ak, if m.k = 3 then m.cd else 0, none, if m.k = 1 then m.bd else []⟩
theorem canonG_enc {m : Grm} (h : gEncOk m = true) : EncG (gpay m) m.k (canonG m) := by
  simp only [gEncOk, Bool.and_eq_true, decide_eq_true_eq] at h
  obtain ⟨⟨hk, hf⟩, _⟩ := h
  have hkk : 1 ≤ m.k ∧ m.k ≤ 3 := by simpa [gknd] using hk
  have hp : gparts (canonG m) = gparts m := by
    rw [gparts, gparts]
    show (4, m.cn) :: gtail (canonG m) = _
    congr 1
    by_cases h1 : m.k = 1
    · rw [gtail_1 h1, gtail_1 (m := canonG m) h1]
      simp [canonG, h1]
    by_cases h2 : m.k = 2
    · rw [gtail_2 h2, gtail_2 (m := canonG m) h2]
      simp [canonG, h2]
    · have h3 : m.k = 3 := by omega
      rw [gtail_3 h3, gtail_3 (m := canonG m) h3]
      simp [canonG, h3]
  have hb : gbody (canonG m) = gbody m := by
    by_cases h1 : m.k = 1
    · rw [gbody_1 h1, gbody_1 (m := canonG m) h1]
      simp [canonG, h1]
    · rw [gbody_n h1, gbody_n (m := canonG m) h1]
  refine ⟨rfl, hk, by rw [hp]; exact hf, by rw [gpay, gpay, hp, hb], fun h => ?_, fun h => ?_, fun h => ?_⟩
  · have h : m.k ≠ 1 := h
    simp [canonG, h]
  · have h : m.k = 3 := h
    simp [canonG, h]
  · have h : m.k ≠ 3 := h
    simp [canonG, h]
theorem EncG.gOk {body : List Int} {kd : Int} {m : Grm} (e : EncG body kd m) (h : body.length ≤ 2000) : gEncOk m = true := by
  unfold Proofs.YtmififfaljihgaaGreat.gEncOk
  rw [e.kn, e.fit, e.is, decide_eq_true h]
  rfl
/-- taken, or not, of the program: by what it is written as again -/
theorem gdec_yes {b : List Int} {m1 : Grm} (h1 : gEncOk m1 = true) (hb : encG m1 = b) (c1 : m1.k ≠ 1 → m1.sq = 0 ∧ m1.bd = []) (c2 : m1.k = 3 → m1.ak = 0) (c3 : m1.k ≠ 3 → m1.cd = 0) (hk : ∀ m, EncG (unV b).2.1 (unV b).1 m → eqG m m1) : GDec b m1 0 := by
  have hu := un_encG h1
  rw [hb] at hu
  refine .inr ⟨by rw [hu], .inl ⟨rfl, ?_, hk⟩⟩
  rw [hu]
  simp only [Proofs.YtmififfaljihgaaGreat.gEncOk, Bool.and_eq_true] at h1
  exact ⟨rfl, h1.1.1, h1.1.2, rfl, c1, c2, c3⟩
theorem gdec_no {b : List Int} (bb : Bts b) {m1 : Grm} (h0 : (unV b).2.2 = 0) (h : gEncOk m1 = false ∨ encG m1 ≠ b) (hk : ∀ m, EncG (unV b).2.1 (unV b).1 m → eqG m m1) : GDec b grm0 2 := by
  refine .inr ⟨h0, .inr ⟨rfl, rfl, fun m hm => ?_⟩⟩
  have e := hk m hm
  obtain ⟨i1, i2, i3, i4, i5⟩ := un_inv bb (k := (unV b).1) (xs := (unV b).2.1) (by rw [← h0])
  have ok := hm.gOk i2
  rcases h with h | h
  · rw [e.gOk, ok] at h
    cases h
  · rw [e.encG] at h
    refine h ?_
    rw [Proofs.YtmififfaljihgaaGreat.encG, ok, if_pos rfl, hm.is, hm.k]
    exact i1.symm
/-- what a reading tells, if the body is a datagram's -/
structure KnG (body : List Int) (kd : Int) (xs : List Int) (sp : Bool) (R : Grm → List (Nat × Int)) : Prop where
  bts : Bts xs
  kn : ∀ m, EncG body kd m → sp = false ∧ xs = bytesP (R m) ++ gbody m ∧ fitP (R m) = true
theorem KnG.start {body : List Int} {kd : Int} (hb : Bts body) : KnG body kd body false gparts := ⟨hb, fun m hm => ⟨rfl, hm.is.symm, hm.fit⟩⟩
theorem KnG.num {body xs : List Int} {kd : Int} {sp : Bool} {R R' : Grm → List (Nat × Int)} (kr : KnG body kd xs sp R) {k : Nat} (h1 : 1 ≤ k) (h7 : k ≤ 7) {val : Grm → Int} (hR : ∀ m, EncG body kd m → R m = (k, val m) :: R' m) {g : Nat} {h h' : H} {v : V} (q : NumQ g xs sp (k : Int) h v h') :
    ∃ (n : Int) (xs' : List Int) (sp' : Bool), v = i64 n ∧ (∀ m, EncG body kd m → n = val m) ∧ (0 ≤ n ∧ n < 2 ^ (8 * k)) ∧ Rdr h' g xs' sp' ∧ KnG body kd xs' sp' R' ∧ xs'.length ≤ xs.length ∧ Ab.Mod (one g) h h' ∧ (sp' = false → sp = false ∧ xs = be n k ++ xs') := by
  obtain ⟨e, r, m⟩ := q
  rw [numK_id h1 h7] at e r
  obtain ⟨l1, l2, l3, l4⟩ := rawV_len (xs := xs) (sp := sp) (k := k)
  obtain ⟨rg, back⟩ := back_pure (sp := sp) kr.bts h7
  have key : ∀ m, EncG body kd m → (rawV xs sp (k : Int)).foldl shOr 0 = val m ∧ (!rawOk xs sp (k : Int)) = false ∧ rawX xs sp (k : Int) = bytesP (R' m) ++ gbody m ∧ fitP (R' m) = true := by
    intro m hm
    obtain ⟨s, x, f⟩ := kr.kn m hm
    rw [hR m hm] at x f
    simp only [fitP, List.all_cons, Bool.and_eq_true, decide_eq_true_eq] at f
    have x : xs = be (val m) k ++ (bytesP (R' m) ++ gbody m) := by
      rw [x, ← List.append_assoc]
      rfl
    subst x
    subst s
    obtain ⟨t1, t2, t3⟩ := read_num h1 h7 f.1.1 f.1.2 (bytesP (R' m) ++ gbody m)
    rw [numK_id h1 h7] at t1 t2 t3
    exact ⟨t3, by rw [t1]; rfl, t2, f.2⟩
  exact ⟨_, _, _, e, fun m hm => (key m hm).1, rg, r, ⟨l3 kr.bts, fun m hm => (key m hm).2⟩, l4, m, back⟩
def GDecQ (b : List Int) (h : H) (r : V) (h' : H) : Prop := ∃ (m1 : Grm) (e : Int), r = .tup [.agg m1.cells, i64 e] ∧ m1.ok h' ∧ Ab.Mod none_ h h' ∧ GDec b m1 e
theorem okg_mk {hh : H} {i : Nat} {ob : Ab.Obj} {m0 m1 : Grm} (_ : hh.obj i = some ob) (e : m0 = m1) (k : m0.ok hh) : m1.ok hh := e ▸ k
theorem raw_left (xs : List Int) (sp : Bool) : (sp = false → rawV xs sp (leftV xs sp) = xs) ∧ (sp = false → rawOk xs sp (leftV xs sp) = true ∧ rawX xs sp (leftV xs sp) = []) := by
  have key : sp = false → rawOk xs sp (leftV xs sp) = true := fun h => by
    subst h
    simp [rawOk, leftV]
  refine ⟨fun h => ?_, fun h => ⟨key h, ?_⟩⟩
  · rw [rawV, key h]
    subst h
    simp [leftV]
  · rw [rawX, key h]
    subst h
    simp [leftV]
theorem raw_left_bts {xs : List Int} {sp : Bool} {k : Int} (hb : Bts xs) : Bts (rawV xs sp k) := by
  unfold rawV
  split
  · exact bts_take hb _
  · exact fun _ k => by cases k
theorem raw_left_len (xs : List Int) (sp : Bool) {k : Int} : (rawV xs sp k).length ≤ xs.length := by
  unfold rawV
  split
  · rw [List.length_take]
    omega
  · exact Nat.zero_le _
/-- as GDecQ, and the body is written by nobody -/
def GDecS (b : List Int) (h : H) (r : V) (h' : H) : Prop := ∃ (m1 : Grm) (e : Int), r = .tup [.agg m1.cells, i64 e] ∧ m1.ok h' ∧ Ab.Mod none_ h h' ∧ GDec b m1 e ∧ RoSl h' m1.bp m1.bd.length 1 (ints .u8 m1.bd)
theorem rog_mk {hh : H} {i : Nat} {ob : Ab.Obj} {m0 m1 : Grm} (_ : hh.obj i = some ob) (e : m0 = m1) (k : RoSl hh m0.bp m0.bd.length 1 (ints .u8 m0.bd)) : RoSl hh m1.bp m1.bd.length 1 (ints .u8 m1.bd) := e ▸ k
set_option maxHeartbeats 1000000 in
theorem gdec51 {h : H} {p : Option (Nat × Nat)} {n : Nat} {b : List Int} (o : SlIs h p n false 1 (ints .u8 b)) (bb : Bts b) (hn : n ≤ 800000) : ACalls Tryz.prog 46 [.sl p n] h (GDecS b h) := by
  have hl := slo_len o
  subst hl
  refine call_ Tryz.func46 rfl rfl (by kernel_rfl) ?_
  conv => whnf
  have mm := Mod.push none_ h (.row true 6 [i64 0, i64 0, i64 0, i64 0, i64 0, .sl none 0])
  have g0 : (h.push (.row true 6 [i64 0, i64 0, i64 0, i64 0, i64 0, .sl none 0])).obj h.next = some (.row true 6 [i64 0, i64 0, i64 0, i64 0, i64 0, .sl none 0]) := H.obj_push_new _ _
  have hbo : ∀ i, i < h.next → one h.next i → none_ i := fun i hi k => absurd hi (by unfold one at k; omega)
  have zero : ∀ {hh hz : H} {z : V} {e : Int}, GDec b grm0 e → Ab.Mod none_ h hh → hh.obj h.next = some (.row true 6 [i64 0, i64 0, i64 0, i64 0, i64 0, .sl none 0]) → Ab.Mod (one h.next) hh hz → GDecS b h (.tup [.agg grm0.cells, i64 e]) hz := fun hd m1 _ m2 => ⟨grm0, _, rfl, ⟨SlIs.nil _ _ _, fun _ k => (by cases k), Nat.zero_le _⟩, m1.trans' m2 (S2 := none_) (fun _ _ k => k) hbo, hd, RoSl.nil _ _ _⟩
  refine (un38 (SlIs.old o mm (fun _ _ k => k)) bb (by omega)).mono ?_
  rintro _ h1 ⟨qb, lb, rfl, ob, m1⟩
  have hlb := ob.len
  subst hlb
  have g0 := m1.get g0 (.inl (fun k => k))
  have mm := mod_none mm m1
  obtain ⟨⟨kd, body, er⟩, hU⟩ : ∃ x, unV b = x := ⟨_, rfl⟩
  rw [hU] at ob ⊢
  have ob : OctR h1 qb body.length body := ob
  conv => whnf
  refine ⟨_, rfl, ?_⟩
  conv => whnf
  refine ⟨_, rfl, ?_⟩
  conv => whnf
  refine ⟨_, rfl, ?_⟩
  conv => whnf
  refine br_mk (fun hx => ?_) (fun hx => ?_)
  · conv => whnf
    have hx : er ≠ 0 := by simpa using hx
    refine ⟨_, _, g0, Nat.le_of_ble_eq_true rfl, ?_⟩
    conv => whnf
    have ms := Mod.set (S := one h.next) (ob := .row true 6 grm0.cells) rfl g0 rfl
    have g0' := H.obj_set_same (ob' := .row true 6 grm0.cells) g0
    refine ⟨grm0.cells, Cells.mk g0' (Nat.le_of_ble_eq_true rfl) rfl, ?_⟩
    conv => whnf
    exact zero (z := .undef) (.inl ⟨by rw [hU]; exact hx, by rw [hU], rfl⟩) mm g0 ms
  conv => whnf
  have hx : er = 0 := by simpa using hx
  subst hx
  obtain ⟨i1, i2, bbd, i4, i5⟩ := un_inv bb hU
  have lx := Nat.le_refl body.length
  have kr : KnG body kd body false gparts := KnG.start bbd
  have h0n := h1.lt _ _ g0
  refine (read24o (xs := body) ob.is (by omega)).mono ?_
  rintro _ _ ⟨g, rfl, rn⟩
  have hg : h.next < g := Nat.lt_of_lt_of_le h0n rn.2.1
  have h0g : h.next ≠ g := Nat.ne_of_lt hg
  have hgo : ∀ i, i < h.next → one g i → none_ i := fun i hi k => absurd hi (by unfold one at k; omega)
  have g0 := rn.2.2.get g0 (.inl (fun k => k))
  have mm := mod_none mm rn.2.2
  have r := rn.1
  clear rn ob m1
  conv => whnf
  refine (num25 r (by omega) ((4 : Nat) : Int)).mono ?_
  rintro _ hL q
  obtain ⟨cn, xs, sp, rfl, kcn, bcn, r', kr', lx', mq, ycn⟩ := kr.num (k := 4) (by decide) (by decide) (R' := gtail) (val := fun m => m.cn) (fun m hm => rfl) q
  have g0 := mq.get g0 (.inl h0g)
  have mm := mm.trans' mq (S2 := none_) (fun _ _ k => k) hgo
  have r := r'
  have kr := kr'
  have lx := Nat.le_trans lx' lx
  clear r' kr' lx' q mq
  conv => whnf
  have mp := Mod.push none_ hL (.row true 6 [i64 0, i64 0, i64 0, i64 0, i64 0, .sl none 0])
  have gm : (hL.push (.row true 6 [i64 0, i64 0, i64 0, i64 0, i64 0, .sl none 0])).obj hL.next = some (.row true 6 [i64 0, i64 0, i64 0, i64 0, i64 0, .sl none 0]) := H.obj_push_new _ _
  have h0b : h.next ≠ hL.next := Nat.ne_of_lt (hL.lt _ _ g0)
  have hlt : h.next < hL.next := hL.lt _ _ g0
  have hbm : ∀ i, i < h.next → one hL.next i → none_ i := fun i hi k => absurd hi (by unfold one at k; omega)
  have g0 := mp.get g0 (.inl (fun k => k))
  have hbg : hL.next ≠ g := Nat.ne_of_gt r.lt
  have r := r.get mp (fun k => k)
  have mm := mod_none mm mp
  clear mp
  refine ⟨_, _, gm, Nat.le_of_ble_eq_true rfl, ?_⟩
  have ms := Mod.set (S := one hL.next) (ob := .row true 6 [i64 cn, i64 kd, i64 0, i64 0, i64 0, .sl none 0]) rfl gm rfl
  have g0 := ms.get g0 (.inl h0b)
  have gm := H.obj_set_same (ob' := .row true 6 [i64 cn, i64 kd, i64 0, i64 0, i64 0, .sl none 0]) gm
  have r := r.get ms (fun k => hbg k.symm)
  have mm := mm.trans' ms (S2 := none_) (fun _ _ k => k) hbm
  clear ms
  generalize hbe : hL.next = bm at *
  conv => whnf
  refine br_mk (fun h1 => ?_) (fun h1 => ?_)
  conv => whnf
  simp at h1
  refine (num25 r (by omega) ((4 : Nat) : Int)).mono ?_
  rintro _ _ q
  obtain ⟨sq, xs, sp, rfl, ksq, bsq, r', kr', lx', mq, ysq⟩ := kr.num (k := 4) (by decide) (by decide) (R' := fun m => [(4, m.ak)]) (val := fun m => m.sq) (fun m hm => by have := hm.k; exact gtail_1 (by omega)) q
  have gm := mq.get gm (.inl hbg)
  have g0 := mq.get g0 (.inl h0g)
  have mm := mm.trans' mq (S2 := none_) (fun _ _ k => k) hgo
  have r := r'
  have kr := kr'
  have lx := Nat.le_trans lx' lx
  clear r' kr' lx' q mq
  conv => whnf
  refine (num25 r (by omega) ((4 : Nat) : Int)).mono ?_
  rintro _ _ q
  obtain ⟨ak, xs, sp, rfl, kak, bak, r', kr', lx', mq, yak⟩ := kr.num (k := 4) (by decide) (by decide) (R' := fun m => []) (val := fun m => m.ak) (fun m hm => rfl) q
  have gm := mq.get gm (.inl hbg)
  have g0 := mq.get g0 (.inl h0g)
  have mm := mm.trans' mq (S2 := none_) (fun _ _ k => k) hgo
  have r := r'
  have kr := kr'
  have lx := Nat.le_trans lx' lx
  clear r' kr' lx' q mq
  conv => whnf
  refine ⟨_, _, gm, Nat.le_of_ble_eq_true rfl, ?_⟩
  have ms := Mod.set (S := one bm) (ob := .row true 6 [i64 cn, i64 kd, i64 sq, i64 0, i64 0, .sl none 0]) rfl gm rfl
  have g0 := ms.get g0 (.inl h0b)
  have gm := H.obj_set_same (ob' := .row true 6 [i64 cn, i64 kd, i64 sq, i64 0, i64 0, .sl none 0]) gm
  have r := r.get ms (fun k => hbg k.symm)
  have mm := mm.trans' ms (S2 := none_) (fun _ _ k => k) hbm
  clear ms
  conv => whnf
  refine ⟨_, _, gm, Nat.le_of_ble_eq_true rfl, ?_⟩
  have ms := Mod.set (S := one bm) (ob := .row true 6 [i64 cn, i64 kd, i64 sq, i64 ak, i64 0, .sl none 0]) rfl gm rfl
  have g0 := ms.get g0 (.inl h0b)
  have gm := H.obj_set_same (ob' := .row true 6 [i64 cn, i64 kd, i64 sq, i64 ak, i64 0, .sl none 0]) gm
  have r := r.get ms (fun k => hbg k.symm)
  have mm := mm.trans' ms (S2 := none_) (fun _ _ k => k) hbm
  clear ms
  conv => whnf
  refine (left29 r).mono ?_
  rintro _ h' ⟨eh, rfl⟩
  subst h'
  conv => whnf
  refine (raw27 r (by omega) _).mono ?_
  rintro _ _ ⟨q, l, rfl, ob, r', mq⟩
  have hl := ob.len
  subst hl
  have gm := mq.get gm (.inl hbg)
  have g0 := mq.get g0 (.inl h0g)
  have mm := mm.trans' mq (S2 := none_) (fun _ _ k => k) hgo
  have r := r'
  obtain ⟨hv0, hv1⟩ := raw_left xs sp
  have hvb : Bts (rawV xs sp (leftV xs sp)) := raw_left_bts kr.bts
  have hvl : (rawV xs sp (leftV xs sp)).length ≤ xs.length := raw_left_len xs sp
  generalize hrv : rawV xs sp (leftV xs sp) = bd at *
  clear r' mq
  conv => whnf
  refine ⟨_, _, gm, Nat.le_of_ble_eq_true rfl, ?_⟩
  have ms := Mod.set (S := one bm) (ob := .row true 6 [i64 cn, i64 kd, i64 sq, i64 ak, i64 0, .sl q bd.length]) rfl gm rfl
  have g0 := ms.get g0 (.inl h0b)
  have gm := H.obj_set_same (ob' := .row true 6 [i64 cn, i64 kd, i64 sq, i64 ak, i64 0, .sl q bd.length]) gm
  have r := r.get ms (fun k => hbg k.symm)
  have mm := mm.trans' ms (S2 := none_) (fun _ _ k => k) hbm
  have ob := ob.get ms
  clear ms
  conv => whnf
  obtain ⟨m1, hm1⟩ : ∃ m1 : Grm, (⟨cn, kd, sq, ak, 0, q, bd⟩ : Grm) = m1 := ⟨_, rfl⟩
  have okm := okg_mk gm hm1 ⟨ob.is, hvb, by show bd.length ≤ 100000; omega⟩
  have rom := rog_mk gm hm1 ob
  have gm := gm.trans (congrArg (fun x : Grm => some (Ab.Obj.row true 6 x.cells)) hm1)
  have c1 : m1.k ≠ 1 → m1.sq = 0 ∧ m1.bd = [] := by
    rw [← hm1]
    exact fun hh => absurd h1 hh
  have c2 : m1.k = 3 → m1.ak = 0 := by
    rw [← hm1]
    exact fun hh => absurd (h1.symm.trans hh) (by decide)
  have c3 : m1.k ≠ 3 → m1.cd = 0 := by
    rw [← hm1]
    exact fun _ => rfl
  have keq : ∀ m, EncG body kd m → eqG m m1 := by
    intro m hm
    rw [← hm1]
    have hkk := hm.k
    have hk3 : 1 ≤ m.k ∧ m.k ≤ 3 := by simpa [gknd] using hm.kn
    exact eqG.mk (kcn m hm) hkk.symm (ksq m hm) (kak m hm) (hm.c3 (by omega)).symm (by obtain ⟨t1, t2, _⟩ := kr.kn m hm; rw [gbody_1 (by omega)] at t2; exact (hv0 t1).trans t2)
  have hep0 : ∀ i o, m1.bp = some (i, o) → ¬ one h.next i ∨ m1.bd.length = 0 := by
    rw [← hm1]
    exact fun i o e => by
      rcases Nat.eq_zero_or_pos bd.length with z | z
      · exact .inr z
      · refine .inl (fun k => ?_)
        obtain ⟨_, _, rr, e1, e2, _⟩ := ob.2.resolve_left (by omega)
        have e : q = some (i, o) := e
        rw [e] at e1
        injection e1 with e1
        injection e1 with e1
        subst e1
        unfold one at k
        subst k
        rw [g0] at e2
        cases e2
  clear hm1
  rotate_left
  conv => whnf
  refine br_mk (fun h2 => ?_) (fun h2 => ?_)
  conv => whnf
  simp at h2
  refine (num25 r (by omega) ((4 : Nat) : Int)).mono ?_
  rintro _ _ q
  obtain ⟨ak, xs, sp, rfl, kak, bak, r', kr', lx', mq, yak⟩ := kr.num (k := 4) (by decide) (by decide) (R' := fun m => []) (val := fun m => m.ak) (fun m hm => by have := hm.k; exact gtail_2 (by omega)) q
  have gm := mq.get gm (.inl hbg)
  have g0 := mq.get g0 (.inl h0g)
  have mm := mm.trans' mq (S2 := none_) (fun _ _ k => k) hgo
  have r := r'
  have kr := kr'
  have lx := Nat.le_trans lx' lx
  clear r' kr' lx' q mq
  conv => whnf
  refine ⟨_, _, gm, Nat.le_of_ble_eq_true rfl, ?_⟩
  have ms := Mod.set (S := one bm) (ob := .row true 6 [i64 cn, i64 kd, i64 0, i64 ak, i64 0, .sl none 0]) rfl gm rfl
  have g0 := ms.get g0 (.inl h0b)
  have gm := H.obj_set_same (ob' := .row true 6 [i64 cn, i64 kd, i64 0, i64 ak, i64 0, .sl none 0]) gm
  have r := r.get ms (fun k => hbg k.symm)
  have mm := mm.trans' ms (S2 := none_) (fun _ _ k => k) hbm
  clear ms
  conv => whnf
  obtain ⟨m1, hm1⟩ : ∃ m1 : Grm, (⟨cn, kd, 0, ak, 0, none, []⟩ : Grm) = m1 := ⟨_, rfl⟩
  have okm := okg_mk gm hm1 ⟨SlIs.nil _ _ _, fun _ k => (by cases k), Nat.zero_le _⟩
  have rom := rog_mk gm hm1 (RoSl.nil _ _ _)
  have gm := gm.trans (congrArg (fun x : Grm => some (Ab.Obj.row true 6 x.cells)) hm1)
  have c1 : m1.k ≠ 1 → m1.sq = 0 ∧ m1.bd = [] := by
    rw [← hm1]
    exact fun _ => ⟨rfl, rfl⟩
  have c2 : m1.k = 3 → m1.ak = 0 := by
    rw [← hm1]
    exact fun hh => absurd (h2.symm.trans hh) (by decide)
  have c3 : m1.k ≠ 3 → m1.cd = 0 := by
    rw [← hm1]
    exact fun _ => rfl
  have keq : ∀ m, EncG body kd m → eqG m m1 := by
    intro m hm
    rw [← hm1]
    have hkk := hm.k
    have hk3 : 1 ≤ m.k ∧ m.k ≤ 3 := by simpa [gknd] using hm.kn
    exact eqG.mk (kcn m hm) hkk.symm (hm.c1 (by omega)).1.symm (kak m hm) (hm.c3 (by omega)).symm (hm.c1 (by omega)).2.symm
  have hep0 : ∀ i o, m1.bp = some (i, o) → ¬ one h.next i ∨ m1.bd.length = 0 := by
    rw [← hm1]
    exact fun i o e => (by cases e)
  clear hm1
  rotate_left
  conv => whnf
  refine br_mk (fun h3 => ?_) (fun h3 => ?_)
  conv => whnf
  simp at h3
  refine (num25 r (by omega) ((1 : Nat) : Int)).mono ?_
  rintro _ _ q
  obtain ⟨cd, xs, sp, rfl, kcd, bcd, r', kr', lx', mq, ycd⟩ := kr.num (k := 1) (by decide) (by decide) (R' := fun m => []) (val := fun m => m.cd) (fun m hm => by have := hm.k; exact gtail_3 (by omega)) q
  have gm := mq.get gm (.inl hbg)
  have g0 := mq.get g0 (.inl h0g)
  have mm := mm.trans' mq (S2 := none_) (fun _ _ k => k) hgo
  have r := r'
  have kr := kr'
  have lx := Nat.le_trans lx' lx
  clear r' kr' lx' q mq
  conv => whnf
  refine ⟨_, _, gm, Nat.le_of_ble_eq_true rfl, ?_⟩
  have ms := Mod.set (S := one bm) (ob := .row true 6 [i64 cn, i64 kd, i64 0, i64 0, i64 cd, .sl none 0]) rfl gm rfl
  have g0 := ms.get g0 (.inl h0b)
  have gm := H.obj_set_same (ob' := .row true 6 [i64 cn, i64 kd, i64 0, i64 0, i64 cd, .sl none 0]) gm
  have r := r.get ms (fun k => hbg k.symm)
  have mm := mm.trans' ms (S2 := none_) (fun _ _ k => k) hbm
  clear ms
  conv => whnf
  obtain ⟨m1, hm1⟩ : ∃ m1 : Grm, (⟨cn, kd, 0, 0, cd, none, []⟩ : Grm) = m1 := ⟨_, rfl⟩
  have okm := okg_mk gm hm1 ⟨SlIs.nil _ _ _, fun _ k => (by cases k), Nat.zero_le _⟩
  have rom := rog_mk gm hm1 (RoSl.nil _ _ _)
  have gm := gm.trans (congrArg (fun x : Grm => some (Ab.Obj.row true 6 x.cells)) hm1)
  have c1 : m1.k ≠ 1 → m1.sq = 0 ∧ m1.bd = [] := by
    rw [← hm1]
    exact fun _ => ⟨rfl, rfl⟩
  have c2 : m1.k = 3 → m1.ak = 0 := by
    rw [← hm1]
    exact fun _ => rfl
  have c3 : m1.k ≠ 3 → m1.cd = 0 := by
    rw [← hm1]
    exact fun hh => absurd h3 hh
  have keq : ∀ m, EncG body kd m → eqG m m1 := by
    intro m hm
    rw [← hm1]
    have hkk := hm.k
    have hk3 : 1 ≤ m.k ∧ m.k ≤ 3 := by simpa [gknd] using hm.kn
    exact eqG.mk (kcn m hm) hkk.symm (hm.c1 (by omega)).1.symm (hm.c2 (by omega)).symm (kcd m hm) (hm.c1 (by omega)).2.symm
  have hep0 : ∀ i o, m1.bp = some (i, o) → ¬ one h.next i ∨ m1.bd.length = 0 := by
    rw [← hm1]
    exact fun i o e => (by cases e)
  clear hm1
  rotate_left
  conv => whnf
  simp at h1 h2 h3
  obtain ⟨m1, hm1⟩ : ∃ m1 : Grm, (⟨cn, kd, 0, 0, 0, none, []⟩ : Grm) = m1 := ⟨_, rfl⟩
  have okm := okg_mk gm hm1 ⟨SlIs.nil _ _ _, fun _ k => (by cases k), Nat.zero_le _⟩
  have rom := rog_mk gm hm1 (RoSl.nil _ _ _)
  have gm := gm.trans (congrArg (fun x : Grm => some (Ab.Obj.row true 6 x.cells)) hm1)
  have c1 : m1.k ≠ 1 → m1.sq = 0 ∧ m1.bd = [] := by
    rw [← hm1]
    exact fun _ => ⟨rfl, rfl⟩
  have c2 : m1.k = 3 → m1.ak = 0 := by
    rw [← hm1]
    exact fun _ => rfl
  have c3 : m1.k ≠ 3 → m1.cd = 0 := by
    rw [← hm1]
    exact fun _ => rfl
  have keq : ∀ m, EncG body kd m → eqG m m1 := by
    intro m hm
    rw [← hm1]
    have hkk := hm.k
    have hk3 : 1 ≤ m.k ∧ m.k ≤ 3 := by simpa [gknd] using hm.kn
    exact absurd hk3 (by omega)
  have hep0 : ∀ i o, m1.bp = some (i, o) → ¬ one h.next i ∨ m1.bd.length = 0 := by
    rw [← hm1]
    exact fun i o e => (by cases e)
  clear hm1
  rotate_left
  all_goals
    refine ⟨m1.cells, Cells.mk gm (Nat.le_of_ble_eq_true rfl) rfl, ?_⟩
    conv => whnf
    refine (genc49 m1 okm).mono ?_
    rintro _ he ⟨qe, rfl, oe, me⟩
    conv => whnf
    refine ⟨_, rfl, ?_⟩
    conv => whnf
    refine ⟨_, rfl, ?_⟩
    conv => whnf
    have gm := me.get gm (.inl (fun k => k))
    have g0 := me.get g0 (.inl (fun k => k))
    have okm := okm.old me (fun _ _ k => k)
    have mm := mod_none mm me
    have hu0 : (unV b).2.2 = 0 := by rw [hU]
    have keq' : ∀ m, EncG (unV b).2.1 (unV b).1 m → eqG m m1 := by rw [hU]; exact keq
    refine br_mk (fun hx => ?_) (fun hx => ?_)
    · conv => whnf
      have ho : gEncOk m1 = false := by
        cases ho : gEncOk m1 with
        | false => rfl
        | true =>
          rw [ho] at hx
          cases hx
      refine ⟨_, _, g0, Nat.le_of_ble_eq_true rfl, ?_⟩
      conv => whnf
      have ms := Mod.set (S := one h.next) (ob := .row true 6 grm0.cells) rfl g0 rfl
      have g0' := H.obj_set_same (ob' := .row true 6 grm0.cells) g0
      refine ⟨grm0.cells, Cells.mk g0' (Nat.le_of_ble_eq_true rfl) rfl, ?_⟩
      conv => whnf
      exact zero (z := .undef) (gdec_no bb hu0 (.inl ho) keq') mm g0 ms
    conv => whnf
    have ho : gEncOk m1 = true := by
      cases ho : gEncOk m1 with
      | true => rfl
      | false =>
        rw [ho] at hx
        cases hx
    refine (equal58 oe.is (encG_bts okm.2.1) (SlIs.old o mm (fun _ _ k => k)) bb).mono ?_
    rintro _ h' ⟨eh, rfl⟩
    subst h'
    conv => whnf
    refine br_mk (fun hy => ?_) (fun hy => ?_)
    · conv => whnf
      have hy : encG m1 ≠ b := by simpa using hy
      refine ⟨_, _, g0, Nat.le_of_ble_eq_true rfl, ?_⟩
      conv => whnf
      have ms := Mod.set (S := one h.next) (ob := .row true 6 grm0.cells) rfl g0 rfl
      have g0' := H.obj_set_same (ob' := .row true 6 grm0.cells) g0
      refine ⟨grm0.cells, Cells.mk g0' (Nat.le_of_ble_eq_true rfl) rfl, ?_⟩
      conv => whnf
      exact zero (z := .undef) (gdec_no bb hu0 (.inr hy) keq') mm g0 ms
    conv => whnf
    have hy : encG m1 = b := by simpa using hy
    refine ⟨m1.cells, Cells.mk gm (Nat.le_of_ble_eq_true rfl) rfl, ?_⟩
    conv => whnf
    refine ⟨_, _, g0, Nat.le_of_ble_eq_true rfl, ?_⟩
    conv => whnf
    have ms := Mod.set (S := one h.next) (ob := .row true 6 m1.cells) rfl g0 rfl
    have gm2 := H.obj_set_same (ob' := .row true 6 m1.cells) g0
    refine ⟨m1.cells, Cells.mk gm2 (Nat.le_of_ble_eq_true rfl) rfl, ?_⟩
    conv => whnf
    exact ⟨m1, 0, rfl, okm.by ms hep0, mm.trans' ms (S2 := none_) (fun _ _ k => k) hbo, gdec_yes ho hy c1 c2 c3 keq', (rom.get me).get ms⟩
theorem rdr_eq {h : H} {g : Nat} {xs ys : List Int} {s t : Bool} (e : xs = ys) (f : s = t) (r : Rdr h g xs s) : Rdr h g ys t := e ▸ f ▸ r
set_option maxHeartbeats 1000000 in
theorem gdec52 {h : H} {p : Option (Nat × Nat)} {n : Nat} {b : List Int} (o : SlIs h p n false 1 (ints .u8 b)) (bb : Bts b) (hn : n ≤ 800000) : ACalls Tryz.prog 50 [.sl p n] h (GDecS b h) := by
  have hl := slo_len o
  subst hl
  refine call_ Tryz.func50 rfl rfl (by kernel_rfl) ?_
  conv => whnf
  have mm := Mod.push none_ h (.row true 6 [i64 0, i64 0, i64 0, i64 0, i64 0, .sl none 0])
  have g0 : (h.push (.row true 6 [i64 0, i64 0, i64 0, i64 0, i64 0, .sl none 0])).obj h.next = some (.row true 6 [i64 0, i64 0, i64 0, i64 0, i64 0, .sl none 0]) := H.obj_push_new _ _
  have hbo : ∀ i, i < h.next → one h.next i → none_ i := fun i hi k => absurd hi (by unfold one at k; omega)
  have zero : ∀ {hh hz : H} {z : V} {e : Int}, GDec b grm0 e → Ab.Mod none_ h hh → hh.obj h.next = some (.row true 6 [i64 0, i64 0, i64 0, i64 0, i64 0, .sl none 0]) → Ab.Mod (one h.next) hh hz → GDecS b h (.tup [.agg grm0.cells, i64 e]) hz := fun hd m1 _ m2 => ⟨grm0, _, rfl, ⟨SlIs.nil _ _ _, fun _ k => (by cases k), Nat.zero_le _⟩, m1.trans' m2 (S2 := none_) (fun _ _ k => k) hbo, hd, RoSl.nil _ _ _⟩
  refine (un39 (SlIs.old o mm (fun _ _ k => k)) bb (by omega)).mono ?_
  rintro _ h1 ⟨qb, lb, rfl, ob, m1⟩
  have hlb := ob.len
  subst hlb
  have g0 := m1.get g0 (.inl (fun k => k))
  have mm := mod_none mm m1
  obtain ⟨⟨kd, body, er⟩, hU⟩ : ∃ x, unV b = x := ⟨_, rfl⟩
  rw [hU] at ob ⊢
  have ob : OctR h1 qb body.length body := ob
  conv => whnf
  refine ⟨_, rfl, ?_⟩
  conv => whnf
  refine ⟨_, rfl, ?_⟩
  conv => whnf
  refine ⟨_, rfl, ?_⟩
  conv => whnf
  refine br_mk (fun hx => ?_) (fun hx => ?_)
  · conv => whnf
    have hx : er ≠ 0 := by simpa using hx
    refine ⟨_, _, g0, Nat.le_of_ble_eq_true rfl, ?_⟩
    conv => whnf
    have ms := Mod.set (S := one h.next) (ob := .row true 6 grm0.cells) rfl g0 rfl
    have g0' := H.obj_set_same (ob' := .row true 6 grm0.cells) g0
    refine ⟨grm0.cells, Cells.mk g0' (Nat.le_of_ble_eq_true rfl) rfl, ?_⟩
    conv => whnf
    exact zero (z := .undef) (.inl ⟨by rw [hU]; exact hx, by rw [hU], rfl⟩) mm g0 ms
  conv => whnf
  have hx : er = 0 := by simpa using hx
  subst hx
  obtain ⟨i1, i2, bbd, i4, i5⟩ := un_inv bb hU
  have lx := Nat.le_refl body.length
  have kr : KnG body kd body false gparts := KnG.start bbd
  have h0n := h1.lt _ _ g0
  have hbd1 := Mod.push none_ h1 (.row true 2 [.sl qb body.length, .bool false])
  have r : Rdr (h1.push (.row true 2 [.sl qb body.length, .bool false])) h1.next body false := ⟨qb, _, H.obj_push_new _ _, ob.get hbd1⟩
  have g0 := hbd1.get g0 (.inl (fun k => k))
  have mm := mod_none mm hbd1
  have h0g : h.next ≠ h1.next := Nat.ne_of_lt h0n
  have hgo : ∀ i, i < h.next → one h1.next i → none_ i := fun i hi k => absurd hi (by unfold one at k; omega)
  clear hbd1 ob m1
  generalize hge : h1.next = g at *
  obtain ⟨hL, ehL⟩ : ∃ hL, h1.push (.row true 2 [.sl qb body.length, .bool false]) = hL := ⟨_, rfl⟩
  rw [ehL] at r g0 mm
  have ehL' : h1.push (.row true (T.at_ 151).size (vcells (V.agg (splice (vcells (T.at_ 151).zero) 0 (vcells (V.sl qb body.length)))))) = hL := ehL
  rw [ehL']
  have mp := Mod.push none_ hL (.row true 6 [i64 0, i64 0, i64 0, i64 0, i64 0, .sl none 0])
  have gm : (hL.push (.row true 6 [i64 0, i64 0, i64 0, i64 0, i64 0, .sl none 0])).obj hL.next = some (.row true 6 [i64 0, i64 0, i64 0, i64 0, i64 0, .sl none 0]) := H.obj_push_new _ _
  have h0b : h.next ≠ hL.next := Nat.ne_of_lt (hL.lt _ _ g0)
  have hlt : h.next < hL.next := hL.lt _ _ g0
  have hbm : ∀ i, i < h.next → one hL.next i → none_ i := fun i hi k => absurd hi (by unfold one at k; omega)
  have g0 := mp.get g0 (.inl (fun k => k))
  have hbg : hL.next ≠ g := Nat.ne_of_gt r.lt
  have r := r.get mp (fun k => k)
  have mm := mod_none mm mp
  clear mp
  refine ⟨_, _, gm, Nat.le_of_ble_eq_true rfl, ?_⟩
  have ms := Mod.set (S := one hL.next) (ob := .row true 6 [i64 0, i64 kd, i64 0, i64 0, i64 0, .sl none 0]) rfl gm rfl
  have g0 := ms.get g0 (.inl h0b)
  have gm := H.obj_set_same (ob' := .row true 6 [i64 0, i64 kd, i64 0, i64 0, i64 0, .sl none 0]) gm
  have r := r.get ms (fun k => hbg k.symm)
  have mm := mm.trans' ms (S2 := none_) (fun _ _ k => k) hbm
  clear ms
  generalize hbe : hL.next = bm at *
  conv => whnf
  refine br_mk (fun h1 => ?_) (fun h1 => ?_)
  conv => whnf
  simp at h1
  refine (num26 r (by omega) ((4 : Nat) : Int)).mono ?_
  rintro _ _ q
  obtain ⟨cn, xs, sp, rfl, kcn, bcn, r', kr', lx', mq, ycn⟩ := kr.num (k := 4) (by decide) (by decide) (R' := gtail) (val := fun m => m.cn) (fun m hm => rfl) q
  have gm := mq.get gm (.inl hbg)
  have g0 := mq.get g0 (.inl h0g)
  have mm := mm.trans' mq (S2 := none_) (fun _ _ k => k) hgo
  have r := r'
  have kr := kr'
  have lx := Nat.le_trans lx' lx
  clear r' kr' lx' q mq
  conv => whnf
  refine ⟨_, _, gm, Nat.le_of_ble_eq_true rfl, ?_⟩
  have ms := Mod.set (S := one bm) (ob := .row true 6 [i64 cn, i64 kd, i64 0, i64 0, i64 0, .sl none 0]) rfl gm rfl
  have g0 := ms.get g0 (.inl h0b)
  have gm := H.obj_set_same (ob' := .row true 6 [i64 cn, i64 kd, i64 0, i64 0, i64 0, .sl none 0]) gm
  have r := r.get ms (fun k => hbg k.symm)
  have mm := mm.trans' ms (S2 := none_) (fun _ _ k => k) hbm
  clear ms
  conv => whnf
  refine (num26 r (by omega) ((4 : Nat) : Int)).mono ?_
  rintro _ _ q
  obtain ⟨sq, xs, sp, rfl, ksq, bsq, r', kr', lx', mq, ysq⟩ := kr.num (k := 4) (by decide) (by decide) (R' := fun m => [(4, m.ak)]) (val := fun m => m.sq) (fun m hm => by have := hm.k; exact gtail_1 (by omega)) q
  have gm := mq.get gm (.inl hbg)
  have g0 := mq.get g0 (.inl h0g)
  have mm := mm.trans' mq (S2 := none_) (fun _ _ k => k) hgo
  have r := r'
  have kr := kr'
  have lx := Nat.le_trans lx' lx
  clear r' kr' lx' q mq
  conv => whnf
  refine ⟨_, _, gm, Nat.le_of_ble_eq_true rfl, ?_⟩
  have ms := Mod.set (S := one bm) (ob := .row true 6 [i64 cn, i64 kd, i64 sq, i64 0, i64 0, .sl none 0]) rfl gm rfl
  have g0 := ms.get g0 (.inl h0b)
  have gm := H.obj_set_same (ob' := .row true 6 [i64 cn, i64 kd, i64 sq, i64 0, i64 0, .sl none 0]) gm
  have r := r.get ms (fun k => hbg k.symm)
  have mm := mm.trans' ms (S2 := none_) (fun _ _ k => k) hbm
  clear ms
  conv => whnf
  refine (num26 r (by omega) ((4 : Nat) : Int)).mono ?_
  rintro _ _ q
  obtain ⟨ak, xs, sp, rfl, kak, bak, r', kr', lx', mq, yak⟩ := kr.num (k := 4) (by decide) (by decide) (R' := fun m => []) (val := fun m => m.ak) (fun m hm => rfl) q
  have gm := mq.get gm (.inl hbg)
  have g0 := mq.get g0 (.inl h0g)
  have mm := mm.trans' mq (S2 := none_) (fun _ _ k => k) hgo
  have r := r'
  have kr := kr'
  have lx := Nat.le_trans lx' lx
  clear r' kr' lx' q mq
  conv => whnf
  refine ⟨_, _, gm, Nat.le_of_ble_eq_true rfl, ?_⟩
  have ms := Mod.set (S := one bm) (ob := .row true 6 [i64 cn, i64 kd, i64 sq, i64 ak, i64 0, .sl none 0]) rfl gm rfl
  have g0 := ms.get g0 (.inl h0b)
  have gm := H.obj_set_same (ob' := .row true 6 [i64 cn, i64 kd, i64 sq, i64 ak, i64 0, .sl none 0]) gm
  have r := r.get ms (fun k => hbg k.symm)
  have mm := mm.trans' ms (S2 := none_) (fun _ _ k => k) hbm
  clear ms
  conv => whnf
  refine (left30 r).mono ?_
  rintro _ h' ⟨eh, rfl⟩
  subst h'
  conv => whnf
  refine (raw28 r (by omega) _).mono ?_
  rintro _ _ ⟨q, l, rfl, ob, r', mq⟩
  have hl := ob.len
  subst hl
  have gm := mq.get gm (.inl hbg)
  have g0 := mq.get g0 (.inl h0g)
  have mm := mm.trans' mq (S2 := none_) (fun _ _ k => k) hgo
  have r := r'
  obtain ⟨hv0, hv1⟩ := raw_left xs sp
  have hvb : Bts (rawV xs sp (leftV xs sp)) := raw_left_bts kr.bts
  have hvl : (rawV xs sp (leftV xs sp)).length ≤ xs.length := raw_left_len xs sp
  obtain ⟨rx, hrx⟩ : ∃ rx, rawX xs sp (leftV xs sp) = rx := ⟨_, rfl⟩
  obtain ⟨rs, hrs⟩ : ∃ rs, (!rawOk xs sp (leftV xs sp)) = rs := ⟨_, rfl⟩
  have r : Rdr _ g rx rs := rdr_eq hrx hrs r
  generalize hrv : rawV xs sp (leftV xs sp) = bd at *
  clear r' mq
  conv => whnf
  refine ⟨_, _, gm, Nat.le_of_ble_eq_true rfl, ?_⟩
  have ms := Mod.set (S := one bm) (ob := .row true 6 [i64 cn, i64 kd, i64 sq, i64 ak, i64 0, .sl q bd.length]) rfl gm rfl
  have g0 := ms.get g0 (.inl h0b)
  have gm := H.obj_set_same (ob' := .row true 6 [i64 cn, i64 kd, i64 sq, i64 ak, i64 0, .sl q bd.length]) gm
  have r := r.get ms (fun k => hbg k.symm)
  have mm := mm.trans' ms (S2 := none_) (fun _ _ k => k) hbm
  have ob := ob.get ms
  clear ms
  conv => whnf
  obtain ⟨m1, hm1⟩ : ∃ m1 : Grm, (⟨cn, kd, sq, ak, 0, q, bd⟩ : Grm) = m1 := ⟨_, rfl⟩
  have okm := okg_mk gm hm1 ⟨ob.is, hvb, by show bd.length ≤ 100000; omega⟩
  have rom := rog_mk gm hm1 ob
  have gm := gm.trans (congrArg (fun x : Grm => some (Ab.Obj.row true 6 x.cells)) hm1)
  have c1 : m1.k ≠ 1 → m1.sq = 0 ∧ m1.bd = [] := by
    rw [← hm1]
    exact fun hh => absurd h1 hh
  have c2 : m1.k = 3 → m1.ak = 0 := by
    rw [← hm1]
    exact fun hh => absurd (h1.symm.trans hh) (by decide)
  have c3 : m1.k ≠ 3 → m1.cd = 0 := by
    rw [← hm1]
    exact fun _ => rfl
  have keq : ∀ m, EncG body kd m → eqG m m1 := by
    intro m hm
    rw [← hm1]
    have hkk := hm.k
    have hk3 : 1 ≤ m.k ∧ m.k ≤ 3 := by simpa [gknd] using hm.kn
    exact eqG.mk (kcn m hm) hkk.symm (ksq m hm) (kak m hm) (hm.c3 (by omega)).symm (by obtain ⟨t1, t2, _⟩ := kr.kn m hm; rw [gbody_1 (by omega)] at t2; exact (hv0 t1).trans t2)
  have hep0 : ∀ i o, m1.bp = some (i, o) → ¬ one h.next i ∨ m1.bd.length = 0 := by
    rw [← hm1]
    exact fun i o e => by
      rcases Nat.eq_zero_or_pos bd.length with z | z
      · exact .inr z
      · refine .inl (fun k => ?_)
        obtain ⟨_, _, rr, e1, e2, _⟩ := ob.2.resolve_left (by omega)
        have e : q = some (i, o) := e
        rw [e] at e1
        injection e1 with e1
        injection e1 with e1
        subst e1
        unfold one at k
        subst k
        rw [g0] at e2
        cases e2
  have rest : ∀ m, EncG body kd m → doneV rx rs = true := fun m hm => by
    have hkk := hm.k
    obtain ⟨t1, t2, _⟩ := kr.kn m hm
    have hv1 := hv1 t1
    rw [← hrx, ← hrs, hv1.1, hv1.2]
    rfl
  have acc : doneV rx rs = true → EncG body kd m1 := fun hd => by
    simp only [doneV, Bool.and_eq_true, Bool.not_eq_true', List.isEmpty_iff] at hd
    obtain ⟨d1, d2⟩ := hd
    have s3 : sp = false := by
      rw [← hrs] at d1
      cases hsp : sp with
      | false => rfl
      | true =>
        rw [hsp] at d1
        simp [rawOk] at d1
    have hbd := hv0 s3
    obtain ⟨sak, eak⟩ := yak s3
    obtain ⟨ssq, esq⟩ := ysq sak
    obtain ⟨scn, ecn⟩ := ycn ssq
    rw [← hm1]
    refine ⟨rfl, by rw [gknd, decide_eq_true]; show 1 ≤ kd ∧ kd ≤ 3; omega, ?_, ?_, ?_, ?_, ?_⟩
    · rw [gparts, gtail_1 (m := (⟨cn, kd, sq, ak, 0, q, bd⟩ : Grm)) h1]
      simp only [fitP, List.all_cons, List.all_nil, Bool.and_true, Bool.and_eq_true, decide_eq_true_eq]
      exact ⟨bcn, bsq, bak⟩
    · rw [gpay, gparts, gtail_1 (m := (⟨cn, kd, sq, ak, 0, q, bd⟩ : Grm)) h1, gbody_1 (m := (⟨cn, kd, sq, ak, 0, q, bd⟩ : Grm)) h1]
      rw [ecn, esq, eak]
      simp only [bytesP, List.flatMap_cons, List.flatMap_nil, List.append_nil, List.append_assoc]
      rw [hbd]
    · rw [hm1]
      exact c1
    · rw [hm1]
      exact c2
    · rw [hm1]
      exact c3
  clear hm1
  rotate_left
  conv => whnf
  refine br_mk (fun h2 => ?_) (fun h2 => ?_)
  conv => whnf
  simp at h2
  refine (num26 r (by omega) ((4 : Nat) : Int)).mono ?_
  rintro _ _ q
  obtain ⟨cn, xs, sp, rfl, kcn, bcn, r', kr', lx', mq, ycn⟩ := kr.num (k := 4) (by decide) (by decide) (R' := gtail) (val := fun m => m.cn) (fun m hm => rfl) q
  have gm := mq.get gm (.inl hbg)
  have g0 := mq.get g0 (.inl h0g)
  have mm := mm.trans' mq (S2 := none_) (fun _ _ k => k) hgo
  have r := r'
  have kr := kr'
  have lx := Nat.le_trans lx' lx
  clear r' kr' lx' q mq
  conv => whnf
  refine ⟨_, _, gm, Nat.le_of_ble_eq_true rfl, ?_⟩
  have ms := Mod.set (S := one bm) (ob := .row true 6 [i64 cn, i64 kd, i64 0, i64 0, i64 0, .sl none 0]) rfl gm rfl
  have g0 := ms.get g0 (.inl h0b)
  have gm := H.obj_set_same (ob' := .row true 6 [i64 cn, i64 kd, i64 0, i64 0, i64 0, .sl none 0]) gm
  have r := r.get ms (fun k => hbg k.symm)
  have mm := mm.trans' ms (S2 := none_) (fun _ _ k => k) hbm
  clear ms
  conv => whnf
  refine (num26 r (by omega) ((4 : Nat) : Int)).mono ?_
  rintro _ _ q
  obtain ⟨ak, xs, sp, rfl, kak, bak, r', kr', lx', mq, yak⟩ := kr.num (k := 4) (by decide) (by decide) (R' := fun m => []) (val := fun m => m.ak) (fun m hm => by have := hm.k; exact gtail_2 (by omega)) q
  have gm := mq.get gm (.inl hbg)
  have g0 := mq.get g0 (.inl h0g)
  have mm := mm.trans' mq (S2 := none_) (fun _ _ k => k) hgo
  have r := r'
  have kr := kr'
  have lx := Nat.le_trans lx' lx
  clear r' kr' lx' q mq
  conv => whnf
  refine ⟨_, _, gm, Nat.le_of_ble_eq_true rfl, ?_⟩
  have ms := Mod.set (S := one bm) (ob := .row true 6 [i64 cn, i64 kd, i64 0, i64 ak, i64 0, .sl none 0]) rfl gm rfl
  have g0 := ms.get g0 (.inl h0b)
  have gm := H.obj_set_same (ob' := .row true 6 [i64 cn, i64 kd, i64 0, i64 ak, i64 0, .sl none 0]) gm
  have r := r.get ms (fun k => hbg k.symm)
  have mm := mm.trans' ms (S2 := none_) (fun _ _ k => k) hbm
  clear ms
  conv => whnf
  obtain ⟨rx, hrx⟩ : ∃ rx, xs = rx := ⟨_, rfl⟩
  obtain ⟨rs, hrs⟩ : ∃ rs, sp = rs := ⟨_, rfl⟩
  have r : Rdr _ g rx rs := rdr_eq hrx hrs r
  obtain ⟨m1, hm1⟩ : ∃ m1 : Grm, (⟨cn, kd, 0, ak, 0, none, []⟩ : Grm) = m1 := ⟨_, rfl⟩
  have okm := okg_mk gm hm1 ⟨SlIs.nil _ _ _, fun _ k => (by cases k), Nat.zero_le _⟩
  have rom := rog_mk gm hm1 (RoSl.nil _ _ _)
  have gm := gm.trans (congrArg (fun x : Grm => some (Ab.Obj.row true 6 x.cells)) hm1)
  have c1 : m1.k ≠ 1 → m1.sq = 0 ∧ m1.bd = [] := by
    rw [← hm1]
    exact fun _ => ⟨rfl, rfl⟩
  have c2 : m1.k = 3 → m1.ak = 0 := by
    rw [← hm1]
    exact fun hh => absurd (h2.symm.trans hh) (by decide)
  have c3 : m1.k ≠ 3 → m1.cd = 0 := by
    rw [← hm1]
    exact fun _ => rfl
  have keq : ∀ m, EncG body kd m → eqG m m1 := by
    intro m hm
    rw [← hm1]
    have hkk := hm.k
    have hk3 : 1 ≤ m.k ∧ m.k ≤ 3 := by simpa [gknd] using hm.kn
    exact eqG.mk (kcn m hm) hkk.symm (hm.c1 (by omega)).1.symm (kak m hm) (hm.c3 (by omega)).symm (hm.c1 (by omega)).2.symm
  have hep0 : ∀ i o, m1.bp = some (i, o) → ¬ one h.next i ∨ m1.bd.length = 0 := by
    rw [← hm1]
    exact fun i o e => (by cases e)
  have rest : ∀ m, EncG body kd m → doneV rx rs = true := fun m hm => by
    have hkk := hm.k
    obtain ⟨t1, t2, _⟩ := kr.kn m hm
    rw [gbody_n (by omega)] at t2
    rw [← hrx, ← hrs, t1, t2]
    rfl
  have acc : doneV rx rs = true → EncG body kd m1 := fun hd => by
    simp only [doneV, Bool.and_eq_true, Bool.not_eq_true', List.isEmpty_iff] at hd
    obtain ⟨d1, d2⟩ := hd
    have s3 : sp = false := hrs.trans d1
    have hx0 : xs = [] := hrx.trans d2
    obtain ⟨sak, eak⟩ := yak s3
    obtain ⟨scn, ecn⟩ := ycn sak
    rw [← hm1]
    refine ⟨rfl, by rw [gknd, decide_eq_true]; show 1 ≤ kd ∧ kd ≤ 3; omega, ?_, ?_, ?_, ?_, ?_⟩
    · rw [gparts, gtail_2 (m := (⟨cn, kd, 0, ak, 0, none, []⟩ : Grm)) h2]
      simp only [fitP, List.all_cons, List.all_nil, Bool.and_true, Bool.and_eq_true, decide_eq_true_eq]
      exact ⟨bcn, bak⟩
    · rw [gpay, gparts, gtail_2 (m := (⟨cn, kd, 0, ak, 0, none, []⟩ : Grm)) h2, gbody_n (m := (⟨cn, kd, 0, ak, 0, none, []⟩ : Grm)) (show kd ≠ 1 by omega)]
      rw [ecn, eak]
      simp only [bytesP, List.flatMap_cons, List.flatMap_nil, List.append_nil]
      rw [hx0, List.append_nil]
    · rw [hm1]
      exact c1
    · rw [hm1]
      exact c2
    · rw [hm1]
      exact c3
  clear hm1
  rotate_left
  conv => whnf
  refine br_mk (fun h3 => ?_) (fun h3 => ?_)
  conv => whnf
  simp at h3
  refine (num26 r (by omega) ((4 : Nat) : Int)).mono ?_
  rintro _ _ q
  obtain ⟨cn, xs, sp, rfl, kcn, bcn, r', kr', lx', mq, ycn⟩ := kr.num (k := 4) (by decide) (by decide) (R' := gtail) (val := fun m => m.cn) (fun m hm => rfl) q
  have gm := mq.get gm (.inl hbg)
  have g0 := mq.get g0 (.inl h0g)
  have mm := mm.trans' mq (S2 := none_) (fun _ _ k => k) hgo
  have r := r'
  have kr := kr'
  have lx := Nat.le_trans lx' lx
  clear r' kr' lx' q mq
  conv => whnf
  refine ⟨_, _, gm, Nat.le_of_ble_eq_true rfl, ?_⟩
  have ms := Mod.set (S := one bm) (ob := .row true 6 [i64 cn, i64 kd, i64 0, i64 0, i64 0, .sl none 0]) rfl gm rfl
  have g0 := ms.get g0 (.inl h0b)
  have gm := H.obj_set_same (ob' := .row true 6 [i64 cn, i64 kd, i64 0, i64 0, i64 0, .sl none 0]) gm
  have r := r.get ms (fun k => hbg k.symm)
  have mm := mm.trans' ms (S2 := none_) (fun _ _ k => k) hbm
  clear ms
  conv => whnf
  refine (num26 r (by omega) ((1 : Nat) : Int)).mono ?_
  rintro _ _ q
  obtain ⟨cd, xs, sp, rfl, kcd, bcd, r', kr', lx', mq, ycd⟩ := kr.num (k := 1) (by decide) (by decide) (R' := fun m => []) (val := fun m => m.cd) (fun m hm => by have := hm.k; exact gtail_3 (by omega)) q
  have gm := mq.get gm (.inl hbg)
  have g0 := mq.get g0 (.inl h0g)
  have mm := mm.trans' mq (S2 := none_) (fun _ _ k => k) hgo
  have r := r'
  have kr := kr'
  have lx := Nat.le_trans lx' lx
  clear r' kr' lx' q mq
  conv => whnf
  refine ⟨_, _, gm, Nat.le_of_ble_eq_true rfl, ?_⟩
  have ms := Mod.set (S := one bm) (ob := .row true 6 [i64 cn, i64 kd, i64 0, i64 0, i64 cd, .sl none 0]) rfl gm rfl
  have g0 := ms.get g0 (.inl h0b)
  have gm := H.obj_set_same (ob' := .row true 6 [i64 cn, i64 kd, i64 0, i64 0, i64 cd, .sl none 0]) gm
  have r := r.get ms (fun k => hbg k.symm)
  have mm := mm.trans' ms (S2 := none_) (fun _ _ k => k) hbm
  clear ms
  conv => whnf
  obtain ⟨rx, hrx⟩ : ∃ rx, xs = rx := ⟨_, rfl⟩
  obtain ⟨rs, hrs⟩ : ∃ rs, sp = rs := ⟨_, rfl⟩
  have r : Rdr _ g rx rs := rdr_eq hrx hrs r
  obtain ⟨m1, hm1⟩ : ∃ m1 : Grm, (⟨cn, kd, 0, 0, cd, none, []⟩ : Grm) = m1 := ⟨_, rfl⟩
  have okm := okg_mk gm hm1 ⟨SlIs.nil _ _ _, fun _ k => (by cases k), Nat.zero_le _⟩
  have rom := rog_mk gm hm1 (RoSl.nil _ _ _)
  have gm := gm.trans (congrArg (fun x : Grm => some (Ab.Obj.row true 6 x.cells)) hm1)
  have c1 : m1.k ≠ 1 → m1.sq = 0 ∧ m1.bd = [] := by
    rw [← hm1]
    exact fun _ => ⟨rfl, rfl⟩
  have c2 : m1.k = 3 → m1.ak = 0 := by
    rw [← hm1]
    exact fun _ => rfl
  have c3 : m1.k ≠ 3 → m1.cd = 0 := by
    rw [← hm1]
    exact fun hh => absurd h3 hh
  have keq : ∀ m, EncG body kd m → eqG m m1 := by
    intro m hm
    rw [← hm1]
    have hkk := hm.k
    have hk3 : 1 ≤ m.k ∧ m.k ≤ 3 := by simpa [gknd] using hm.kn
    exact eqG.mk (kcn m hm) hkk.symm (hm.c1 (by omega)).1.symm (hm.c2 (by omega)).symm (kcd m hm) (hm.c1 (by omega)).2.symm
  have hep0 : ∀ i o, m1.bp = some (i, o) → ¬ one h.next i ∨ m1.bd.length = 0 := by
    rw [← hm1]
    exact fun i o e => (by cases e)
  have rest : ∀ m, EncG body kd m → doneV rx rs = true := fun m hm => by
    have hkk := hm.k
    obtain ⟨t1, t2, _⟩ := kr.kn m hm
    rw [gbody_n (by omega)] at t2
    rw [← hrx, ← hrs, t1, t2]
    rfl
  have acc : doneV rx rs = true → EncG body kd m1 := fun hd => by
    simp only [doneV, Bool.and_eq_true, Bool.not_eq_true', List.isEmpty_iff] at hd
    obtain ⟨d1, d2⟩ := hd
    have s3 : sp = false := hrs.trans d1
    have hx0 : xs = [] := hrx.trans d2
    obtain ⟨scd, ecd⟩ := ycd s3
    obtain ⟨scn, ecn⟩ := ycn scd
    rw [← hm1]
    refine ⟨rfl, by rw [gknd, decide_eq_true]; show 1 ≤ kd ∧ kd ≤ 3; omega, ?_, ?_, ?_, ?_, ?_⟩
    · rw [gparts, gtail_3 (m := (⟨cn, kd, 0, 0, cd, none, []⟩ : Grm)) h3]
      simp only [fitP, List.all_cons, List.all_nil, Bool.and_true, Bool.and_eq_true, decide_eq_true_eq]
      exact ⟨bcn, bcd⟩
    · rw [gpay, gparts, gtail_3 (m := (⟨cn, kd, 0, 0, cd, none, []⟩ : Grm)) h3, gbody_n (m := (⟨cn, kd, 0, 0, cd, none, []⟩ : Grm)) (show kd ≠ 1 by omega)]
      rw [ecn, ecd]
      simp only [bytesP, List.flatMap_cons, List.flatMap_nil, List.append_nil]
      rw [hx0, List.append_nil]
    · rw [hm1]
      exact c1
    · rw [hm1]
      exact c2
    · rw [hm1]
      exact c3
  clear hm1
  rotate_left
  conv => whnf
  simp at h1 h2 h3
  have hno : ∀ m, ¬ EncG body kd m := fun m hm => by
    have hkk := hm.k
    have hk3 : 1 ≤ m.k ∧ m.k ≤ 3 := by simpa [gknd] using hm.kn
    omega
  refine ⟨_, _, g0, Nat.le_of_ble_eq_true rfl, ?_⟩
  conv => whnf
  have ms := Mod.set (S := one h.next) (ob := .row true 6 grm0.cells) rfl g0 rfl
  have g0' := H.obj_set_same (ob' := .row true 6 grm0.cells) g0
  refine ⟨grm0.cells, Cells.mk g0' (Nat.le_of_ble_eq_true rfl) rfl, ?_⟩
  conv => whnf
  exact zero (z := .undef) (.inr ⟨by rw [hU], .inr ⟨rfl, rfl, by rw [hU]; exact hno⟩⟩) mm g0 ms
  all_goals
    refine (done32 r).mono ?_
    rintro _ h' ⟨eh, rfl⟩
    subst h'
    conv => whnf
    refine br_mk (fun hx => ?_) (fun hx => ?_)
    · conv => whnf
      have hx : doneV rx rs = false := by simpa using hx
      have hno : ∀ m, ¬ EncG body kd m := fun m hm => by
        have := rest m hm
        rw [hx] at this
        cases this
      refine ⟨_, _, g0, Nat.le_of_ble_eq_true rfl, ?_⟩
      conv => whnf
      have ms := Mod.set (S := one h.next) (ob := .row true 6 grm0.cells) rfl g0 rfl
      have g0' := H.obj_set_same (ob' := .row true 6 grm0.cells) g0
      refine ⟨grm0.cells, Cells.mk g0' (Nat.le_of_ble_eq_true rfl) rfl, ?_⟩
      conv => whnf
      exact zero (z := .undef) (.inr ⟨by rw [hU], .inr ⟨rfl, rfl, by rw [hU]; exact hno⟩⟩) mm g0 ms
    conv => whnf
    have hx : doneV rx rs = true := by simpa using hx
    have he := acc hx
    refine ⟨m1.cells, Cells.mk gm (Nat.le_of_ble_eq_true rfl) rfl, ?_⟩
    conv => whnf
    refine ⟨_, _, g0, Nat.le_of_ble_eq_true rfl, ?_⟩
    conv => whnf
    have ms := Mod.set (S := one h.next) (ob := .row true 6 m1.cells) rfl g0 rfl
    have gm2 := H.obj_set_same (ob' := .row true 6 m1.cells) g0
    refine ⟨m1.cells, Cells.mk gm2 (Nat.le_of_ble_eq_true rfl) rfl, ?_⟩
    conv => whnf
    exact ⟨m1, 0, rfl, okm.by ms hep0, mm.trans' ms (S2 := none_) (fun _ _ k => k) hbo, .inr ⟨by rw [hU], .inl ⟨rfl, by rw [hU]; exact he, by rw [hU]; exact keq⟩⟩, rom.get ms⟩
end Go.Proofs.YtmififfaljihgaaGreat
