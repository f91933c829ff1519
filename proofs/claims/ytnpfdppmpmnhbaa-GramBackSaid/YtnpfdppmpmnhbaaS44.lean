/- Datagrams: Encode, of both makes. -/
import Derived.Test.YtnpfdppmpmnhbaaS43
set_option linter.unusedVariables false
namespace Go.Proofs.Ytnpfdppmpmnhbaa
open Go Go.Ab
def GEncQ (m : Grm) (h : H) (r : V) (h' : H) : Prop := ∃ q, r = .tup [.sl q (encG m).length, i64 (if gOk m then 0 else 1)] ∧ Oct h' q (encG m).length (encG m) ∧ Ab.Mod none_ h h'
theorem gencQ_bad {m : Grm} {h h' : H} (he : gOk m = false) (k : Ab.Mod none_ h h') : GEncQ m h (.tup [.sl none 0, i64 1]) h' := by
  have hB : encG m = [] := by rw [encG, he]; rfl
  unfold GEncQ
  rw [he, hB]
  exact ⟨none, rfl, Oct.nil _ _, k⟩
theorem gencQ_wr {m : Grm} {h hx h' : H} {v : V} (hk : gknd m = true) (hf : fitP (gparts m) = true) (k : Ab.Mod none_ h hx) (q : WrQ m.k (gpay m) hx v h') : GEncQ m h v h' := by
  obtain ⟨q, rfl, o, mm⟩ := q
  have hb := gk_byte hk
  have e : gOk m = !wrBad m.k (gpay m) := by
    rw [gOk, hk, hf, wrBad, decide_eq_false (show ¬ m.k < 0 by omega), decide_eq_false (show ¬ 255 < m.k by omega)]
    by_cases h : (gpay m).length ≤ 2000
    · simp [h]
    · simp [h]
      omega
  have eE : encG m = wrV m.k (gpay m) := by
    rw [encG, e, wrV]
    cases wrBad m.k (gpay m)
    · rw [wrOk_frm, wrap_u8_id hb.1 hb.2]
      rfl
    · rfl
  unfold GEncQ
  rw [eE, e]
  refine ⟨q, ?_, o, mod_none k mm⟩
  cases wrBad m.k (gpay m) <;> rfl
theorem NewW.nil_ {h0 h : H} {g : Nat} {p : Option (Nat × Nat)} {xs ys : List Int} {sp : Bool} (w : NewW h0 h g p xs sp) (e : ys = []) : NewW h0 h g p (xs ++ ys) sp := by
  rw [e, List.append_nil]
  exact w
theorem NewW.app_ {h0 h : H} {g : Nat} {p : Option (Nat × Nat)} {xs ys zs : List Int} {sp : Bool} (w : NewW h0 h g p (xs ++ zs) sp) (e : ys = zs) : NewW h0 h g p (xs ++ ys) sp := by
  rw [e]
  exact w
theorem ws_mk {h0 h : H} {g : Nat} {p : Option (Nat × Nat)} {m : Grm} {xs : List Int} {sp : Bool} (st : Wst (gparts m) xs sp) (w : NewW h0 h g p (xs ++ gbody m) sp) : ∃ xs sp, Wst (gparts m) xs sp ∧ NewW h0 h g p (xs ++ gbody m) sp := ⟨_, _, st, w⟩
theorem gbody_len (m : Grm) : (gbody m).length ≤ m.bd.length := by
  by_cases h : m.k = 1
  · rw [gbody_1 h]
    exact Nat.le_refl _
  · rw [gbody_n h]
    exact Nat.zero_le _
theorem genc49 {h : H} (m : Grm) (ok : m.ok h) : ACalls Try.prog 49 [.agg m.cells] h (GEncQ m h) := by
  refine call_ Try.func49 rfl rfl (by kernel_rfl) ?_
  conv => whnf
  have mb := Mod.push none_ h (.row true 6 m.cells)
  have ok1 : m.ok (h.push (.row true 6 m.cells)) := ok.old mb (fun _ _ k => k)
  have w := NewW.new (h.push (.row true 6 m.cells))
  have kb : Kp _ (h.push (.row true 6 m.cells)).next none h.next (.row true 6 m.cells) := ⟨w.2.2.get (H.obj_push_new _ _) (.inl (fun k => k)), by
    rintro (k | ⟨_, k⟩)
    · exact absurd k (Nat.ne_of_lt (Nat.lt_succ_self _))
    · cases k⟩
  have hbd := ok.2.2
  have bad : ∀ {h' : H}, gOk m = false → Ab.Mod none_ (h.push (.row true 6 m.cells)) h' → GEncQ m h (.tup [.sl none 0, i64 1]) h' := fun he k => gencQ_bad he (mod_none mb k)
  have fin : ∀ {hx : H} {v : V} {h' : H}, gknd m = true → fitP (gparts m) = true → Ab.Mod none_ (h.push (.row true 6 m.cells)) hx → WrQ m.k (gpay m) hx v h' → GEncQ m h v h' := fun hk hf k q => gencQ_wr hk hf (mod_none mb k) q
  have st := Wst.nil
  generalize hbx : h.next = bx at *
  refine ⟨_, Cell.mk kb.1 rfl, ?_⟩
  conv => whnf
  rw [oneNum]
  have s1 := Kp.push w.1 (.row true 1 (ints .i64 [m.cn]))
  have kb := kb.keep (Mod.push none_ _ (.row true 1 (ints .i64 [m.cn])))
  have w := w.keep (Mod.push none_ _ (.row true 1 (ints .i64 [m.cn])))
  refine (nums19 w.1 (s1.nums rfl) (by
    refine Nat.le_trans st.len ?_
    simp) (by simp) (4 : Nat)).mono ?_
  rintro _ _ ⟨rfl, q, wq, fq, mq⟩
  have kb := kb.step fq mq
  have w := w.step' wq fq mq
  have st := st.prog (k := 4) (by decide) (by decide) [m.cn]
  conv => whnf
  refine ⟨_, Cell.mk kb.1 rfl, ?_⟩
  conv => whnf
  refine br_mk (fun h1 => ?_) (fun h1 => ?_)
  conv => whnf
  simp at h1
  refine ⟨[0, 1, 2, 3, 4, 7, 8, 5, 6, 9], [0, 0, 2, 0, 8, 30, 63, 0, 128, 511], by kernel_rfl, ?_⟩
  conv => whnf
  refine ⟨_, Cell.mk kb.1 rfl, ?_⟩
  conv => whnf
  refine ⟨_, Cell.mk kb.1 rfl, ?_⟩
  conv => whnf
  refine ⟨_, Cell.mk kb.1 rfl, ?_⟩
  conv => whnf
  rw [twoNum]
  have s1 := Kp.push w.1 (.row true 1 (ints .i64 [m.sq, m.ak]))
  have kb := kb.keep (Mod.push none_ _ (.row true 1 (ints .i64 [m.sq, m.ak])))
  have w := w.keep (Mod.push none_ _ (.row true 1 (ints .i64 [m.sq, m.ak])))
  refine (nums19 w.1 (s1.nums rfl) (by
    refine Nat.le_trans st.len ?_
    simp) (by simp) (4 : Nat)).mono ?_
  rintro _ _ ⟨rfl, q, wq, fq, mq⟩
  have kb := kb.step fq mq
  have w := w.step' wq fq mq
  have st := st.prog (k := 4) (by decide) (by decide) [m.sq, m.ak]
  conv => whnf
  refine ⟨?_, ?_⟩
  · conv => whnf
    exact ⟨_, Cell.mk kb.1 rfl, rfl⟩
  conv => whnf
  refine (raw22 w.1 (SlIs.old ok1.1 w.2.2 (fun _ _ k => k)) (by
    refine Nat.le_trans st.len ?_
    simp) (by omega)).mono ?_
  rintro _ _ ⟨rfl, q, wq, fq, mq⟩
  have kb := kb.step fq mq
  have w := w.step' wq fq mq
  conv => whnf
  have st := st.cast (ps' := gparts m) (by
    rw [gparts, gtail_1 h1]
    rfl)
  have gb := gbody_1 h1
  have w := w.app_ gb
  have hk : gknd m = true := by
    rw [gknd, h1]
    rfl
  rotate_left
  conv => whnf
  refine br_mk (fun h2 => ?_) (fun h2 => ?_)
  conv => whnf
  simp at h2
  refine ⟨_, Cell.mk kb.1 rfl, ?_⟩
  conv => whnf
  rw [oneNum]
  have s1 := Kp.push w.1 (.row true 1 (ints .i64 [m.ak]))
  have kb := kb.keep (Mod.push none_ _ (.row true 1 (ints .i64 [m.ak])))
  have w := w.keep (Mod.push none_ _ (.row true 1 (ints .i64 [m.ak])))
  refine (nums19 w.1 (s1.nums rfl) (by
    refine Nat.le_trans st.len ?_
    simp) (by simp) (4 : Nat)).mono ?_
  rintro _ _ ⟨rfl, q, wq, fq, mq⟩
  have kb := kb.step fq mq
  have w := w.step' wq fq mq
  have st := st.prog (k := 4) (by decide) (by decide) [m.ak]
  conv => whnf
  have st := st.cast (ps' := gparts m) (by
    rw [gparts, gtail_2 h2]
    rfl)
  have gb := gbody_n (m := m) (by omega)
  have w := w.nil_ gb
  have hk : gknd m = true := by
    rw [gknd, h2]
    rfl
  rotate_left
  conv => whnf
  refine br_mk (fun h3 => ?_) (fun h3 => ?_)
  conv => whnf
  simp at h3
  refine ⟨_, Cell.mk kb.1 rfl, ?_⟩
  conv => whnf
  rw [oneNum]
  have s1 := Kp.push w.1 (.row true 1 (ints .i64 [m.cd]))
  have kb := kb.keep (Mod.push none_ _ (.row true 1 (ints .i64 [m.cd])))
  have w := w.keep (Mod.push none_ _ (.row true 1 (ints .i64 [m.cd])))
  refine (nums19 w.1 (s1.nums rfl) (by
    refine Nat.le_trans st.len ?_
    simp) (by simp) (1 : Nat)).mono ?_
  rintro _ _ ⟨rfl, q, wq, fq, mq⟩
  have kb := kb.step fq mq
  have w := w.step' wq fq mq
  have st := st.prog (k := 1) (by decide) (by decide) [m.cd]
  conv => whnf
  have st := st.cast (ps' := gparts m) (by
    rw [gparts, gtail_3 h3]
    rfl)
  have gb := gbody_n (m := m) (by omega)
  have w := w.nil_ gb
  have hk : gknd m = true := by
    rw [gknd, h3]
    rfl
  rotate_left
  conv => whnf
  simp at h1 h2 h3
  have hk : gknd m = false := by
    rw [gknd, decide_eq_false]
    omega
  exact bad (by rw [gOk, hk, Bool.false_and, Bool.false_and]) w.2.2
  all_goals
    obtain ⟨xs, sp, st, w⟩ := ws_mk st w
    have hl := st.len
    have hpl := (gparts_len m).1
    have hgl : (gbody m).length ≤ 100000 := Nat.le_trans (gbody_len m) hbd
    refine (bytes23 w.1 (by rw [List.length_append]; omega)).mono ?_
    rintro _ h3 ⟨q, n, rfl, o3, m3⟩
    conv => whnf
    refine ⟨_, rfl, ?_⟩
    conv => whnf
    refine ⟨_, rfl, ?_⟩
    conv => whnf
    have kb := kb.keep m3
    have w := w.keep m3
    refine br_mk (fun hx => ?_) (fun hx => ?_)
    · have hsp : sp = true := by
        cases sp with
        | true => rfl
        | false => cases hx
      subst hsp
      conv => whnf
      refine bad ?_ w.2.2
      have hf : fitP (gparts m) = false := by simpa using st.hsp
      rw [gOk, hf, Bool.and_false, Bool.false_and]
    conv => whnf
    have hsp : sp = false := by
      cases sp with
      | false => rfl
      | true => cases hx
    subst hsp
    have hf : fitP (gparts m) = true := by simpa using st.hsp
    have o3 : Oct h3 q n (gpay m) := by
      rw [gpay, ← st.hxs rfl]
      exact o3
    have hn := o3.len
    subst hn
    have hpl2 := gpay_len m
    refine ⟨_, Cell.mk kb.1 rfl, ?_⟩
    conv => whnf
    refine (wrap36 o3.is (by unfold maxLen; omega) m.k).mono ?_
    rintro _ h4 q4
    have fq := fin hk hf w.2.2 q4
    obtain ⟨q5, rfl, o5, m5⟩ := q4
    conv => whnf
    refine ⟨_, rfl, ?_⟩
    conv => whnf
    refine ⟨_, rfl, ?_⟩
    conv => whnf
    exact fq
theorem gref50 {h : H} (m : Grm) (ok : m.ok h) : ACalls Try.prog 50 [.agg m.cells] h (GEncQ m h) := by
  refine call_ Try.func50 rfl rfl (by kernel_rfl) ?_
  conv => whnf
  have mb := Mod.push none_ h (.row true 6 m.cells)
  have ok1 : m.ok (h.push (.row true 6 m.cells)) := ok.old mb (fun _ _ k => k)
  have w := NewW.new (h.push (.row true 6 m.cells))
  have kb : Kp _ (h.push (.row true 6 m.cells)).next none h.next (.row true 6 m.cells) := ⟨w.2.2.get (H.obj_push_new _ _) (.inl (fun k => k)), by
    rintro (k | ⟨_, k⟩)
    · exact absurd k (Nat.ne_of_lt (Nat.lt_succ_self _))
    · cases k⟩
  have hbd := ok.2.2
  have bad : ∀ {h' : H}, gOk m = false → Ab.Mod none_ (h.push (.row true 6 m.cells)) h' → GEncQ m h (.tup [.sl none 0, i64 1]) h' := fun he k => gencQ_bad he (mod_none mb k)
  have fin : ∀ {hx : H} {v : V} {h' : H}, gknd m = true → fitP (gparts m) = true → Ab.Mod none_ (h.push (.row true 6 m.cells)) hx → WrQ m.k (gpay m) hx v h' → GEncQ m h v h' := fun hk hf k q => gencQ_wr hk hf (mod_none mb k) q
  have st := Wst.nil
  generalize hbx : h.next = bx at *
  refine ⟨_, Cell.mk kb.1 rfl, ?_⟩
  conv => whnf
  refine br_mk (fun h1 => ?_) (fun h1 => ?_)
  conv => whnf
  simp at h1
  refine ⟨_, Cell.mk kb.1 rfl, ?_⟩
  conv => whnf
  refine (num21 w.1 (by
    refine Nat.le_trans st.len ?_
    simp) ((4 : Nat) : Int) m.cn).mono ?_
  rintro _ _ ⟨rfl, q, wq, fq, mq⟩
  have kb := kb.step fq mq
  have w := w.step' wq fq mq
  have st := st.ref (k := 4) (by decide) (by decide) m.cn
  conv => whnf
  refine ⟨_, Cell.mk kb.1 rfl, ?_⟩
  conv => whnf
  refine (num21 w.1 (by
    refine Nat.le_trans st.len ?_
    simp) ((4 : Nat) : Int) m.sq).mono ?_
  rintro _ _ ⟨rfl, q, wq, fq, mq⟩
  have kb := kb.step fq mq
  have w := w.step' wq fq mq
  have st := st.ref (k := 4) (by decide) (by decide) m.sq
  conv => whnf
  refine ⟨_, Cell.mk kb.1 rfl, ?_⟩
  conv => whnf
  refine (num21 w.1 (by
    refine Nat.le_trans st.len ?_
    simp) ((4 : Nat) : Int) m.ak).mono ?_
  rintro _ _ ⟨rfl, q, wq, fq, mq⟩
  have kb := kb.step fq mq
  have w := w.step' wq fq mq
  have st := st.ref (k := 4) (by decide) (by decide) m.ak
  conv => whnf
  refine ⟨[0, 1, 2, 3, 4, 5, 6, 7, 8, 9, 10], [0, 0, 2, 6, 14, 0, 32, 126, 255, 511, 1023], by kernel_rfl, ?_⟩
  conv => whnf
  refine ⟨_, Cell.mk w.1.1 rfl, ?_⟩
  conv => whnf
  refine ⟨_, Cell.mk kb.1 rfl, ?_⟩
  conv => whnf
  have hl : _ ≤ 21 := st.len
  have hv := SlIs.old ok1.1 w.2.2 (fun _ _ k => k)
  refine ⟨_, _, w.1.2.1, hv, by rw [T5b]; omega, by omega, fun p2 h2 hs2 hm2 hf2 => ?_⟩
  conv => whnf
  obtain ⟨e2, q2, wq, fq, mq⟩ := w.1.app (ys := m.bd) (mod_refl _ _) hs2 hm2 hf2
  have kb := kb.step fq mq
  have w := w.step' wq fq mq
  refine ⟨_, _, e2, Nat.le_of_ble_eq_true rfl, ?_⟩
  conv => whnf
  clear hl hv hs2 hm2 hf2 e2
  have st := st.cast (ps' := gparts m) (by
    rw [gparts, gtail_1 h1]
    rfl)
  have gb := gbody_1 h1
  have w := w.app_ gb
  have hk : gknd m = true := by
    rw [gknd, h1]
    rfl
  rotate_left
  conv => whnf
  refine br_mk (fun h2 => ?_) (fun h2 => ?_)
  conv => whnf
  simp at h2
  refine ⟨_, Cell.mk kb.1 rfl, ?_⟩
  conv => whnf
  refine (num21 w.1 (by
    refine Nat.le_trans st.len ?_
    simp) ((4 : Nat) : Int) m.cn).mono ?_
  rintro _ _ ⟨rfl, q, wq, fq, mq⟩
  have kb := kb.step fq mq
  have w := w.step' wq fq mq
  have st := st.ref (k := 4) (by decide) (by decide) m.cn
  conv => whnf
  refine ⟨_, Cell.mk kb.1 rfl, ?_⟩
  conv => whnf
  refine (num21 w.1 (by
    refine Nat.le_trans st.len ?_
    simp) ((4 : Nat) : Int) m.ak).mono ?_
  rintro _ _ ⟨rfl, q, wq, fq, mq⟩
  have kb := kb.step fq mq
  have w := w.step' wq fq mq
  have st := st.ref (k := 4) (by decide) (by decide) m.ak
  conv => whnf
  have st := st.cast (ps' := gparts m) (by
    rw [gparts, gtail_2 h2]
    rfl)
  have gb := gbody_n (m := m) (by omega)
  have w := w.nil_ gb
  have hk : gknd m = true := by
    rw [gknd, h2]
    rfl
  rotate_left
  conv => whnf
  refine br_mk (fun h3 => ?_) (fun h3 => ?_)
  conv => whnf
  simp at h3
  refine ⟨_, Cell.mk kb.1 rfl, ?_⟩
  conv => whnf
  refine (num21 w.1 (by
    refine Nat.le_trans st.len ?_
    simp) ((4 : Nat) : Int) m.cn).mono ?_
  rintro _ _ ⟨rfl, q, wq, fq, mq⟩
  have kb := kb.step fq mq
  have w := w.step' wq fq mq
  have st := st.ref (k := 4) (by decide) (by decide) m.cn
  conv => whnf
  refine ⟨_, Cell.mk kb.1 rfl, ?_⟩
  conv => whnf
  refine (num21 w.1 (by
    refine Nat.le_trans st.len ?_
    simp) ((1 : Nat) : Int) m.cd).mono ?_
  rintro _ _ ⟨rfl, q, wq, fq, mq⟩
  have kb := kb.step fq mq
  have w := w.step' wq fq mq
  have st := st.ref (k := 1) (by decide) (by decide) m.cd
  conv => whnf
  have st := st.cast (ps' := gparts m) (by
    rw [gparts, gtail_3 h3]
    rfl)
  have gb := gbody_n (m := m) (by omega)
  have w := w.nil_ gb
  have hk : gknd m = true := by
    rw [gknd, h3]
    rfl
  rotate_left
  conv => whnf
  simp at h1 h2 h3
  have hk : gknd m = false := by
    rw [gknd, decide_eq_false]
    omega
  exact bad (by rw [gOk, hk, Bool.false_and, Bool.false_and]) w.2.2
  all_goals
    obtain ⟨xs, sp, st, w⟩ := ws_mk st w
    have hl := st.len
    have hpl := (gparts_len m).1
    refine ⟨_, Cell.mk w.1.1 rfl, ?_⟩
    conv => whnf
    refine br_mk (fun hx => ?_) (fun hx => ?_)
    · conv => whnf
      refine bad ?_ w.2.2
      have hf : fitP (gparts m) = false := by
        have := st.hsp
        rw [hx] at this
        simpa using this.symm
      rw [gOk, hf, Bool.and_false, Bool.false_and]
    conv => whnf
    have hf : fitP (gparts m) = true := by
      have := st.hsp
      rw [hx] at this
      simpa using this.symm
    refine ⟨[0, 1, 2, 3, 4, 5, 6, 7, 8, 9, 10], [0, 1, 0, 4, 12, 28, 63, 127, 127, 511, 1023], by kernel_rfl, ?_⟩
    conv => whnf
    refine ⟨_, Cell.mk kb.1 rfl, ?_⟩
    conv => whnf
    refine ⟨_, Cell.mk w.1.1 rfl, ?_⟩
    conv => whnf
    have hpl2 := gpay_len m
    have ep := st.hxs hx
    have ws := w.1.2.1.weak
    have hpe : xs ++ gbody m = gpay m := by rw [gpay, ← ep]
    refine (wrap37 ws (by rw [hpe]; unfold maxLen; omega) m.k).mono ?_
    rintro _ h4 q4
    rw [hpe] at q4
    have fq := fin hk hf w.2.2 q4
    obtain ⟨q5, rfl, o5, m5⟩ := q4
    conv => whnf
    refine ⟨_, rfl, ?_⟩
    conv => whnf
    refine ⟨_, rfl, ?_⟩
    conv => whnf
    exact fq
end Go.Proofs.Ytnpfdppmpmnhbaa
