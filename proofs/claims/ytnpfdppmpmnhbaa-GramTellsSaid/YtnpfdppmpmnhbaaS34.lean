/- Messages: Message of the reference. -/
import Derived.Test.YtnpfdppmpmnhbaaS33
set_option linter.unusedVariables false
namespace Go.Proofs.Ytnpfdppmpmnhbaa
open Go Go.Ab
theorem Wst.cast {ps ps' : List (Nat × Int)} {xs : List Int} {sp : Bool} (w : Wst ps xs sp) (e : ps' = ps) : Wst ps' xs sp := e ▸ w
def RefQ (m : Msg) (h : H) (r : V) (h' : H) : Prop := ∃ q, r = .tup [.sl q (encB m).length, .bool (encOk m)] ∧ Oct h' q (encB m).length (encB m) ∧ Ab.Mod none_ h h'
def RefQ' (m : Msg) (h : H) (r : V) (h' : H) : Prop := ∃ q, r = .tup [.sl q (encB m).length, .bool (encOk m)] ∧ NewSl h h' q (encB m).length 1 (ints .u8 (encB m)) ∧ Ab.Mod none_ h h'
theorem refQ_none {m : Msg} {h h' : H} (he : encOk m = false) (k : Ab.Mod none_ h h') : RefQ' m h (.tup [.sl none 0, .bool false]) h' := by
  have hB : encB m = [] := by rw [encB, he]; rfl
  unfold RefQ'
  rw [he, hB]
  exact ⟨none, rfl, NewSl.nil _ _ _, k⟩
theorem refQ_some {m : Msg} {h h0 h' : H} {g : Nat} {p : Option (Nat × Nat)} {xs : List Int} {sp : Bool} (m0 : Ab.Mod none_ h h0) (he : encOk m = true) (hx : xs = encB m) (w : NewW h0 h' g p xs sp) : RefQ' m h (.tup [.sl p xs.length, .bool true]) h' := by
  subst hx
  refine ⟨p, by rw [he], ⟨w.1.2.1, fun i o e => ?_⟩, mod_none m0 w.2.2⟩
  have := w.2.1 i (.inr ⟨o, e⟩)
  have := m0.next
  omega
theorem unfit_e {m : Msg} (hk : m.k = 7) (h1 : -9223372036854775808 ≤ m.e) (h2 : m.e ≤ 9223372036854775807) (h : m.e < -1 ∨ 65534 < m.e) : encOk m = false := by
  have e : decide (0 ≤ IntKind.i64.wrap (m.e + 1) ∧ IntKind.i64.wrap (m.e + 1) < 2 ^ (8 * 2)) = false := by
    rw [decide_eq_false_iff_not]
    by_cases hm : m.e = 9223372036854775807
    · rw [hm]
      decide
    · rw [wrap_i64 (by omega) (by omega)]
      have : (2 : Int) ^ (8 * 2) = 65536 := rfl
      omega
  rw [encOk, parts, tailP_7 hk]
  simp only [fitP, List.all_cons, e, Bool.false_and, Bool.and_false]
theorem ref42 {h : H} (m : Msg) (ok : m.ok h) : ACalls Try.prog 42 [.agg m.cells] h (RefQ m h) := by
  refine ACalls.ro (Q := RefQ' m h) ?_ ?_
  rotate_left
  · rintro r h' ⟨q, rfl, n1, mm⟩
    obtain ⟨i, _, k1, k2⟩ := n1.freeze mm
    exact ⟨i, q, rfl, k1, k2⟩
  refine call_ Try.func42 rfl rfl (by kernel_rfl) ?_
  conv => whnf
  have mb := Mod.push none_ h (.row true 9 m.cells)
  have ok1 : m.ok (h.push (.row true 9 m.cells)) := ok.old mb (fun _ _ k => k)
  have w := NewW.new (h.push (.row true 9 m.cells))
  have kb : Kp _ (h.push (.row true 9 m.cells)).next none h.next (.row true 9 m.cells) := ⟨w.2.2.get (H.obj_push_new _ _) (.inl (fun k => k)), by
    rintro (k | ⟨_, k⟩)
    · exact absurd k (Nat.ne_of_lt (Nat.lt_succ_self _))
    · cases k⟩
  have none_ : ∀ {h' : H}, encOk m = false → Ab.Mod none_ (h.push (.row true 9 m.cells)) h' → RefQ' m h (.tup [.sl none 0, .bool false]) h' := fun he k => refQ_none he (mod_none mb k)
  have some_ : ∀ {h' : H} {g : Nat} {p : Option (Nat × Nat)} {xs : List Int} {sp : Bool}, encOk m = true → xs = encB m → NewW (h.push (.row true 9 m.cells)) h' g p xs sp → RefQ' m h (.tup [.sl p xs.length, .bool true]) h' := fun he hx w => refQ_some mb he hx w
  have st := Wst.nil
  generalize hbx : h.next = bx at *
  refine ⟨_, Cell.mk kb.1 rfl, ?_⟩
  conv => whnf
  refine (num21 w.1 (by
    refine Nat.le_trans st.len ?_
    simp) ((1 : Nat) : Int) m.k).mono ?_
  rintro _ _ ⟨rfl, q, wq, fq, mq⟩
  have kb := kb.step fq mq
  have w := w.step' wq fq mq
  have st := st.ref (k := 1) (by decide) (by decide) m.k
  conv => whnf
  refine ⟨_, Cell.mk kb.1 rfl, ?_⟩
  conv => whnf
  refine br_mk (fun h1 => ?_) (fun h1 => ?_)
  · conv => whnf
    simp at h1
    refine ⟨_, Cell.mk kb.1 rfl, ?_⟩
    conv => whnf
    refine (num21 w.1 (by
      refine Nat.le_trans st.len ?_
      simp) ((2 : Nat) : Int) m.p).mono ?_
    rintro _ _ ⟨rfl, q, wq, fq, mq⟩
    have kb := kb.step fq mq
    have w := w.step' wq fq mq
    have st := st.ref (k := 2) (by decide) (by decide) m.p
    conv => whnf
    refine ⟨_, Cell.mk kb.1 rfl, ?_⟩
    conv => whnf
    refine (num21 w.1 (by
      refine Nat.le_trans st.len ?_
      simp) ((2 : Nat) : Int) m.d).mono ?_
    rintro _ _ ⟨rfl, q, wq, fq, mq⟩
    have kb := kb.step fq mq
    have w := w.step' wq fq mq
    have st := st.ref (k := 2) (by decide) (by decide) m.d
    conv => whnf
    have st := st.cast (ps' := parts m) (by
      rw [parts, tailP_1 h1]
      rfl)
    have hk : knd m = true := knd_ne (by omega) (by omega) (by omega)
    refine ⟨_, Cell.mk w.1.1 rfl, ?_⟩
    conv => whnf
    refine br_mk (fun hz => ?_) (fun hz => ?_)
    · conv => whnf
      have he : encOk m = false := by
        have := st.hsp
        rw [hz] at this
        rw [encOk, hk, Bool.true_and]
        simpa using this.symm
      exact none_ he w.2.2
    conv => whnf
    refine ⟨_, Cell.mk w.1.1 rfl, ?_⟩
    conv => whnf
    have hd := st.done
    rw [hz] at hd
    have he : encOk m = true := by
      have := st.hsp
      rw [hz] at this
      rw [encOk, hk, Bool.true_and]
      simpa using this.symm
    have hf : fitP (parts m) = true := by
      rw [encOk, hk, Bool.true_and] at he
      exact he
    rw [hf] at hd
    have hB : encB m = bytesP (parts m) := by rw [encB, he]; rfl
    have hx := hd.trans hB.symm
    exact some_ he hx w
  conv => whnf
  refine br_mk (fun h2 => ?_) (fun h2 => ?_)
  · conv => whnf
    simp at h2
    refine br_mk (fun _ => ?_) (fun hz => ?_)
    rotate_left
    · simp [h2] at hz
    conv => whnf
    refine ⟨_, Cell.mk kb.1 rfl, ?_⟩
    conv => whnf
    refine (num21 w.1 (by
      refine Nat.le_trans st.len ?_
      simp) ((2 : Nat) : Int) m.p).mono ?_
    rintro _ _ ⟨rfl, q, wq, fq, mq⟩
    have kb := kb.step fq mq
    have w := w.step' wq fq mq
    have st := st.ref (k := 2) (by decide) (by decide) m.p
    conv => whnf
    have st := st.cast (ps' := parts m) (by
      rw [parts, tailP_2 (.inl h2)]
      rfl)
    have hk : knd m = true := knd_ne (by omega) (by omega) (by omega)
    refine ⟨_, Cell.mk w.1.1 rfl, ?_⟩
    conv => whnf
    refine br_mk (fun hz => ?_) (fun hz => ?_)
    · conv => whnf
      have he : encOk m = false := by
        have := st.hsp
        rw [hz] at this
        rw [encOk, hk, Bool.true_and]
        simpa using this.symm
      exact none_ he w.2.2
    conv => whnf
    refine ⟨_, Cell.mk w.1.1 rfl, ?_⟩
    conv => whnf
    have hd := st.done
    rw [hz] at hd
    have he : encOk m = true := by
      have := st.hsp
      rw [hz] at this
      rw [encOk, hk, Bool.true_and]
      simpa using this.symm
    have hf : fitP (parts m) = true := by
      rw [encOk, hk, Bool.true_and] at he
      exact he
    rw [hf] at hd
    have hB : encB m = bytesP (parts m) := by rw [encB, he]; rfl
    have hx := hd.trans hB.symm
    exact some_ he hx w
  conv => whnf
  refine br_mk (fun h9 => ?_) (fun h9 => ?_)
  · conv => whnf
    simp at h9
    refine ⟨_, Cell.mk kb.1 rfl, ?_⟩
    conv => whnf
    refine (num21 w.1 (by
      refine Nat.le_trans st.len ?_
      simp) ((2 : Nat) : Int) m.p).mono ?_
    rintro _ _ ⟨rfl, q, wq, fq, mq⟩
    have kb := kb.step fq mq
    have w := w.step' wq fq mq
    have st := st.ref (k := 2) (by decide) (by decide) m.p
    conv => whnf
    have st := st.cast (ps' := parts m) (by
      rw [parts, tailP_2 (.inr h9)]
      rfl)
    have hk : knd m = true := knd_ne (by omega) (by omega) (by omega)
    refine ⟨_, Cell.mk w.1.1 rfl, ?_⟩
    conv => whnf
    refine br_mk (fun hz => ?_) (fun hz => ?_)
    · conv => whnf
      have he : encOk m = false := by
        have := st.hsp
        rw [hz] at this
        rw [encOk, hk, Bool.true_and]
        simpa using this.symm
      exact none_ he w.2.2
    conv => whnf
    refine ⟨_, Cell.mk w.1.1 rfl, ?_⟩
    conv => whnf
    have hd := st.done
    rw [hz] at hd
    have he : encOk m = true := by
      have := st.hsp
      rw [hz] at this
      rw [encOk, hk, Bool.true_and]
      simpa using this.symm
    have hf : fitP (parts m) = true := by
      rw [encOk, hk, Bool.true_and] at he
      exact he
    rw [hf] at hd
    have hB : encB m = bytesP (parts m) := by rw [encB, he]; rfl
    have hx := hd.trans hB.symm
    exact some_ he hx w
  conv => whnf
  refine br_mk (fun h5 => ?_) (fun h5 => ?_)
  · conv => whnf
    simp at h5
    refine ⟨_, Cell.mk kb.1 rfl, ?_⟩
    conv => whnf
    refine br_mk (fun hl => ?_) (fun hl => ?_)
    · conv => whnf
      simp at hl
      have hk : knd m = false := by
        rw [knd_5 h5, decide_eq_false]
        omega
      exact none_ (by rw [encOk, hk, Bool.false_and]) w.2.2
    conv => whnf
    simp at hl
    refine ⟨_, Cell.mk kb.1 rfl, ?_⟩
    conv => whnf
    refine (num21 w.1 (by
      refine Nat.le_trans st.len ?_
      simp) ((5 : Nat) : Int) m.w).mono ?_
    rintro _ _ ⟨rfl, q, wq, fq, mq⟩
    have kb := kb.step fq mq
    have w := w.step' wq fq mq
    have st := st.ref (k := 5) (by decide) (by decide) m.w
    conv => whnf
    refine ⟨_, Cell.mk kb.1 rfl, ?_⟩
    conv => whnf
    refine (num21 w.1 (by
      refine Nat.le_trans st.len ?_
      simp) ((2 : Nat) : Int) (m.es.length : Int)).mono ?_
    rintro _ _ ⟨rfl, q, wq, fq, mq⟩
    have kb := kb.step fq mq
    have w := w.step' wq fq mq
    have st := st.ref (k := 2) (by decide) (by decide) (m.es.length : Int)
    conv => whnf
    have ho := ok.2.2.2
    refine ⟨fun env hh => ∃ (j : Nat) (z : Int) (q : Option (Nat × Nat)) (xs : List Int) (sp : Bool), j ≤ m.es.length ∧ z = j ∧ NewW (h.push (.row true 9 m.cells)) hh (h.push (.row true 9 m.cells)).next q xs sp ∧ Kp hh (h.push (.row true 9 m.cells)).next q bx (.row true 9 m.cells) ∧ Wst ([(1, m.k), (5, m.w), (2, (m.es.length : Int))] ++ (m.es.take j).map fun v => (2, v)) xs sp ∧ env = [(5, i64 z), (4, .ptr (some ((h.push (.row true 9 m.cells)).next, 0))), (1, .ptr (some (bx, 0)))],
      fun env _ => match get env 5 with
        | .int _ z => (m.es.length - z).toNat
        | _ => 0, ⟨_, Forget.cons rfl (Forget.cons rfl (Forget.cons rfl (Forget.nil _))), 0, _, _, _, _, Nat.zero_le _, rfl, w, kb, st, rfl⟩, ?_⟩
    clear w kb st
    rintro _ h3 ⟨j, z, p, xs, sp, hj, rfl, w, kb, st, rfl⟩
    conv => whnf
    refine ⟨_, Cell.mk kb.1 rfl, ?_⟩
    conv => whnf
    refine br_mk (fun hc => ?_) (fun hc => ?_)
    rotate_left
    · conv => whnf
      simp at hc
      obtain rfl : j = m.es.length := by omega
      rw [List.take_length] at st
      have st := st.cast (ps' := parts m) (by
        rw [parts, tailP_5 h5]
        rfl)
      have hk : knd m = true := by rw [knd_5 h5, decide_eq_true]; omega
      refine ⟨_, Cell.mk w.1.1 rfl, ?_⟩
      conv => whnf
      refine br_mk (fun hz => ?_) (fun hz => ?_)
      · conv => whnf
        have he : encOk m = false := by
          have := st.hsp
          rw [hz] at this
          rw [encOk, hk, Bool.true_and]
          simpa using this.symm
        exact none_ he w.2.2
      conv => whnf
      refine ⟨_, Cell.mk w.1.1 rfl, ?_⟩
      conv => whnf
      have hd := st.done
      rw [hz] at hd
      have he : encOk m = true := by
        have := st.hsp
        rw [hz] at this
        rw [encOk, hk, Bool.true_and]
        simpa using this.symm
      have hf : fitP (parts m) = true := by
        rw [encOk, hk, Bool.true_and] at he
        exact he
      rw [hf] at hd
      have hB : encB m = bytesP (parts m) := by rw [encB, he]; rfl
      have hx := hd.trans hB.symm
      exact some_ he hx w
    conv => whnf
    simp at hc
    refine ⟨_, Cell.mk kb.1 rfl, ?_⟩
    conv => whnf
    have ok3 := SlIs.old ok1.1 w.2.2 (fun _ _ k => k)
    obtain ⟨i, c, e, k1⟩ := slo_get ok3 hc
    rw [e]
    refine ⟨_, _, j, rfl, rfl, hc, ?_⟩
    conv => whnf
    refine ⟨_, k1, ?_⟩
    conv => whnf
    refine (num21 w.1 (by
      refine Nat.le_trans st.len ?_
      simp
      omega) ((2 : Nat) : Int) (m.es.getD j 0)).mono ?_
    rintro _ _ ⟨rfl, q, wq, fq, mq⟩
    have kb := kb.step fq mq
    have w := w.step' wq fq mq
    have st := st.ref (k := 2) (by decide) (by decide) (m.es.getD j 0)
    conv => whnf
    have hs2 := succ_i64 (j := j) (n := m.es.length) hc (by omega)
    refine ⟨_, Forget.cons rfl (Forget.cons rfl (Forget.cons rfl (Forget.nil _))), ⟨j + 1, _, _, _, _, by omega, hs2, w, kb, ?_, rfl⟩, ?_⟩
    · rw [List.append_assoc] at st
      rw [List.take_add_one, get_getD hc, List.map_append]
      exact st
    · show (m.es.length - IntKind.i64.wrap ((j : Int) + 1)).toNat < (m.es.length - (j : Int)).toNat
      rw [hs2]
      omega
  conv => whnf
  refine br_mk (fun h7 => ?_) (fun h7 => ?_)
  · conv => whnf
    simp at h7
    refine ⟨_, Cell.mk kb.1 rfl, ?_⟩
    conv => whnf
    refine (num21 w.1 (by
      refine Nat.le_trans st.len ?_
      simp) ((1 : Nat) : Int) m.c).mono ?_
    rintro _ _ ⟨rfl, q, wq, fq, mq⟩
    have kb := kb.step fq mq
    have w := w.step' wq fq mq
    have st := st.ref (k := 1) (by decide) (by decide) m.c
    conv => whnf
    refine ⟨_, Cell.mk kb.1 rfl, ?_⟩
    conv => whnf
    refine br_mk (fun ha => ?_) (fun ha => ?_)
    · conv => whnf
      simp at ha
      exact none_ (unfit_e h7 ok.2.1 ok.2.2.1 (.inl ha)) w.2.2
    conv => whnf
    refine ⟨_, Cell.mk kb.1 rfl, ?_⟩
    conv => whnf
    refine br_mk (fun hb => ?_) (fun hb => ?_)
    · conv => whnf
      simp at hb
      exact none_ (unfit_e h7 ok.2.1 ok.2.2.1 (.inr hb)) w.2.2
    conv => whnf
    refine ⟨_, Cell.mk kb.1 rfl, ?_⟩
    conv => whnf
    refine (num21 w.1 (by
      refine Nat.le_trans st.len ?_
      simp) ((2 : Nat) : Int) (IntKind.i64.wrap (m.e + 1))).mono ?_
    rintro _ _ ⟨rfl, q, wq, fq, mq⟩
    have kb := kb.step fq mq
    have w := w.step' wq fq mq
    have st := st.ref (k := 2) (by decide) (by decide) (IntKind.i64.wrap (m.e + 1))
    conv => whnf
    refine ⟨_, Cell.mk kb.1 rfl, ?_⟩
    conv => whnf
    refine (num21 w.1 (by
      refine Nat.le_trans st.len ?_
      simp) ((5 : Nat) : Int) m.f).mono ?_
    rintro _ _ ⟨rfl, q, wq, fq, mq⟩
    have kb := kb.step fq mq
    have w := w.step' wq fq mq
    have st := st.ref (k := 5) (by decide) (by decide) m.f
    conv => whnf
    refine ⟨_, Cell.mk kb.1 rfl, ?_⟩
    conv => whnf
    refine (num21 w.1 (by
      refine Nat.le_trans st.len ?_
      simp) ((5 : Nat) : Int) m.l).mono ?_
    rintro _ _ ⟨rfl, q, wq, fq, mq⟩
    have kb := kb.step fq mq
    have w := w.step' wq fq mq
    have st := st.ref (k := 5) (by decide) (by decide) m.l
    conv => whnf
    have st := st.cast (ps' := parts m) (by
      rw [parts, tailP_7 h7]
      rfl)
    have hk : knd m = true := knd_ne (by omega) (by omega) (by omega)
    refine ⟨_, Cell.mk w.1.1 rfl, ?_⟩
    conv => whnf
    refine br_mk (fun hz => ?_) (fun hz => ?_)
    · conv => whnf
      have he : encOk m = false := by
        have := st.hsp
        rw [hz] at this
        rw [encOk, hk, Bool.true_and]
        simpa using this.symm
      exact none_ he w.2.2
    conv => whnf
    refine ⟨_, Cell.mk w.1.1 rfl, ?_⟩
    conv => whnf
    have hd := st.done
    rw [hz] at hd
    have he : encOk m = true := by
      have := st.hsp
      rw [hz] at this
      rw [encOk, hk, Bool.true_and]
      simpa using this.symm
    have hf : fitP (parts m) = true := by
      rw [encOk, hk, Bool.true_and] at he
      exact he
    rw [hf] at hd
    have hB : encB m = bytesP (parts m) := by rw [encB, he]; rfl
    have hx := hd.trans hB.symm
    exact some_ he hx w
  conv => whnf
  simp at h1 h2 h9 h5 h7
  have tp := tailP_0 h1 h2 h9 h5 h7
  refine br_mk (fun h3 => ?_) (fun h3 => ?_)
  · conv => whnf
    simp at h3
    refine br_mk (fun _ => ?_) (fun hz => ?_)
    rotate_left
    · simp [h3] at hz
    conv => whnf
    have st := st.cast (ps' := parts m) (by
      rw [parts, tp]
      rfl)
    have hk : knd m = true := knd_ne (by omega) (by omega) (by omega)
    refine ⟨_, Cell.mk w.1.1 rfl, ?_⟩
    conv => whnf
    refine br_mk (fun hz => ?_) (fun hz => ?_)
    · conv => whnf
      have he : encOk m = false := by
        have := st.hsp
        rw [hz] at this
        rw [encOk, hk, Bool.true_and]
        simpa using this.symm
      exact none_ he w.2.2
    conv => whnf
    refine ⟨_, Cell.mk w.1.1 rfl, ?_⟩
    conv => whnf
    have hd := st.done
    rw [hz] at hd
    have he : encOk m = true := by
      have := st.hsp
      rw [hz] at this
      rw [encOk, hk, Bool.true_and]
      simpa using this.symm
    have hf : fitP (parts m) = true := by
      rw [encOk, hk, Bool.true_and] at he
      exact he
    rw [hf] at hd
    have hB : encB m = bytesP (parts m) := by rw [encB, he]; rfl
    have hx := hd.trans hB.symm
    exact some_ he hx w
  conv => whnf
  refine br_mk (fun h4 => ?_) (fun h4 => ?_)
  · conv => whnf
    simp at h4
    refine br_mk (fun _ => ?_) (fun hz => ?_)
    rotate_left
    · simp [h4] at hz
    conv => whnf
    have st := st.cast (ps' := parts m) (by
      rw [parts, tp]
      rfl)
    have hk : knd m = true := knd_ne (by omega) (by omega) (by omega)
    refine ⟨_, Cell.mk w.1.1 rfl, ?_⟩
    conv => whnf
    refine br_mk (fun hz => ?_) (fun hz => ?_)
    · conv => whnf
      have he : encOk m = false := by
        have := st.hsp
        rw [hz] at this
        rw [encOk, hk, Bool.true_and]
        simpa using this.symm
      exact none_ he w.2.2
    conv => whnf
    refine ⟨_, Cell.mk w.1.1 rfl, ?_⟩
    conv => whnf
    have hd := st.done
    rw [hz] at hd
    have he : encOk m = true := by
      have := st.hsp
      rw [hz] at this
      rw [encOk, hk, Bool.true_and]
      simpa using this.symm
    have hf : fitP (parts m) = true := by
      rw [encOk, hk, Bool.true_and] at he
      exact he
    rw [hf] at hd
    have hB : encB m = bytesP (parts m) := by rw [encB, he]; rfl
    have hx := hd.trans hB.symm
    exact some_ he hx w
  conv => whnf
  refine br_mk (fun h6 => ?_) (fun h6 => ?_)
  · conv => whnf
    simp at h6
    refine br_mk (fun _ => ?_) (fun hz => ?_)
    rotate_left
    · simp [h6] at hz
    conv => whnf
    have st := st.cast (ps' := parts m) (by
      rw [parts, tp]
      rfl)
    have hk : knd m = true := knd_ne (by omega) (by omega) (by omega)
    refine ⟨_, Cell.mk w.1.1 rfl, ?_⟩
    conv => whnf
    refine br_mk (fun hz => ?_) (fun hz => ?_)
    · conv => whnf
      have he : encOk m = false := by
        have := st.hsp
        rw [hz] at this
        rw [encOk, hk, Bool.true_and]
        simpa using this.symm
      exact none_ he w.2.2
    conv => whnf
    refine ⟨_, Cell.mk w.1.1 rfl, ?_⟩
    conv => whnf
    have hd := st.done
    rw [hz] at hd
    have he : encOk m = true := by
      have := st.hsp
      rw [hz] at this
      rw [encOk, hk, Bool.true_and]
      simpa using this.symm
    have hf : fitP (parts m) = true := by
      rw [encOk, hk, Bool.true_and] at he
      exact he
    rw [hf] at hd
    have hB : encB m = bytesP (parts m) := by rw [encB, he]; rfl
    have hx := hd.trans hB.symm
    exact some_ he hx w
  conv => whnf
  refine br_mk (fun h8 => ?_) (fun h8 => ?_)
  · conv => whnf
    simp at h8
    have st := st.cast (ps' := parts m) (by
      rw [parts, tp]
      rfl)
    have hk : knd m = true := knd_ne (by omega) (by omega) (by omega)
    refine ⟨_, Cell.mk w.1.1 rfl, ?_⟩
    conv => whnf
    refine br_mk (fun hz => ?_) (fun hz => ?_)
    · conv => whnf
      have he : encOk m = false := by
        have := st.hsp
        rw [hz] at this
        rw [encOk, hk, Bool.true_and]
        simpa using this.symm
      exact none_ he w.2.2
    conv => whnf
    refine ⟨_, Cell.mk w.1.1 rfl, ?_⟩
    conv => whnf
    have hd := st.done
    rw [hz] at hd
    have he : encOk m = true := by
      have := st.hsp
      rw [hz] at this
      rw [encOk, hk, Bool.true_and]
      simpa using this.symm
    have hf : fitP (parts m) = true := by
      rw [encOk, hk, Bool.true_and] at he
      exact he
    rw [hf] at hd
    have hB : encB m = bytesP (parts m) := by rw [encB, he]; rfl
    have hx := hd.trans hB.symm
    exact some_ he hx w
  conv => whnf
  simp at h3 h4 h6 h8
  exact none_ (by rw [encOk, knd_no (m := m) (by omega), Bool.false_and]) w.2.2
end Go.Proofs.Ytnpfdppmpmnhbaa
