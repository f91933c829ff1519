/- Takers: the calls, by what they hold; the words that the document fixes. -/
import Derived.Test.YtpefdmidfllhoaaQ42
set_option linter.unusedVariables false
namespace Go.Proofs.Ytpefdmidfllhoaa
open Go Go.Ab
abbrev Hd := List (Int × List Int)
def TkC (h : H) (g mi : Nat) (W N : Int) (C : Hd) : Prop := ∃ S, TkSt h g mi W N S ∧ encM Prod.snd S = C
theorem TkC.get {Z : Nat → Prop} {h h' : H} {g mi : Nat} {W N : Int} {C : Hd} (s : TkC h g mi W N C) (m : Ab.Mod Z h h') (hg : ¬ Z g) (hm : ¬ Z mi) : TkC h' g mi W N C := by
  obtain ⟨S, h1, h2⟩ := s
  exact ⟨S, h1.get m hg hm, h2⟩
theorem TkC.old {h h' : H} {g mi : Nat} {W N : Int} {C : Hd} (s : TkC h g mi W N C) (m : Ab.Mod none_ h h') : TkC h' g mi W N C := s.get m (fun k => k) (fun k => k)
theorem TkC.lt {h : H} {g mi : Nat} {W N : Int} {C : Hd} (s : TkC h g mi W N C) : g < h.next ∧ mi < h.next := by
  obtain ⟨S, h1, _⟩ := s
  exact h1.lt
/-- rows of octets -/
def Rws (h : H) (q : Option (Nat × Nat)) (L : List (List Int)) : Prop := ∃ G : List Bd, RoSl h q L.length 1 (G.flatMap slC) ∧ (∀ x ∈ G, bOk h x) ∧ G.map Prod.snd = L
theorem Rws.get {Z : Nat → Prop} {h h' : H} {q : Option (Nat × Nat)} {L : List (List Int)} (s : Rws h q L) (m : Ab.Mod Z h h') : Rws h' q L := by
  obtain ⟨G, h1, h2, h3⟩ := s
  exact ⟨G, h1.get m, fun x hx => (h2 x hx).get m, h3⟩
theorem Rws.cell {h : H} {q : Option (Nat × Nat)} {L : List (List Int)} (s : Rws h q L) {j : Nat} (hj : j < L.length) :
    ∃ i c p, q = some (i, c) ∧ Cell h i (c + j * 1) (.sl p (L[j]).length) ∧ RoSl h p (L[j]).length 1 (ints .u8 L[j]) := by
  obtain ⟨G, h1, h2, rfl⟩ := s
  have hl : j < G.length := by simpa using hj
  have e1 : (G.map Prod.snd).length = G.length := by simp
  rw [e1] at h1
  obtain ⟨i, c, f1, _, f3⟩ := sls_get slC_len h1.is rfl hl
  have := f3 0 (slV G[j]) rfl
  refine ⟨i, c, G[j].1, f1, ?_, ?_⟩
  · rw [List.getElem_map]
    exact this
  · rw [List.getElem_map]
    exact h2 _ (List.getElem_mem hl)
def mayC (W N seq : Int) (C : Hd) : Bool := decide (N ≤ seq) && decide (seq < N + W) && (sget C seq).isNone
def tkV (W N : Int) (C : Hd) (seq : Int) (body : List Int) : Bool × List (List Int) × Int × Hd := if mayC W N seq C then (true, chn N (insS C seq body)) else (false, [], N, C)
structure OkH (W N : Int) (C : Hd) : Prop where
  asc : AscS C
  key : ∀ k ∈ keys C, N < k ∧ k < N + W
theorem OkH.nil (W N : Int) : OkH W N [] := ⟨List.Pairwise.nil, fun k hk => by simp [keys] at hk⟩
theorem OkH.len {W N : Int} {C : Hd} (o : OkH W N C) (hW : 1 ≤ W) : (C.length : Int) ≤ W - 1 := by
  have := asc_short (l := keys C) (a := N + 1) (b := N + W) o.asc (fun x hx => by have := o.key x hx; omega)
  rw [keys_length] at this
  omega
theorem OkH.take {W N : Int} {C : Hd} (o : OkH W N C) (hW : 1 ≤ W) (seq : Int) (body : List Int) : OkH W (tkV W N C seq body).2.2.1 (tkV W N C seq body).2.2.2 ∧ N ≤ (tkV W N C seq body).2.2.1 ∧ (tkV W N C seq body).2.2.1 = N + (tkV W N C seq body).2.1.length ∧ ((tkV W N C seq body).2.1.length : Int) ≤ W := by
  unfold tkV
  by_cases hm : mayC W N seq C = true
  · rw [if_pos hm]
    simp only [mayC, Bool.and_eq_true, decide_eq_true_eq] at hm
    have hk : ∀ k ∈ keys (insS C seq body), N ≤ k ∧ k < N + W := insS_keys (fun k hk => by have := o.key k hk; omega) (by omega) body
    obtain ⟨h1, h2, h3⟩ := chn_keys N (insS C seq body) (insS_asc o.asc seq body) (fun k hk2 => (hk k hk2).1)
    obtain ⟨l1, l2, _⟩ := chn_len N (insS C seq body)
    have l3 := insS_len seq body C
    have l4 := o.len hW
    refine ⟨⟨h1, fun k hk2 => ⟨h2 k hk2, ?_⟩⟩, ?_, l2, ?_⟩
    · obtain ⟨x, hx, rfl⟩ := List.mem_map.1 hk2
      have := hk x.1 (List.mem_map.2 ⟨x, h3 x hx, rfl⟩)
      show x.1 < (chn N (insS C seq body)).2.1 + W
      omega
    · show N ≤ (chn N (insS C seq body)).2.1
      omega
    · show ((chn N (insS C seq body)).1.length : Int) ≤ W
      omega
  · rw [if_neg hm]
    exact ⟨o, Int.le_refl _, by simp, by simp; omega⟩
def TakeC (h : H) (g mi : Nat) (W N : Int) (C : Hd) (seq : Int) (body : List Int) (r : V) (h' : H) : Prop :=
  ∃ q, r = .tup [.sl q (tkV W N C seq body).2.1.length, .bool (tkV W N C seq body).1] ∧ Rws h' q (tkV W N C seq body).2.1 ∧ TkC h' g mi W (tkV W N C seq body).2.2.1 (tkV W N C seq body).2.2.2 ∧ Ab.Mod (two g mi) h h'
theorem take29c {h : H} {g mi : Nat} {W N : Int} {C : Hd} (s : TkC h g mi W N C) (ok : okW W = true) (o : OkH W N C) (hN0 : 0 ≤ N) (hN1 : N ≤ 1000000) {seq : Int} (hs : inI seq) {q : Option (Nat × Nat)} {m : Nat} {body : List Int} (nm : SlIs h q m false 1 (ints .u8 body)) (hm : m ≤ 100000) :
    ACalls Try.prog 29 [.ptr (some (g, 0)), i64 seq, .sl q m] h (TakeC h g mi W N C seq body) := by
  obtain ⟨S, st, hC⟩ := s
  have hW : 1 ≤ W ∧ W ≤ 16 := by simpa [okW] using ok
  have hkeq : keys C = keys S := by rw [← hC]; exact encM_keys Prod.snd S
  have hlt := st.lt
  have hlen : C.length = S.length := by rw [← hC, encM_length]
  have hl := o.len hW.1
  have hmay : mayT W N seq S = mayC W N seq C := by
    rw [mayT, mayC, ← hC, encM_get]
    cases sget S seq <;> rfl
  refine (take29 st ok (fun k hk => (o.key k (by rw [hkeq]; exact hk)).1) hN0 hN1 (by omega) hs nm hm).ro ?_
  rintro r h' (⟨e, rfl, st', m'⟩ | ⟨e, p', q', G, N', S', hch, rfl, ng, hG, st', m'⟩)
  · rw [hmay] at e
    have hv : tkV W N C seq body = (false, [], N, C) := by rw [tkV, if_neg (by rw [e]; simp)]
    have := st'.lt
    unfold TakeC
    rw [hv]
    exact ⟨h'.next, none, rfl, ⟨[], RoSl.nil _ _ _, (fun x hx => by cases hx), rfl⟩, ⟨S, st'.ro (by omega) (by omega), hC⟩, m'.ro_new m'.next⟩
  · rw [hmay] at e
    have key : chn N (insS C seq body) = (G.map Prod.snd, N', encM Prod.snd S') := by
      have e1 : insS C seq body = encM Prod.snd (insS S seq (p', body)) := by rw [← hC]; exact encM_ins Prod.snd S seq (p', body)
      rw [e1, chn_map, hch]
    have hv : tkV W N C seq body = (true, G.map Prod.snd, N', encM Prod.snd S') := by rw [tkV, if_pos e, key]
    obtain ⟨i, h1, h2, h3⟩ := ng.freeze m'
    have hgl : (G.map Prod.snd).length = G.length := by simp
    unfold TakeC
    rw [hv]
    refine ⟨i, q', ?_, ⟨G, ?_, fun x hx => (hG x hx).ro i, rfl⟩, ⟨S', st'.ro (by omega) (by omega), rfl⟩, h3⟩
    · show V.tup [.sl q' G.length, .bool true] = V.tup [.sl q' (G.map Prod.snd).length, .bool true]
      rw [hgl]
    · show RoSl _ q' (G.map Prod.snd).length 1 _
      rw [hgl]
      exact h2
theorem held34c {h : H} {g mi : Nat} {W N : Int} {C : Hd} (s : TkC h g mi W N C) (ok : okW W = true) (o : OkH W N C) (hN0 : 0 ≤ N) (hN1 : N ≤ 1000000) : ACalls Try.prog 34 [.ptr (some (g, 0))] h (HeldR h (keys C)) := by
  obtain ⟨S, st, hC⟩ := s
  have hW : 1 ≤ W ∧ W ≤ 16 := by simpa [okW] using ok
  have hkeq : keys C = keys S := by rw [← hC]; exact encM_keys Prod.snd S
  have hlen : C.length = S.length := by rw [← hC, encM_length]
  have hl := o.len hW.1
  rw [hkeq]
  exact held34 st (fun k hk => by
    have := o.key k (by rw [hkeq]; exact hk)
    exact i64_in (by omega) (by omega)) (by omega)
theorem next32c {h : H} {g mi : Nat} {W N : Int} {C : Hd} (s : TkC h g mi W N C) : ACalls Try.prog 32 [.ptr (some (g, 0))] h (fun r h' => h' = h ∧ r = i64 N) := by
  obtain ⟨S, st, _⟩ := s
  exact next32 st
theorem take29n (h : H) (seq : Int) (q : Option (Nat × Nat)) (m : Nat) : ACalls Try.prog 29 [.ptr none, i64 seq, .sl q m] h (fun r h' => h' = h ∧ r = .tup [.sl none 0, .bool false]) := by
  refine call_ Try.func29 rfl rfl (by kernel_rfl) ?_
  conv => whnf
  refine ⟨[0, 1, 2, 3, 4, 5, 6, 7, 8, 9, 10, 11, 12, 13, 14, 15, 16, 17, 18, 19, 20, 21, 22], [0, 1, 3, 7, 7, 23, 55, 119, 255, 511, 1023, 2047, 2047, 6143, 14335, 30719, 65535, 2047, 133119, 395263, 919551, 2097151, 4194303], by kernel_rfl, ?_⟩
  conv => whnf
  exact ⟨rfl, rfl⟩
theorem laid_oct (h : H) (zs : List Int) : SlIs (h.push (.row true 1 (ints .u8 zs))) (some (h.next, 0)) zs.length false 1 (ints .u8 zs) ∧ Ab.Mod none_ h (h.push (.row true 1 (ints .u8 zs))) :=
  ⟨(SlIs.row (n := zs.length) (H.obj_push_new _ _) (by rw [ints_length, Nat.mul_one])).weak, Mod.push none_ h _⟩
/-- as it is known to be -/
theorem TakeC.val {h : H} {g mi : Nat} {W N : Int} {C : Hd} {seq : Int} {body : List Int} {r : V} {h' : H} (t : TakeC h g mi W N C seq body r h') (b : Bool) (L : List (List Int)) (N' : Int) (C' : Hd) (hv : tkV W N C seq body = (b, L, N', C')) :
    ∃ q, r = .tup [.sl q L.length, .bool b] ∧ Rws h' q L ∧ TkC h' g mi W N' C' ∧ Ab.Mod (two g mi) h h' := by
  unfold TakeC at t
  rw [hv] at t
  exact t
theorem awake26 (h : H) : ACalls Try.prog 26 [] h (fun r h' => r = .bool true) := by
  refine call_ Try.func26 rfl rfl (by kernel_rfl) ?_
  conv => whnf
  refine (new27 h 3).mono ?_
  rintro _ h1 q
  obtain ⟨g, mi, rfl, s1, _, _, m1⟩ := newK_yes q rfl
  clear q
  have s1 : TkC h1 g mi 3 0 [] := ⟨[], s1, rfl⟩
  conv => whnf
  refine ⟨_, rfl, ?_⟩
  conv => whnf
  refine ⟨_, rfl, ?_⟩
  conv => whnf
  refine (new27 h1 0).mono ?_
  rintro _ h2 q
  obtain ⟨rfl, eh⟩ := newK_no q rfl
  subst eh
  clear q
  conv => whnf
  refine ⟨_, rfl, ?_⟩
  conv => whnf
  refine ⟨_, rfl, ?_⟩
  conv => whnf
  obtain ⟨l1, n1⟩ := laid_oct h2 [9]
  refine (take29c (s1.old n1) rfl (OkH.nil _ _) (by decide) (by decide) (seq := 1) (i64_in (by decide) (by decide)) l1 (by decide)).mono (fun r h3 t => ?_)
  obtain ⟨q3, rfl, r3, s3, m3⟩ := t.val true [] 0 [(1, [9])] (by decide)
  clear t
  have o3 : OkH 3 0 [(1, [9])] := ⟨by unfold AscS; decide, by decide⟩
  conv => whnf
  refine ⟨_, rfl, ?_⟩
  conv => whnf
  refine ⟨_, rfl, ?_⟩
  conv => whnf
  refine (held34c s3 rfl o3 (by decide) (by decide)).mono ?_
  rintro _ h4 ⟨q4, rfl, r4, m4⟩
  have s4 := s3.old m4
  conv => whnf
  obtain ⟨l4, n4⟩ := laid_oct h4 [9]
  refine (take29c (s4.old n4) rfl o3 (by decide) (by decide) (seq := 3) (i64_in (by decide) (by decide)) l4 (by decide)).mono (fun r h5 t => ?_)
  obtain ⟨q5, rfl, r5, s5, m5⟩ := t.val false [] 0 [(1, [9])] (by decide)
  clear t
  conv => whnf
  refine ⟨_, rfl, ?_⟩
  conv => whnf
  refine ⟨_, rfl, ?_⟩
  conv => whnf
  obtain ⟨l5, n5⟩ := laid_oct h5 [8]
  refine (take29c (s5.old n5) rfl o3 (by decide) (by decide) (seq := 0) (i64_in (by decide) (by decide)) l5 (by decide)).mono (fun r h6 t => ?_)
  obtain ⟨q6, rfl, r6, s6, m6⟩ := t.val true [[8], [9]] 2 [] (by decide)
  clear t
  conv => whnf
  refine ⟨_, rfl, ?_⟩
  conv => whnf
  refine ⟨_, rfl, ?_⟩
  conv => whnf
  obtain ⟨l6, n6⟩ := laid_oct h6 [9]
  refine (take29c (s6.old n6) rfl (OkH.nil _ _) (by decide) (by decide) (seq := 1) (i64_in (by decide) (by decide)) l6 (by decide)).mono (fun r h7 t => ?_)
  obtain ⟨q7, rfl, r7, s7, m7⟩ := t.val false [] 2 [] (by decide)
  clear t
  conv => whnf
  refine ⟨_, rfl, ?_⟩
  conv => whnf
  refine ⟨_, rfl, ?_⟩
  conv => whnf
  refine (take29n h7 0 none 0).mono ?_
  rintro _ h8 ⟨eh, rfl⟩
  subst eh
  conv => whnf
  refine ⟨_, rfl, ?_⟩
  conv => whnf
  refine ⟨_, rfl, ?_⟩
  conv => whnf
  have r4e := ((((r4.get n4).get m5).get n5).get m6)
  have r4f := (r4e.get n6).get m7
  have r6f := (r6.get n6).get m7
  obtain ⟨l9, n9⟩ := laid_row h8 [1]
  refine (ints33 (r4f.get n9).is l9 (by decide)).mono ?_
  rintro _ h9 ⟨eh, rfl⟩
  subst eh
  conv => whnf
  have r6g := r6f.get n9
  obtain ⟨i1, c1, p1, f1, f2, f3⟩ := r6g.cell (j := 0) (by decide)
  refine ⟨i1, c1, 0, f1, rfl, by decide, ?_⟩
  conv => whnf
  refine ⟨_, f2, ?_⟩
  conv => whnf
  refine ⟨_, f3.is, by decide, ?_⟩
  conv => whnf
  obtain ⟨i2, c2, p2, u1, u2, u3⟩ := r6g.cell (j := 1) (by decide)
  refine ⟨i2, c2, 1, u1, rfl, by decide, ?_⟩
  conv => whnf
  refine ⟨_, u2, ?_⟩
  conv => whnf
  refine ⟨_, u3.is, by decide, ?_⟩
  conv => whnf
  have s8 := s7.old n9
  refine (next32c s8).mono ?_
  rintro _ h10 ⟨eh, rfl⟩
  subst eh
  conv => whnf
  refine (held34c s8 rfl (OkH.nil _ _) (by decide) (by decide)).mono ?_
  rintro _ h11 ⟨q11, rfl, r11, m11⟩
  conv => whnf
  refine (next32n h11).mono ?_
  rintro _ h12 ⟨eh, rfl⟩
  subst eh
  conv => whnf
  rfl
end Go.Proofs.Ytpefdmidfllhoaa
