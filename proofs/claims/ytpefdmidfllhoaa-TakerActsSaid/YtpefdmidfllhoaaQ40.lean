/- General words for walks, II: new rows, sorted lists, maps; small functions of the seat. -/
import Derived.Test.YtpefdmidfllhoaaQ3
import Derived.Test.YtpefdmidfllhoaaQ20
set_option linter.unusedVariables false
set_option linter.unusedSimpArgs false
namespace Go.Proofs.Ytpefdmidfllhoaa
open Go Go.Ab
/-- new rows -/
theorem NewSl.app {h0 h1 h2 : H} {p p' : Option (Nat × Nat)} {n m sz : Nat} {xs ys : List V} (w : NewSl h0 h1 p n sz xs) (hs : SlIs h2 p' (n + m) true sz (xs ++ ys)) (hf : isFresh h1 p p') (hn : h0.next ≤ h1.next) : NewSl h0 h2 p' (n + m) sz (xs ++ ys) :=
  ⟨hs, fun i o e => by
    rcases hf i o e with k | k
    · exact w.2 i o (by rw [← k, e])
    · exact Nat.le_trans hn k⟩
theorem NewSl.mod {S : Nat → Prop} {h0 h1 h2 : H} {p : Option (Nat × Nat)} {n sz : Nat} {xs : List V} (w : NewSl h0 h1 p n sz xs) (m0 : Ab.Mod S h0 h1) (hm : Ab.Mod (inSl p) h1 h2) : Ab.Mod S h0 h2 :=
  m0.trans' hm (fun _ _ k => k) (fun i hi k => by
    obtain ⟨o, k⟩ := k
    have := w.2 i o k
    omega)
theorem NewSl.keep {h0 h h' : H} {S : Nat → Prop} {p : Option (Nat × Nat)} {n sz : Nat} {xs : List V} (w : NewSl h0 h p n sz xs) (m : Ab.Mod S h h') (hS : ∀ i, S i → i < h0.next) : NewSl h0 h' p n sz xs :=
  ⟨w.1.get m (fun i o e => .inl (fun k => by
    have := hS i k
    have := w.2 i o e
    omega)), w.2⟩
theorem NewSl.kept {h0 h h' : H} {p : Option (Nat × Nat)} {n sz : Nat} {xs : List V} (w : NewSl h0 h p n sz xs) (m : Ab.Mod none_ h h') : NewSl h0 h' p n sz xs :=
  ⟨SlIs.old w.1 m (fun _ _ k => k), w.2⟩
theorem mu_lt {m j : Nat} (hd : j < m) (hm : m ≤ 1000000) : ((m : Int) - IntKind.i64.wrap ((j : Int) + 1)).toNat < ((m : Int) - (j : Int)).toNat := by
  rw [succ_i64 hd (by omega)]
  omega
def inR (x lo hi : Int) : Bool := decide (lo ≤ x) && decide (x ≤ hi)
theorem filter_snoc {α : Type} (P : α → Bool) (l : List α) (a : α) : (l ++ [a]).filter P = l.filter P ++ (if P a then [a] else []) := by
  rw [List.filter_append]
  congr 1
  by_cases h : P a <;> simp [h]
theorem take_snoc_ {l : List Int} {j : Nat} (h : j < l.length) : l.take (j + 1) = l.take j ++ [l.getD j 0] := by
  rw [List.take_succ_eq_append_getElem h, List.getD_eq_getElem?_getD, List.getElem?_eq_getElem h]
  rfl
theorem getD_in {l : List Int} {j : Nat} (h : j < l.length) : l.getD j 0 ∈ l := by
  rw [List.getD_eq_getElem?_getD, List.getElem?_eq_getElem h]
  exact List.getElem_mem h
theorem getElem_in {α : Type} {l : List α} {j : Nat} (h : j < l.length) : l[j] ∈ l := List.getElem_mem h
theorem app1 {S : Nat → Prop} {h0 hh : H} {po : Option (Nat × Nat)} {n sz : Nat} {xs : List V} (no : NewSl h0 hh po n sz xs) (mo : Ab.Mod S h0 hh) (c : List V) (hc : c.length = sz) :
    SlIs (hh.push (.row true sz c)) po n true sz xs ∧ SlIs (hh.push (.row true sz c)) (some (hh.next, 0)) 1 false sz c ∧
    ∀ p' h', SlIs h' p' (n + 1) true sz (xs ++ c) → Ab.Mod (inSl po) (hh.push (.row true sz c)) h' → isFresh (hh.push (.row true sz c)) po p' → NewSl h0 h' p' (n + 1) sz (xs ++ c) ∧ Ab.Mod S h0 h' ∧ Ab.Mod (inSl po) hh h' := by
  have mP := Mod.push none_ hh (.row true sz c)
  have nP := NewSl.kept no mP
  refine ⟨nP.1, (SlIs.row (n := 1) (H.obj_push_new _ _) (by rw [hc, Nat.one_mul])).weak, fun p' h' hs hm hf => ⟨NewSl.app nP hs hf (Nat.le_trans mo.next mP.next), NewSl.mod nP (mo.trans' mP (fun _ _ k => k) (fun _ _ k => k.elim)) hm, mP.trans' hm (fun _ _ k => k.elim) (fun _ _ k => k)⟩⟩
theorem ints33 {h : H} {p q : Option (Nat × Nat)} {n m : Nat} {a b : List Int} (sa : SlIs h p n false 1 (ints .i64 a)) (sb : SlIs h q m false 1 (ints .i64 b)) (hn : n ≤ 1000000) :
    ACalls Try.prog 33 [.sl p n, .sl q m] h (fun r h' => h' = h ∧ r = .bool (decide (a = b))) := by
  have la := slo_len sa
  have lb := slo_len sb
  refine call_ Try.func33 rfl rfl (by kernel_rfl) ?_
  conv => whnf
  refine br_mk (fun hd => ?_) (fun hd => ?_)
  · conv => whnf
    have hd : ¬ n = m := by
      intro e
      subst e
      simp at hd
    exact ⟨rfl, by rw [decide_eq_false (by rintro rfl; omega)]⟩
  conv => whnf
  have hnm : n = m := by
    have : (n : Int) = m := by simpa using hd
    omega
  clear hd
  refine ⟨fun env hh => ∃ (j : Nat) (z : Int), j ≤ n ∧ z = j ∧ hh = h ∧ (∀ k, k < j → a.getD k 0 = b.getD k 0) ∧ env = [(5, i64 z), (0, .sl p n), (1, .sl q m)],
    fun env _ => match get env 5 with
      | .int _ z => (n - z).toNat
      | _ => 0, ⟨_, Forget.cons rfl (Forget.cons rfl (Forget.cons rfl (Forget.nil _))), 0, _, Nat.zero_le _, rfl, rfl, fun k hk => absurd hk (Nat.not_lt_zero k), rfl⟩, ?_⟩
  rintro _ hh ⟨j, z, hj, rfl, eh, hall, rfl⟩
  subst eh
  conv => whnf
  refine br_mk (fun hd => ?_) (fun hd => ?_)
  · conv => whnf
    have hd : j < n := by simpa using hd
    refine ⟨[0, 1, 2, 3, 4, 5, 6, 7, 8], [0, 0, 3, 7, 0, 0, 48, 112, 255], by kernel_rfl, ?_⟩
    conv => whnf
    obtain ⟨i1, c1, f1, f2⟩ := slo_get sa hd
    refine ⟨i1, c1, j, f1, rfl, hd, ?_⟩
    conv => whnf
    refine ⟨_, f2, ?_⟩
    conv => whnf
    have hdm : j < m := by omega
    obtain ⟨i2, c2, k1, k2⟩ := slo_get sb hdm
    refine ⟨i2, c2, j, k1, rfl, hdm, ?_⟩
    conv => whnf
    refine ⟨_, k2, ?_⟩
    conv => whnf
    refine br_mk (fun he => ?_) (fun he => ?_)
    · conv => whnf
      refine ⟨rfl, by rw [decide_eq_false]; rintro rfl; simp at he⟩
    · conv => whnf
      have he : a.getD j 0 = b.getD j 0 := by
        by_cases e : a.getD j 0 = b.getD j 0
        · exact e
        · exact absurd he (by rw [bne_iff_ne.2 e]; simp)
      refine ⟨_, Forget.cons rfl (Forget.cons rfl (Forget.cons rfl (Forget.nil _))), ⟨j + 1, _, hd, succ_i64 hd (by omega), rfl, fun k hk => ?_, rfl⟩, mu_lt hd hn⟩
      by_cases e : k = j
      · subst e; exact he
      · exact hall k (by omega)
  · conv => whnf
    have hd : ¬ j < n := by simpa using hd
    exact ⟨rfl, by rw [decide_eq_true (list_ext0 (by omega) (fun k hk => hall k (by omega)))]⟩
theorem round19 {m : Int} (hm : 0 < m) (hm2 : m ≤ 72057594037927936) (x : Int) (h : H) : ACalls Try.prog 19 [i64 x, i64 m] h (fun r h' => h' = h ∧ r = i64 (x % m)) := by
  have hr := tmod_round (x := x) hm
  refine call_ Try.func19 rfl rfl (by kernel_rfl) ?_
  conv => whnf
  refine ⟨by omega, ?_⟩
  conv => whnf
  refine br_mk (fun ha => ?_) (fun ha => ?_)
  · conv => whnf
    have ha : x.tmod m < 0 := by simpa using ha
    rw [if_pos ha] at hr
    have h1 := Int.emod_nonneg x (show m ≠ 0 by omega)
    have h2 := Int.emod_lt_of_pos x hm
    exact ⟨rfl, by rw [wrap_i64 (by omega) (by omega), hr]⟩
  · conv => whnf
    have ha : ¬ x.tmod m < 0 := by simpa using ha
    rw [if_neg ha] at hr
    exact ⟨rfl, by rw [hr]⟩
/-- a row that is laid, of numbers -/
theorem laid_row (h : H) (zs : List Int) : SlIs (h.push (.row true 1 (ints .i64 zs))) (some (h.next, 0)) zs.length false 1 (ints .i64 zs) ∧ Ab.Mod none_ h (h.push (.row true 1 (ints .i64 zs))) :=
  ⟨(SlIs.row (n := zs.length) (H.obj_push_new _ _) (by rw [ints_length, Nat.mul_one])).weak, Mod.push none_ h _⟩
/-- a row that is none yet, and one that is appended to it -/
theorem app0 {h0 hh : H} {po : Option (Nat × Nat)} {n sz : Nat} {ys : List V} (no : SlIs hh po n false sz ys) :
    SlIs (hh.push (.row true sz [])) (some (hh.next, 0)) 0 true sz [] ∧ SlIs (hh.push (.row true sz [])) po n false sz ys ∧
    ∀ p' h', SlIs h' p' (0 + n) true sz ([] ++ ys) → Ab.Mod (inSl (some (hh.next, 0))) (hh.push (.row true sz [])) h' → isFresh (hh.push (.row true sz [])) (some (hh.next, 0)) p' → NewSl hh h' p' n sz ys ∧ Ab.Mod none_ hh h' := by
  have mP := Mod.push none_ hh (.row true sz [])
  refine ⟨⟨by simp, .inr ⟨_, 0, true, [], rfl, H.obj_push_new _ _, fun e => e, by simp, by simp⟩⟩, SlIs.old no mP (fun _ _ k => k), fun p' h' hs hm hf => ⟨⟨by rw [Nat.zero_add] at hs; exact hs, fun i o e => ?_⟩, mP.trans' hm (fun _ _ k => k) (fun i hi k => ?_)⟩⟩
  · rcases hf i o e with k | k
    · rw [e] at k
      injection k with k
      injection k with k
      omega
    · exact Nat.le_trans (Nat.le_succ _) k
  · obtain ⟨o, k⟩ := k
    injection k with k
    injection k with k
    omega
/-- a row of one, and one that is appended to it -/
theorem app2 {hh : H} {po : Option (Nat × Nat)} {n sz : Nat} {ys : List V} (c : List V) (hc : c.length = sz) (no : SlIs hh po n false sz ys) :
    SlIs (hh.push (.row true sz c)) (some (hh.next, 0)) 1 true sz c ∧ SlIs (hh.push (.row true sz c)) po n false sz ys ∧
    ∀ p' h', SlIs h' p' (1 + n) true sz (c ++ ys) → Ab.Mod (inSl (some (hh.next, 0))) (hh.push (.row true sz c)) h' → isFresh (hh.push (.row true sz c)) (some (hh.next, 0)) p' → NewSl hh h' p' (1 + n) sz (c ++ ys) ∧ Ab.Mod none_ hh h' := by
  have mP := Mod.push none_ hh (.row true sz c)
  refine ⟨SlIs.row (n := 1) (H.obj_push_new _ _) (by rw [hc, Nat.one_mul]), SlIs.old no mP (fun _ _ k => k), fun p' h' hs hm hf => ⟨⟨hs, fun i o e => ?_⟩, mP.trans' hm (fun _ _ k => k) (fun i hi k => ?_)⟩⟩
  · rcases hf i o e with k | k
    · rw [e] at k
      injection k with k
      injection k with k
      omega
    · exact Nat.le_trans (Nat.le_succ _) k
  · obtain ⟨o, k⟩ := k
    injection k with k
    injection k with k
    omega
theorem mget_enc {β : Type} (f : β → V) (n : Int) : ∀ ms : List (Int × β), mget (encM f ms) n = (sget ms n).map f
  | [] => rfl
  | p :: ms => by
    have e : encM f (p :: ms) = (p.1, f p.2) :: encM f ms := rfl
    rw [e, sget_cons]
    have hc : mget ((p.1, f p.2) :: encM f ms) n = if p.1 = n then some (f p.2) else mget (encM f ms) n := by
      by_cases h : p.1 = n
      · rw [if_pos h]
        simp [mget, h]
      · rw [if_neg h]
        simp [mget, h]
    rw [hc, mget_enc f n ms]
    by_cases h : p.1 = n
    · rw [if_pos h, if_pos h]
      rfl
    · rw [if_neg h, if_neg h]
theorem mput_enc {β : Type} (f : β → V) (n : Int) (v : β) : ∀ ms : List (Int × β), mput (encM f ms) n (f v) = encM f (sput ms n v)
  | [] => rfl
  | p :: ms => by
    have e : encM f (p :: ms) = (p.1, f p.2) :: encM f ms := rfl
    rw [e, mput, sput]
    by_cases h : p.1 = n
    · rw [if_pos h, if_pos h]
      rfl
    · rw [if_neg h, if_neg h, mput_enc f n v ms]
      rfl
theorem mdel_enc {β : Type} (f : β → V) (n : Int) : ∀ ms : List (Int × β), mdel (encM f ms) n = encM f (sdel ms n)
  | [] => rfl
  | p :: ms => by
    have e : encM f (p :: ms) = (p.1, f p.2) :: encM f ms := rfl
    rw [e, mdel, sdel]
    by_cases h : p.1 = n
    · rw [if_pos h, if_pos h]
    · rw [if_neg h, if_neg h, mdel_enc f n ms]
      rfl
def inI (k : Int) : Prop := IntKind.i64.min ≤ k ∧ k ≤ IntKind.i64.max
/-- another row of one's own is as it was -/
theorem app1d {h0 hh h' : H} {po pb po2 : Option (Nat × Nat)} {k sz sz' : Nat} {c ys : List V} (nb : NewSl h0 hh pb k sz ys) (dis : ∀ i, inSl po i → inSl pb i → False) (m6 : Ab.Mod (inSl po) hh h') (hf : isFresh (hh.push (.row true sz' c)) po po2) :
    NewSl h0 h' pb k sz ys ∧ ∀ i, inSl po2 i → inSl pb i → False := by
  refine ⟨⟨nb.1.get m6 (fun i o e => .inl (fun a => dis i a ⟨o, e⟩)), nb.2⟩, fun i a b => ?_⟩
  obtain ⟨o, a⟩ := a
  rcases hf i o a with k | k
  · exact dis i ⟨o, by rw [← k, a]⟩ b
  · have := SlIs.own_lt nb.1 b
    have : hh.next + 1 ≤ i := k
    omega
theorem i64_in {k : Int} (h0 : -1000000000 ≤ k) (h1 : k ≤ 1000000000) : inI k := by
  unfold inI
  simp [IntKind.min, IntKind.max, IntKind.signed, IntKind.bits]
  omega
theorem within68 (h : H) (x lo hi : Int) : ACalls Try.prog 68 [i64 x, i64 lo, i64 hi] h (fun r h' => h' = h ∧ r = .bool (inR x lo hi)) := by
  refine call_ Try.func68 rfl rfl (by kernel_rfl) ?_
  conv => whnf
  refine br_mk (fun ha => ?_) (fun ha => ?_)
  · conv => whnf
    have ha : lo ≤ x := by simpa using ha
    exact ⟨rfl, by rw [inR, decide_eq_true ha, Bool.true_and]⟩
  · conv => whnf
    have ha : ¬ lo ≤ x := by simpa using ha
    exact ⟨rfl, by rw [inR, decide_eq_false ha, Bool.false_and]⟩
theorem asc_get_ext {β : Type} : ∀ {A B : List (Int × β)}, AscS A → AscS B → (∀ k, sget A k = sget B k) → A = B := by
  intro A B ha hb h
  have hk : keys A = keys B := asc_ext ha hb (fun x => by rw [← sget_some, ← sget_some, h])
  have hl : A.length = B.length := by
    have := congrArg List.length hk
    simpa [keys] using this
  apply List.ext_getElem hl
  intro i h1 h2
  have e1 : A[i].1 = B[i].1 := by
    have : (keys A)[i]? = (keys B)[i]? := by rw [hk]
    simpa [keys, h1, h2] using this
  have e2 : sget A A[i].1 = some A[i].2 := (sget_mem ha.nodup).2 (List.getElem_mem h1)
  have e3 : sget B B[i].1 = some B[i].2 := (sget_mem hb.nodup).2 (List.getElem_mem h2)
  rw [← e1, ← h, e2] at e3
  injection e3 with e3
  exact Prod.ext e1 e3
theorem flat_take {α : Type} {f : α → List V} {sz : Nat} (hf : ∀ a, (f a).length = sz) (l : List α) {k : Nat} (hk : k ≤ l.length) : (l.flatMap f).take (k * sz) = (l.take k).flatMap f := by
  conv => lhs; rw [← List.take_append_drop k l, List.flatMap_append]
  rw [List.take_append_of_le_length (by rw [flat_length hf, List.length_take]; simp [Nat.min_eq_left hk]), List.take_of_length_le (by rw [flat_length hf, List.length_take]; simp [Nat.min_eq_left hk])]
theorem flat_drop {α : Type} {f : α → List V} {sz : Nat} (hf : ∀ a, (f a).length = sz) (l : List α) {k : Nat} (hk : k ≤ l.length) : (l.flatMap f).drop (k * sz) = (l.drop k).flatMap f := by
  conv => lhs; rw [← List.take_append_drop k l, List.flatMap_append]
  rw [List.drop_append_of_le_length (by rw [flat_length hf, List.length_take]; simp [Nat.min_eq_left hk]), List.drop_of_length_le (by rw [flat_length hf, List.length_take]; simp [Nat.min_eq_left hk]), List.nil_append]
/-- the first k, and the others, of a row that nobody writes -/
theorem ro_take {α : Type} {f : α → List V} {sz : Nat} (hf : ∀ a, (f a).length = sz) {h : H} {p : Option (Nat × Nat)} {l : List α} (o : RoSl h p l.length sz (l.flatMap f)) {k : Nat} (hk : k ≤ l.length) : RoSl h (slp p (0 * sz)) (k - 0) sz ((l.take k).flatMap f) := by
  have := o.cut (Nat.zero_le k) hk
  rw [Nat.zero_mul, List.drop_zero, Nat.sub_zero, flat_take hf l hk] at this
  rw [Nat.zero_mul, Nat.sub_zero]
  exact this
theorem ro_drop {α : Type} {f : α → List V} {sz : Nat} (hf : ∀ a, (f a).length = sz) {h : H} {p : Option (Nat × Nat)} {l : List α} (o : RoSl h p l.length sz (l.flatMap f)) {k : Nat} (hk : k ≤ l.length) : RoSl h (slp p (k * sz)) (l.length - k) sz ((l.drop k).flatMap f) := by
  have := o.cut hk (Nat.le_refl _)
  rw [flat_drop hf l hk, List.take_of_length_le (by rw [flat_length hf, List.length_drop]; exact Nat.le_refl _)] at this
  exact this
theorem appN {S : Nat → Prop} {h0 hh : H} {po : Option (Nat × Nat)} {n m sz : Nat} {xs ys : List V} (no : NewSl h0 hh po n sz xs) (mo : Ab.Mod S h0 hh) : ∀ p' h', SlIs h' p' (n + m) true sz (xs ++ ys) → Ab.Mod (inSl po) hh h' → isFresh hh po p' → NewSl h0 h' p' (n + m) sz (xs ++ ys) ∧ Ab.Mod S h0 h' :=
  fun p' h' hs hm hf => ⟨NewSl.app no hs hf mo.next, NewSl.mod no mo hm⟩
theorem NewSl.keep1 {h0 h h' : H} {b : Nat} {p : Option (Nat × Nat)} {n sz : Nat} {xs : List V} (w : NewSl h0 h p n sz xs) (m : Ab.Mod (one b) h h') (hb : ∀ i, inSl p i → i < b) : NewSl h0 h' p n sz xs :=
  ⟨w.1.get m (fun i o e => .inl (fun k => by
    have := hb i ⟨o, e⟩
    have : i = b := k
    omega)), w.2⟩
theorem keys_length {β : Type} (S : List (Int × β)) : (keys S).length = S.length := by simp [keys]
theorem encM_asc {β γ : Type} (f : β → γ) {Z : List (Int × β)} : AscS (encM f Z) ↔ AscS Z := by
  unfold AscS keys
  rw [encM_keys]
theorem encM_get {β γ : Type} (f : β → γ) (k : Int) : ∀ Z : List (Int × β), sget (encM f Z) k = (sget Z k).map f
  | [] => rfl
  | p :: Z => by
    have e : encM f (p :: Z) = (p.1, f p.2) :: encM f Z := rfl
    rw [e, sget_cons, sget_cons, encM_get f k Z]
    by_cases h : p.1 = k
    · rw [if_pos h, if_pos h]; rfl
    · rw [if_neg h, if_neg h]
theorem encM_filter {β γ : Type} (f : β → γ) (P : Int → Bool) : ∀ Z : List (Int × β), (encM f Z).filter (fun p => P p.1) = encM f (Z.filter fun p => P p.1)
  | [] => rfl
  | p :: Z => by
    have e : encM f (p :: Z) = (p.1, f p.2) :: encM f Z := rfl
    rw [e]
    by_cases h : P p.1 = true
    · rw [List.filter_cons_of_pos (by exact h), List.filter_cons_of_pos (by exact h), encM_filter f P Z]; rfl
    · rw [List.filter_cons_of_neg (by exact h), List.filter_cons_of_neg (by exact h), encM_filter f P Z]
theorem encM_ins {β γ : Type} (f : β → γ) (Z : List (Int × β)) (id : Int) (v : β) : insS (encM f Z) id (f v) = encM f (insS Z id v) := by
  rw [insS, encM_filter f (fun x => decide (x < id)), encM_filter f (fun x => decide (id < x)), insS]
  simp [encM]
theorem encM_del {β γ : Type} (f : β → γ) (Z : List (Int × β)) (id : Int) : delS (encM f Z) id = encM f (delS Z id) := encM_filter f (fun x => x != id) Z
def i64V (v : Int) : V := .int .i64 v
/-- a map of numbers -/
def BSt (h : H) (bi : Nat) (BG : List (Int × Int)) : Prop := ∃ bms, h.obj bi = some (.map true (mpE .i64 (encM i64V bms))) ∧ Same bms BG
theorem BSt.get {S : Nat → Prop} {h h' : H} {bi : Nat} {BG : List (Int × Int)} (b : BSt h bi BG) (m : Ab.Mod S h h') (hs : ¬ S bi) : BSt h' bi BG := by
  obtain ⟨bms, h1, h2⟩ := b
  exact ⟨bms, m.get h1 (.inl hs), h2⟩
theorem BSt.lt {h : H} {bi : Nat} {BG : List (Int × Int)} (b : BSt h bi BG) : bi < h.next := by
  obtain ⟨bms, h1, h2⟩ := b
  exact h.lt _ _ h1
theorem BSt.turn {h : H} {bi : Nat} {BG BG' : List (Int × Int)} (b : BSt h bi BG) {bms' : List (Int × Int)} (hs : Same bms' BG') : BSt (h.set bi (.map true (mpE .i64 (encM i64V bms')))) bi BG' ∧ Ab.Mod (one bi) h (h.set bi (.map true (mpE .i64 (encM i64V bms')))) := by
  obtain ⟨bms, h1, h2⟩ := b
  exact ⟨⟨bms', H.obj_set_same h1, hs⟩, Mod.set rfl h1 rfl⟩
end Go.Proofs.Ytpefdmidfllhoaa
