/- Regions whose order Go leaves open: soundness. -/
import Derived.Test.YtmififfaljihgaaGreatAb11
set_option linter.unusedVariables false
set_option linter.unusedSimpArgs false
namespace Go.Ab
open Go

theorem Rel.unpush {ρ : Rho} {h : H} {ob : Obj} {w : World} (r : Rel ρ (h.push ob) w) : Rel ρ h w :=
  ⟨fun i o hi => r.obj i o (H.obj_push ob hi), fun i j oi oj li lj hi hj => r.sep i j oi oj li lj (H.obj_push ob hi) (H.obj_push ob hj)⟩
section
variable {P : Program} {T : TT}
def dstOf (ops : Array Oper) (i : Nat) : Option Nat := (ops[i]?).bind (·.dst)
/-- A light operation that may be carried out later: it will give its value. -/
def Lt (P : Program) (T : TT) (ops : Array Oper) (N : Nat) (i : Nat) (ge : Nat → V) (v : V) (pend : List Pend) (h : H) : Prop :=
  ∃ o env go, ops[i]? = some o ∧ isChain T ops i = false ∧ (∀ t, get env t = ge t) ∧
    (∀ ρ (a : Act), a.tmps.size = N → (∀ t ∈ o.looksAt ops, VRel ρ (get env t) (a.tmps.getD t Go.undef)) → Region.wanted o (yielded ops a.tmps) = go) ∧
    (go = false → v = .tup []) ∧ (go = true → PSem P o (restr env (o.looksAt ops)) v ∨ (RSem P o (restr env (o.looksAt ops)) h v ∧ ⟨i, o, restr env (o.looksAt ops), v⟩ ∈ pend))
variable {ops : Array Oper} {L B : List Nat} {N : Nat}
/-- The canonical course, as far as it has come, and what has been done of it. -/
structure Inv (P : Program) (T : TT) (ops : Array Oper) (L B : List Nat) (N : Nat) (ρ0 : Rho) (h0 : H) (w0 : World) (K : Env → H → Prop) (f0 : Nat → V) (S : Nat → Bool) (L1 L2 : List Nat) (vals : Nat → V) (pend : List Pend) (env : Env) (h : H) (ρ : Rho) (a : Act) (w : World) : Prop where
  hL : L = L1 ++ L2
  sub : ∀ i, S i = true → i ∈ L1
  cl : ∀ i, S i = true → ∀ j, j < ops.size → (B.getD i 0).testBit j = true → S j = true
  ch : ∀ c ∈ L1, isChain T ops c = true → S c = true
  ev : ∀ t, get env t = foldF (dstOf ops) vals (fun _ => true) L1 f0 t
  wp : wpD P T ops B L2 pend env h K
  lt : ∀ pre i post, L1 = pre ++ i :: post → S i = false → Lt P T ops N i (foldF (dstOf ops) vals (fun _ => true) pre f0) (vals i) pend h
  size : a.tmps.size = N
  er : ∀ t, VRel ρ (foldF (dstOf ops) vals S L1 f0 t) (a.tmps.getD t Go.undef)
  r : Rel ρ h w
  d : Dom ρ h.next
  s : Since ρ0 h0 w0 ρ h w
  z : a.defers = []

theorem mem_unique {l1 l2 m1 m2 : List Nat} {i : Nat} (h : l1 ++ i :: l2 = m1 ++ i :: m2) (h1 : i ∉ l1) (h2 : i ∉ m1) : l1 = m1 := by
  induction l1 generalizing m1 with
  | nil =>
    cases m1 with
    | nil => rfl
    | cons x m1 =>
      injection h with h _
      subst h
      simp at h2
  | cons y l1 ih =>
    cases m1 with
    | nil =>
      injection h with h _
      subst h
      simp at h1
    | cons x m1 =>
      injection h with e1 e2
      subst e1
      rw [ih e2 (fun hm => h1 (by simp [hm])) (fun hm => h2 (by simp [hm]))]

/-- On with the canonical course, up to the next operation that makes or turns memory. -/
theorem advance (hT : TOk P T) (hE : EqOk P T) (dk : DOk T ops L B) (hN : ∀ o ∈ ops, ∀ d, o.dst = some d → d < N) {ρ0 : Rho} {h0 : H} {w0 : World} {K : Env → H → Prop} {f0 : Nat → V} {S : Nat → Bool} {h : H} {ρ : Rho} {a : Act} {w : World} :
    ∀ (L2 L1 : List Nat) (vals : Nat → V) (pend : List Pend) (env : Env), Inv P T ops L B N ρ0 h0 w0 K f0 S L1 L2 vals pend env h ρ a w →
      ∃ M1 M2 vals' pend' env', Inv P T ops L B N ρ0 h0 w0 K f0 S M1 M2 vals' pend' env' h ρ a w ∧ (M2 = [] ∨ ∃ c r, M2 = c :: r ∧ isChain T ops c = true)
  | [], L1, vals, pend, env, I => ⟨L1, [], vals, pend, env, I, .inl rfl⟩
  | i :: L2, L1, vals, pend, env, I => by
    cases hch : isChain T ops i with
    | true => exact ⟨L1, i :: L2, vals, pend, env, I, .inr ⟨i, L2, rfl, hch⟩⟩
    | false =>
      obtain ⟨o, ho⟩ := dk.op i (by rw [I.hL]; simp)
      have hi1 : i ∉ L1 := dk.fresh I.hL
      have hSi : S i = false := by
        cases hs : S i with
        | false => rfl
        | true => exact absurd (I.sub i hs) hi1
      have hw := I.wp
      simp only [wpD, ho] at hw
      obtain ⟨env1, go, hw, he, hg⟩ := guardW_at hw hN
      have hd := hN o (Array.mem_of_getElem? ho)
      have hdst : dstOf ops i = o.dst := by simp [dstOf, ho]
      -- what is to be shown of the next state, whatever the value
      have next : ∀ (v : V) (pend' : List Pend) (env2 : Env), (∀ p ∈ pend, p ∈ pend') → (∀ t, get env2 t = if o.dst = some t then v else get env1 t) → (go = false → v = .tup []) →
          (go = true → PSem P o (restr env1 (o.looksAt ops)) v ∨ (RSem P o (restr env1 (o.looksAt ops)) h v ∧ ⟨i, o, restr env1 (o.looksAt ops), v⟩ ∈ pend')) → wpD P T ops B L2 pend' env2 h K →
          Inv P T ops L B N ρ0 h0 w0 K f0 S (L1 ++ [i]) L2 (fun j => if j = i then v else vals j) pend' env2 h ρ a w := by
        intro v pend' env2 hp h2 hf ht hwp
        have hv : ∀ j ∈ L1, (fun j => if j = i then v else vals j) j = vals j := fun j hj => by
          simp only
          rw [if_neg]
          rintro rfl
          exact hi1 hj
        refine ⟨by rw [I.hL]; simp, fun j hj => by simp [I.sub j hj], I.cl, fun c hc hcc => ?_, fun t => ?_, hwp, fun pre j post e hsj => ?_, I.size, fun t => ?_, I.r, I.d, I.s, I.z⟩
        · rcases List.mem_append.1 hc with hc | hc
          · exact I.ch c hc hcc
          · rw [List.mem_singleton.1 hc, hch] at hcc
            cases hcc
        · rw [foldF_append, h2, foldF_congr _ _ hv]
          simp only [foldF, if_true, hdst]
          split
          · rfl
          · rw [he, I.ev]
        · rcases List.append_eq_append_iff.1 (show L1 ++ [i] = pre ++ j :: post from e) with ⟨m, e1, e2⟩ | ⟨m, e1, e2⟩
          · -- j is i, or behind it
            cases m with
            | nil =>
              simp at e1 e2
              obtain ⟨rfl, rfl⟩ := e2
              subst e1
              refine ⟨o, env1, go, ho, hch, fun t => ?_, fun ρ a hz hl => hg ρ a hz (fun t ht => by rw [← he]; exact hl t ht), by simpa using hf, by simpa using ht⟩
              rw [he, I.ev, foldF_congr _ _ hv]
            | cons x m =>
              injection e2 with e2 e3
              subst e2
              cases m <;> simp at e3
          · cases m with
            | nil =>
              simp at e1 e2
              obtain ⟨rfl, rfl⟩ := e2
              subst e1
              refine ⟨o, env1, go, ho, hch, fun t => ?_, fun ρ a hz hl => hg ρ a hz (fun t ht => by rw [← he]; exact hl t ht), by simpa using hf, by simpa using ht⟩
              rw [he, I.ev, foldF_congr _ _ hv]
            | cons x m =>
              injection e2 with e2 e3
              subst e2
              have hj1 : j ∈ L1 := by rw [e1]; simp
              obtain ⟨o', env', go', k1, k2, k3, k4, k5, k6⟩ := I.lt pre j m e1 hsj
              have hvj : (if j = i then v else vals j) = vals j := hv j hj1
              refine ⟨o', env', go', k1, k2, fun t => ?_, k4, by rw [hvj]; exact k5, fun hgo => ?_⟩
              · rw [k3, foldF_congr pre f0 (fun x hx => hv x (by rw [e1]; simp [hx]))]
              · rw [hvj]
                rcases k6 hgo with k | ⟨k, k'⟩
                · exact .inl k
                · exact .inr ⟨k, hp _ k'⟩
        · have := I.er t
          rw [foldF_append, foldF_congr _ _ hv]
          simpa [foldF, hSi] using this
      have putv : ∀ {v : V} {X : Env → Prop}, put env1 o.dst v X → ∃ env2, (∀ t, get env2 t = if o.dst = some t then v else get env1 t) ∧ X env2 := by
        intro v X hx
        unfold put at hx
        split at hx
        · rename_i t e
          exact ⟨_, fun t' => by rw [get_cons, e]; simp, hx⟩
        · rename_i e
          exact ⟨_, fun t' => by simp [e], hx⟩
      cases go with
      | false =>
        simp only at hw
        obtain ⟨env2, h2, hw⟩ := putv hw
        exact advance hT hE dk hN L2 (L1 ++ [i]) _ pend env2 (next _ pend env2 (fun p hp => hp) h2 (fun _ => rfl) (fun e => by cases e) hw)
      | true =>
        simp only at hw
        have hcls : ∀ q, cls T o.op = q → isChain T ops i = (match q with
            | .a => true
            | .c => true
            | _ => false) := by
          intro q hc
          (simp only [isChain, ho, hc]) <;> (cases q <;> rfl)
        cases hc : cls T o.op with
        | a =>
          rw [hcls _ hc] at hch
          cases hch
        | c =>
          rw [hcls _ hc] at hch
          cases hch
        | p =>
          rw [hc] at hw
          obtain ⟨v, hw, hs⟩ := pO_sound hT hE hw
          obtain ⟨env2, h2, hw⟩ := putv hw
          exact advance hT hE dk hN L2 (L1 ++ [i]) _ pend env2 (next _ pend env2 (fun p hp => hp) h2 (fun e => by cases e) (fun _ => .inl hs) hw)
        | r =>
          rw [hc] at hw
          obtain ⟨v, hw, hs⟩ := rO_sound hT hw
          obtain ⟨env2, h2, hw⟩ := putv hw
          exact advance hT hE dk hN L2 (L1 ++ [i]) _ _ env2 (next _ _ env2 (fun p hp => by simp [hp]) h2 (fun e => by cases e) (fun _ => .inr ⟨hs, by simp⟩) hw)

/-- What an operation sees, when all that must be ahead of it has been done, is what it sees in the canonical course. -/
theorem sees (dk : DOk T ops L B) {pre r : List Nat} {i : Nat} {o : Oper} (e : L = pre ++ i :: r) (ho : ops[i]? = some o) {S : Nat → Bool} {L1 : List Nat} {vals : Nat → V} {f0 : Nat → V} (hL1 : L1 = pre ∨ ∃ post, L1 = pre ++ i :: post) (hsub : ∀ j ∈ L1, j ∈ L) (hL2 : ∃ M, L = L1 ++ M)
    (hcl : ∀ i, S i = true → ∀ j, j < ops.size → (B.getD i 0).testBit j = true → S j = true) (hSi : S i = false) (hb : ∀ j, j < ops.size → (B.getD i 0).testBit j = true → S j = true) {t : Nat} (ht : t ∈ o.looksAt ops) :
    foldF (dstOf ops) vals (fun _ => true) pre f0 t = foldF (dstOf ops) vals S L1 f0 t := by
  rw [foldF_eq, foldF_eq]
  congr 1
  have hlt : ∀ j, j ∈ L → ∃ oj, ops[j]? = some oj ∧ j < ops.size := fun j hj => by
    obtain ⟨oj, h⟩ := dk.op j hj
    exact ⟨oj, h, (Array.getElem?_eq_some_iff.1 h).1⟩
  have hpre : pre.filter (fun j => true && decide (dstOf ops j = some t)) = pre.filter (fun j => S j && decide (dstOf ops j = some t)) := by
    refine List.filter_congr fun j hj => ?_
    by_cases hd : dstOf ops j = some t
    · obtain ⟨oj, hoj, hjn⟩ := hlt j (by rw [e]; simp [hj])
      have hdj : oj.dst = some t := by simpa [dstOf, hoj] using hd
      have hc : conf ops o oj = true := by simp [conf, hdj, ht]
      have := hb j hjn (dk.conf e ho hj hoj hc)
      simp [this]
    · simp [hd]
  rcases hL1 with rfl | ⟨post, rfl⟩
  · exact hpre
  · rw [List.filter_append, ← hpre, List.filter_cons]
    simp only [hSi, Bool.false_and, Bool.false_eq_true, if_false]
    have : post.filter (fun j => S j && decide (dstOf ops j = some t)) = [] := by
      rw [List.filter_eq_nil_iff]
      intro j hj hcon
      simp only [Bool.and_eq_true, decide_eq_true_eq] at hcon
      obtain ⟨hSj, hd⟩ := hcon
      obtain ⟨oj, hoj, hjn⟩ := hlt j (hsub j (by simp [hj]))
      have hdj : oj.dst = some t := by simpa [dstOf, hoj] using hd
      have hc : conf ops oj o = true := by simp [conf, hdj, ht]
      obtain ⟨p1, p2, rfl⟩ := List.append_of_mem hj
      obtain ⟨M, hM⟩ := hL2
      have e2 : L = (pre ++ i :: p1) ++ j :: (p2 ++ M) := by rw [hM]; simp
      have hbit := dk.conf e2 hoj (show i ∈ pre ++ i :: p1 by simp) ho hc
      have := hcl j hSj i (Array.getElem?_eq_some_iff.1 ho).1 hbit
      rw [hSi] at this
      cases this
    rw [this, List.append_nil]

theorem ERel.restr {ρ : Rho} {N : Nat} {env : Env} {a : Act} {ts : List Nat} (hz : a.tmps.size = N) (h : ∀ t ∈ ts, VRel ρ (get env t) (a.tmps.getD t Go.undef)) : ERel ρ N (restr env ts) a := by
  refine ⟨hz, fun t => ?_⟩
  rw [get_restr]
  split
  · rename_i ht
    exact h t ht
  · exact .undef _
theorem still_sound (hT : TOk P T) {bef : Nat} {h' : H} : ∀ (pend : List Pend) {X : Prop}, still T bef h' pend X → X ∧ ∀ p ∈ pend, bef.testBit p.j = true ∨ RSem P p.o p.env h' p.v
  | [], X, h => ⟨h, fun p hp => by cases hp⟩
  | q :: pend, X, h => by
    unfold still at h
    split at h
    · rename_i hb
      obtain ⟨k1, k2⟩ := still_sound hT pend h
      refine ⟨k1, fun p hp => ?_⟩
      rcases List.mem_cons.1 hp with rfl | hp
      · exact .inl hb
      · exact k2 p hp
    · obtain ⟨h1, h2⟩ := h
      obtain ⟨k1, k2⟩ := still_sound hT pend h2
      refine ⟨k1, fun p hp => ?_⟩
      rcases List.mem_cons.1 hp with rfl | hp
      · obtain ⟨v, rfl, hs⟩ := rO_sound (P := P) hT h1
        exact .inr hs
      · exact k2 p hp
theorem mem_ready' {i : Nat} {listed : Array Bool} (h : i ∈ Region.ready .any ops listed) : listed.getD i true = false ∧ ∃ o, ops[i]? = some o ∧ ∀ g ∈ o.after, Region.binds .any g = true → listed.getD g.on false = true := by
  simp only [Region.ready, List.mem_filter, List.mem_range, Bool.and_eq_true, Bool.not_eq_true'] at h
  obtain ⟨h1, h2, h3⟩ := h
  refine ⟨h2, ops[i], Array.getElem?_eq_getElem h1, fun g hg hb => ?_⟩
  rw [Array.getElem?_eq_getElem h1] at h3
  simp only [Option.map_some, Option.getD_some, Array.all_eq_true'] at h3
  have := h3 g hg
  rw [hb] at this
  simpa using this
theorem listed_set {listed : Array Bool} {i j : Nat} (hi : i < listed.size) : (listed.setIfInBounds i true).getD j false = if j = i then true else listed.getD j false := by
  simp only [Array.getD_eq_getD_getElem?, Array.getElem?_setIfInBounds]
  by_cases h : j = i
  · subst h
    simp [hi]
  · rw [if_neg (Ne.symm h), if_neg h]

theorem foldF_congr_p {dst : Nat → Option Nat} {vals : Nat → V} {p p' : Nat → Bool} : ∀ (l : List Nat) (f : Nat → V), (∀ i ∈ l, p i = p' i) → foldF dst vals p l f = foldF dst vals p' l f
  | [], f, h => rfl
  | i :: l, f, h => by
    rw [foldF, foldF, h i (by simp)]
    exact foldF_congr_p l _ (fun j hj => h j (by simp [hj]))
theorem put_rel {ρ : Rho} {a : Act} {d : Option Tmp} {v : V} {u : Value} {f : Nat → V} (hz : ∀ t, d = some t → t < a.tmps.size) (h : ∀ t, VRel ρ (f t) (a.tmps.getD t Go.undef)) (hv : VRel ρ v u) : ∀ t, VRel ρ (if d = some t then v else f t) ((a.put d u).tmps.getD t Go.undef) := by
  intro t
  cases d with
  | none => simpa [Act.put] using h t
  | some s =>
    simp only [Act.put, Option.some.injEq]
    split
    · rename_i e
      subst e
      have := hz s rfl
      simpa [Array.getD_eq_getD_getElem?, this] using hv
    · rename_i e
      have := h t
      simp only [Array.getD_eq_getD_getElem?] at this ⊢
      rw [Array.getElem?_setIfInBounds_ne e]
      exact this
/-- An operation that makes or turns memory has been done. -/
theorem Inv.chain {ρ0 : Rho} {h0 : H} {w0 : World} {K : Env → H → Prop} {f0 : Nat → V} {S S' : Nat → Bool} {L1 r : List Nat} {i : Nat} {vals : Nat → V} {pend : List Pend} {env env2 : Env} {h h' : H} {ρ ρ' : Rho} {a : Act} {w w' : World} {o : Oper} {v : V} {u : Value}
    (I : Inv P T ops L B N ρ0 h0 w0 K f0 S L1 (i :: r) vals pend env h ρ a w) (dk : DOk T ops L B) (ho : ops[i]? = some o) (hS' : ∀ j, S' j = if j = i then true else S j) (hcl' : ∀ k, S' k = true → ∀ j, j < ops.size → (B.getD k 0).testBit j = true → S' j = true)
    (h2 : ∀ t, get env2 t = if o.dst = some t then v else get env t) (hwp : wpD P T ops B r pend env2 h' K) (hd : ∀ d, o.dst = some d → d < N) (hv : VRel ρ' v u) (hr : Rel ρ' h' w') (hdom : Dom ρ' h'.next) (hs : Since ρ h w ρ' h' w')
    (hkeep : ∀ p ∈ pend, S p.j = false → p.j ∈ L1 → RSem P p.o p.env h p.v → RSem P p.o p.env h' p.v) :
    Inv P T ops L B N ρ0 h0 w0 K f0 S' (L1 ++ [i]) r (fun j => if j = i then v else vals j) pend env2 h' ρ' (a.put o.dst u) w' := by
  have hi1 : i ∉ L1 := dk.fresh I.hL
  have hdst : dstOf ops i = o.dst := by simp [dstOf, ho]
  have hvv : ∀ j ∈ L1, (fun j => if j = i then v else vals j) j = vals j := fun j hj => by
    simp only
    rw [if_neg]
    rintro rfl
    exact hi1 hj
  have hSS : ∀ j ∈ L1, S' j = S j := fun j hj => by
    rw [hS', if_neg]
    rintro rfl
    exact hi1 hj
  refine ⟨by rw [I.hL]; simp, fun j hj => ?_, hcl', fun c hc hcc => ?_, fun t => ?_, hwp, fun pre j post e hsj => ?_, ?_, fun t => ?_, hr, hdom, I.s.trans hs, by rw [put_defers]; exact I.z⟩
  · rw [hS'] at hj
    split at hj
    · rename_i e
      rw [e]
      simp
    · simp [I.sub j hj]
  · rcases List.mem_append.1 hc with hc | hc
    · rw [hSS c hc]
      exact I.ch c hc hcc
    · rw [List.mem_singleton.1 hc, hS', if_pos rfl]
  · rw [foldF_append, h2, foldF_congr _ _ hvv]
    simp only [foldF, if_true, hdst]
    split
    · rfl
    · rw [I.ev]
  · have hji : j ≠ i := by
      rintro rfl
      rw [hS', if_pos rfl] at hsj
      cases hsj
    have hsj' : S j = false := by
      rw [hS', if_neg hji] at hsj
      exact hsj
    have hj1 : j ∈ L1 := by
      have : j ∈ L1 ++ [i] := by rw [e]; simp
      rcases List.mem_append.1 this with h | h
      · exact h
      · exact absurd (List.mem_singleton.1 h) hji
    obtain ⟨p1, m, e1⟩ := List.append_of_mem hj1
    have hpp : p1 = pre := by
      have e2 : L = p1 ++ j :: (m ++ i :: r) := by rw [I.hL, e1]; simp
      have e3 : L = pre ++ j :: (post ++ r) := by
        rw [I.hL]
        have : L1 ++ i :: r = (L1 ++ [i]) ++ r := by simp
        rw [this, e]
        simp
      exact mem_unique (e2.symm.trans e3) (dk.fresh e2) (dk.fresh e3)
    subst hpp
    obtain ⟨o', env', go', k1, k2, k3, k4, k5, k6⟩ := I.lt p1 j m e1 hsj'
    have hvj : (if j = i then v else vals j) = vals j := hvv j hj1
    refine ⟨o', env', go', k1, k2, fun t => ?_, k4, by rw [hvj]; exact k5, fun hgo => ?_⟩
    · rw [k3, foldF_congr p1 f0 (fun x hx => hvv x (by rw [e1]; simp [hx]))]
    · rw [hvj]
      rcases k6 hgo with k | ⟨k, k'⟩
      · exact .inl k
      · exact .inr ⟨hkeep _ k' hsj' hj1 k, k'⟩
  · simpa [Act.put] using (by cases hdd : o.dst <;> simp [Act.put, I.size] : (a.put o.dst u).tmps.size = N)
  · have := put_rel (d := o.dst) (v := v) (u := u) (f := foldF (dstOf ops) vals S L1 f0) (a := a) (ρ := ρ') (fun t ht => by rw [I.size]; exact hd t ht) (fun t => (I.er t).mono hs.ext) hv t
    rw [foldF_append, foldF_congr _ _ hvv, foldF_congr_p _ _ hSS]
    simp only [foldF, hS', if_true, hdst]
    exact this
theorem wpAny_inv (hT : TOk P T) (hE : EqOk P T) (dk : DOk T ops L B) (hN : ∀ o ∈ ops, ∀ d, o.dst = some d → d < N) {ρ0 : Rho} {h0 : H} {w0 : World} {K : Env → H → Prop} {f0 : Nat → V} {Q : Exit → Act → World → Prop}
    (hQ : ∀ a w, Good ρ0 h0 w0 N K a w → Q .normal a w) : ∀ (fuel : Nat) (listed : Array Bool) (L1 L2 : List Nat) (vals : Nat → V) (pend : List Pend) (env : Env) (h : H) (ρ : Rho) (a : Act) (w : World),
      listed.size = ops.size → (listed.toList.count false ≤ fuel) → Inv P T ops L B N ρ0 h0 w0 K f0 (fun i => listed.getD i false) L1 L2 vals pend env h ρ a w → (L2 = [] ∨ ∃ c r, L2 = c :: r ∧ isChain T ops c = true) → wpAny P .any ops Q fuel listed a w := by
  -- nothing is ready: all has been done
  have fin : ∀ (listed : Array Bool) (L1 L2 : List Nat) (vals : Nat → V) (pend : List Pend) (env : Env) (h : H) (ρ : Rho) (a : Act) (w : World),
      listed.size = ops.size → Inv P T ops L B N ρ0 h0 w0 K f0 (fun i => listed.getD i false) L1 L2 vals pend env h ρ a w → Region.ready .any ops listed = [] → Q .normal a w := by
    intro listed L1 L2 vals pend env h ρ a w hsz I hr
    have hall : ∀ (m pre post : List Nat), L = pre ++ m → (∀ i ∈ pre, listed.getD i false = true) → ∀ i ∈ L, listed.getD i false = true := by
      intro m
      induction m with
      | nil => intro pre post e hp i hi; rw [e] at hi; exact hp i (by simpa using hi)
      | cons x m ih =>
        intro pre post e hp i hi
        refine ih (pre ++ [x]) post (by rw [e]; simp) (fun j hj => ?_) i hi
        rcases List.mem_append.1 hj with hj | hj
        · exact hp j hj
        · rw [List.mem_singleton.1 hj]
          obtain ⟨o, ho⟩ := dk.op x (by rw [e]; simp)
          have hxn := (Array.getElem?_eq_some_iff.1 ho).1
          cases hx : listed.getD x false with
          | true => rfl
          | false =>
            exfalso
            have hx' : listed.getD x true = false := by
              rw [Array.getD_eq_getD_getElem?, Array.getElem?_eq_getElem (by omega)] at hx ⊢
              simpa using hx
            have : x ∈ Region.ready .any ops listed := by
              simp only [Region.ready, List.mem_filter, List.mem_range, Bool.and_eq_true, Bool.not_eq_true']
              refine ⟨hxn, hx', ?_⟩
              rw [ho]
              simp only [Option.map_some, Option.getD_some, Array.all_eq_true']
              intro g hg
              cases hb : Region.binds .any g with
              | false => rfl
              | true =>
                have := hp _ (dk.edge e ho hg hb)
                simpa using this
            rw [hr] at this
            cases this
    have hS := hall L [] [] rfl (fun i hi => by cases hi)
    have hL2 : L2 = [] := by
      cases L2 with
      | nil => rfl
      | cons x m =>
        have h1 := I.sub x (hS x (by rw [I.hL]; simp))
        exact absurd h1 (dk.fresh I.hL)
    subst hL2
    refine hQ a w ⟨ρ, env, h, ⟨⟨I.size, fun t => ?_⟩, I.r, I.d, I.s, I.z⟩, I.wp⟩
    have := I.er t
    rw [I.ev]
    rw [foldF_eq] at this ⊢
    have hf : L1.filter (fun i => listed.getD i false && decide (dstOf ops i = some t)) = L1.filter (fun i => true && decide (dstOf ops i = some t)) := by
      refine List.filter_congr fun j hj => ?_
      rw [hS j (by rw [I.hL]; simp [hj])]
    rw [hf] at this
    exact this
  intro fuel
  induction fuel with
  | zero =>
    intro listed L1 L2 vals pend env h ρ a w hsz hc I hh
    have hr : Region.ready .any ops listed = [] := by
      rw [List.eq_nil_iff_forall_not_mem]
      intro i hi
      obtain ⟨h1, o, ho, _⟩ := mem_ready' hi
      have hin : i < listed.size := by rw [hsz]; exact (Array.getElem?_eq_some_iff.1 ho).1
      have : false ∈ listed.toList := by
        rw [Array.getD_eq_getD_getElem?, Array.getElem?_eq_getElem hin] at h1
        simp only [Option.getD_some] at h1
        rw [← h1]
        exact Array.mem_toList_iff.2 (Array.getElem_mem hin)
      have := List.count_pos_iff.2 this
      omega
    exact ⟨hr, fin listed L1 L2 vals pend env h ρ a w hsz I hr⟩
  | succ fuel ih =>
    intro listed L1 L2 vals pend env h ρ a w hsz hc I hh
    refine ⟨fin listed L1 L2 vals pend env h ρ a w hsz I, fun i hi => ?_⟩
    obtain ⟨hli, o, ho, hpre⟩ := mem_ready' hi
    have hin : i < listed.size := by rw [hsz]; exact (Array.getElem?_eq_some_iff.1 ho).1
    have hSi : listed.getD i false = false := by
      rw [Array.getD_eq_getD_getElem?, Array.getElem?_eq_getElem hin] at hli ⊢
      simpa using hli
    have hiL : i ∈ L := dk.all i (by omega)
    obtain ⟨pre, r, e⟩ := split_at hiL
    -- all that must be ahead has been done
    have hb : ∀ j, j < ops.size → (B.getD i 0).testBit j = true → listed.getD j false = true := by
      intro j hj hbit
      obtain ⟨_, g, hg, hbd, hor⟩ := dk.bef e ho hj hbit
      rcases hor with rfl | hor
      · exact hpre g hg hbd
      · exact I.cl g.on (hpre g hg hbd) j hj hor
    have hsz' : (listed.setIfInBounds i true).size = ops.size := by simpa using hsz
    have hcnt : (listed.setIfInBounds i true).toList.count false ≤ fuel := by
      have h1 : listed.toList[i]? = some false := by
        rw [Array.getElem?_toList, Array.getElem?_eq_getElem hin]
        rw [Array.getD_eq_getD_getElem?, Array.getElem?_eq_getElem hin] at hSi
        simpa using hSi
      rw [Array.toList_setIfInBounds]
      have h2 := List.count_set (a := true) (b := false) (l := listed.toList) (i := i) (by simpa using hin)
      have h3 : (listed.toList[i]'(by simpa using hin) == false) = true := by
        have := (List.getElem?_eq_some_iff.1 h1).2
        rw [this]
        rfl
      rw [h2, if_pos h3, if_neg (by decide)]
      omega
    have hset : ∀ j, (listed.setIfInBounds i true).getD j false = if j = i then true else listed.getD j false := fun j => listed_set hin
    have hcl' : ∀ k, (listed.setIfInBounds i true).getD k false = true → ∀ j, j < ops.size → (B.getD k 0).testBit j = true → (listed.setIfInBounds i true).getD j false = true := by
      intro k hk j hj hbit
      rw [hset] at hk ⊢
      split
      · rfl
      · by_cases hki : k = i
        · subst hki
          exact hb j hj hbit
        · rw [if_neg hki] at hk
          exact I.cl k hk j hj hbit
    have hd := hN o (Array.mem_of_getElem? ho)
    have hdst : dstOf ops i = o.dst := by simp [dstOf, ho]
    have hSz : ∀ t, o.dst = some t → t < a.tmps.size := fun t ht => by rw [I.size]; exact hd t ht
    unfold wpOp
    simp only [ho]
    cases hch : isChain T ops i with
    | false =>
      -- a light operation: it stands in L1
      have hi1 : i ∈ L1 := by
        have : i ∈ L1 ++ L2 := by rw [← I.hL]; exact hiL
        rcases List.mem_append.1 this with hm | hm
        · exact hm
        · exfalso
          rcases hh with rfl | ⟨c, r', rfl, hcc⟩
          · cases hm
          · rcases List.mem_cons.1 hm with rfl | hm
            · rw [hch] at hcc
              cases hcc
            · obtain ⟨x, y, rfl⟩ := List.append_of_mem hm
              have e2 : L = (L1 ++ c :: x) ++ i :: y := by rw [I.hL]; simp
              have hbit := dk.chain e2 (show c ∈ L1 ++ c :: x by simp) hcc
              have hcn : c < ops.size := by
                obtain ⟨oc, hoc⟩ := dk.op c (by rw [I.hL]; simp)
                exact (Array.getElem?_eq_some_iff.1 hoc).1
              exact dk.fresh I.hL (I.sub c (hb c hcn hbit))
      obtain ⟨p1, post, e1⟩ := List.append_of_mem hi1
      obtain ⟨o', env', go, k1, k2, k3, k4, k5, k6⟩ := I.lt p1 i post e1 hSi
      rw [ho] at k1
      injection k1 with k1
      subst k1
      have e2 : L = p1 ++ i :: (post ++ L2) := by rw [I.hL, e1]; simp
      have see : ∀ t ∈ o.looksAt ops, VRel ρ (get env' t) (a.tmps.getD t Go.undef) := by
        intro t ht
        rw [k3, sees dk e2 ho (S := fun i => listed.getD i false) (L1 := L1) (.inr ⟨post, e1⟩) (fun j hj => by rw [I.hL]; simp [hj]) ⟨L2, I.hL⟩ I.cl hSi hb ht]
        exact I.er t
      rw [k4 ρ a I.size see]
      -- the next state
      have next : ∀ u, VRel ρ (vals i) u → Inv P T ops L B N ρ0 h0 w0 K f0 (fun j => (listed.setIfInBounds i true).getD j false) L1 L2 vals pend env h ρ (a.put o.dst u) w := by
        intro u hu
        refine ⟨I.hL, fun j hj => ?_, hcl', fun c hc hcc => ?_, I.ev, I.wp, fun pre j post e hsj => ?_, ?_, fun t => ?_, I.r, I.d, I.s, by rw [put_defers]; exact I.z⟩
        · simp only [hset] at hj
          split at hj
          · rename_i e
            rw [e]
            exact hi1
          · exact I.sub j hj
        · simp only [hset]
          split
          · rfl
          · exact I.ch c hc hcc
        · simp only [hset] at hsj
          split at hsj
          · cases hsj
          · exact I.lt pre j post e hsj
        · simpa [Act.put] using (by cases hdd : o.dst <;> simp [Act.put, I.size] : (a.put o.dst u).tmps.size = N)
        · have hp := put_rel (d := o.dst) (v := vals i) (u := u) (f := foldF (dstOf ops) vals (fun i => listed.getD i false) L1 f0) (a := a) (ρ := ρ) hSz I.er hu t
          have heq : foldF (dstOf ops) vals (fun j => (listed.setIfInBounds i true).getD j false) L1 f0 t = if o.dst = some t then vals i else foldF (dstOf ops) vals (fun i => listed.getD i false) L1 f0 t := by
            have hnp : i ∉ p1 := dk.fresh e2
            have hnq : i ∉ post := by
              intro hm
              obtain ⟨x, y, rfl⟩ := List.append_of_mem hm
              have e3 : L = (p1 ++ i :: x) ++ i :: (y ++ L2) := by rw [e2]; simp
              exact dk.fresh e3 (by simp)
            have hpeq : foldF (dstOf ops) vals (fun j => (listed.setIfInBounds i true).getD j false) p1 f0 = foldF (dstOf ops) vals (fun i => listed.getD i false) p1 f0 := foldF_congr_p _ _ (fun j hj => by
              simp only [hset]
              rw [if_neg]
              rintro rfl
              exact hnp hj)
            have hqeq : ∀ g, foldF (dstOf ops) vals (fun j => (listed.setIfInBounds i true).getD j false) post g = foldF (dstOf ops) vals (fun i => listed.getD i false) post g := fun g => foldF_congr_p _ _ (fun j hj => by
              simp only [hset]
              rw [if_neg]
              rintro rfl
              exact hnq hj)
            rw [e1, foldF_append, foldF_append, hpeq]
            simp only [foldF]
            rw [hqeq]
            have hSi2 : (listed.setIfInBounds i true).getD i false = true := by rw [hset, if_pos rfl]
            simp only [hSi2, hSi, if_true, Bool.false_eq_true, if_false, hdst]
            have F := foldF_eq (dstOf ops) vals (fun i => listed.getD i false) post
            simp only [F]
            by_cases hdt : o.dst = some t
            · have hemp : post.filter (fun j => listed.getD j false && decide (dstOf ops j = some t)) = [] := by
                rw [List.filter_eq_nil_iff]
                intro j hj hcon
                simp only [Bool.and_eq_true, decide_eq_true_eq] at hcon
                obtain ⟨hSj, hdj⟩ := hcon
                obtain ⟨x, y, rfl⟩ := List.append_of_mem hj
                have e3 : L = (p1 ++ i :: x) ++ j :: (y ++ L2) := by rw [e2]; simp
                obtain ⟨oj, hoj⟩ := dk.op j (by rw [e3]; simp)
                have hdj' : oj.dst = some t := by simpa [dstOf, hoj] using hdj
                have hcf : conf ops oj o = true := by simp [conf, hdj', hdt]
                have hbit := dk.conf e3 hoj (show i ∈ p1 ++ i :: x by simp) ho hcf
                have := I.cl j hSj i (by omega) hbit
                rw [hSi] at this
                cases this
              rw [hemp]
              simp only [hdt, if_true, List.foldl_nil]
            · simp only [hdt, if_false]
          rw [heq]
          exact hp
      cases go with
      | false =>
        simp only [Bool.false_eq_true, if_false]
        have hv := k5 rfl
        exact ih _ L1 L2 vals pend env h ρ _ w hsz' hcnt (next Go.undef (by rw [hv]; exact .tup [] [] rfl (fun j c u hc => by simp at hc))) hh
      | true =>
        simp only [if_true]
        have hER := ERel.restr (ts := o.looksAt ops) I.size see
        have hrun : ∃ u, (execOp a.eval o).run P w = .ok (.value u) w ∧ VRel ρ (vals i) u := by
          rcases k6 rfl with k | ⟨k, _⟩
          · exact k ρ N a w hER
          · exact k ρ N a w hER I.r
        obtain ⟨u, hu1, hu2⟩ := hrun
        exact .inl (wp_value hu1 (ih _ L1 L2 vals pend env h ρ _ w hsz' hcnt (next u hu2) hh))
    | true =>
      -- an operation that makes or turns memory: it stands first in L2
      obtain ⟨r', rfl⟩ : ∃ r', L2 = i :: r' := by
        have hm : i ∈ L1 ++ L2 := by rw [← I.hL]; exact hiL
        rcases List.mem_append.1 hm with hm | hm
        · have := I.ch i hm hch
          rw [hSi] at this
          cases this
        · rcases hh with rfl | ⟨c, r', rfl, hcc⟩
          · cases hm
          · rcases List.mem_cons.1 hm with rfl | hm
            · exact ⟨r', rfl⟩
            · exfalso
              obtain ⟨x, y, rfl⟩ := List.append_of_mem hm
              have e2 : L = (L1 ++ c :: x) ++ i :: y := by rw [I.hL]; simp
              have hbit := dk.chain e2 (show c ∈ L1 ++ c :: x by simp) hcc
              have hcn : c < ops.size := by
                obtain ⟨oc, hoc⟩ := dk.op c (by rw [I.hL]; simp)
                exact (Array.getElem?_eq_some_iff.1 hoc).1
              exact dk.fresh I.hL (I.sub c (hb c hcn hbit))
      have hw := I.wp
      simp only [wpD, ho] at hw
      obtain ⟨env1, go, hw, he, hg⟩ := guardW_at hw hN
      have see : ∀ t ∈ o.looksAt ops, VRel ρ (get env t) (a.tmps.getD t Go.undef) := by
        intro t ht
        rw [I.ev, sees dk I.hL ho (S := fun i => listed.getD i false) (L1 := L1) (.inl rfl) (fun j hj => by rw [I.hL]; simp [hj]) ⟨i :: r', I.hL⟩ I.cl hSi hb ht]
        exact I.er t
      rw [hg ρ a I.size see]
      have putv : ∀ {v : V} {X : Env → Prop}, put env1 o.dst v X → ∃ env2, (∀ t, get env2 t = if o.dst = some t then v else get env t) ∧ X env2 := by
        intro v X hx
        unfold put at hx
        split at hx
        · rename_i t e
          exact ⟨_, fun t' => by rw [get_cons, e, he]; simp, hx⟩
        · rename_i e
          exact ⟨_, fun t' => by simp [e, he], hx⟩
      have hER : ERel ρ N (restr env1 (o.looksAt ops)) a := ERel.restr I.size (fun t ht => by rw [he]; exact see t ht)
      have go_on : ∀ {env2 : Env} {h' : H} {ρ' : Rho} {a' : Act} {w' : World} {vals' : Nat → V}, Inv P T ops L B N ρ0 h0 w0 K f0 (fun j => (listed.setIfInBounds i true).getD j false) (L1 ++ [i]) r' vals' pend env2 h' ρ' a' w' → wpAny P .any ops Q fuel (listed.setIfInBounds i true) a' w' := by
        intro env2 h' ρ' a' w' vals' J
        obtain ⟨M1, M2, vals2, pend2, env3, J2, hh2⟩ := advance hT hE dk hN _ _ _ _ _ J
        exact ih _ M1 M2 vals2 pend2 env3 h' ρ' a' w' hsz' hcnt J2 hh2
      cases go with
      | false =>
        simp only [Bool.false_eq_true, if_false]
        simp only at hw
        obtain ⟨env2, h2, hw⟩ := putv hw
        exact go_on (I.chain dk ho hset hcl' h2 hw hd (.tup [] [] rfl (fun j c u hc => by simp at hc)) I.r I.d (Since.refl _ _ _) (fun p _ _ _ k => k))
      | true =>
        simp only [if_true]
        simp only at hw
        refine .inl ?_
        cases hc : cls T o.op with
        | p =>
          simp [isChain, ho, hc] at hch
        | r =>
          simp [isChain, ho, hc] at hch
        | a =>
          rw [hc] at hw
          obtain ⟨v, ob, hw, _, hs⟩ := aO_sound (P := P) hT hw
          obtain ⟨u, w', l, q1, _, q2, q3, q4, q5⟩ := hs ρ N a w hER I.r I.d
          obtain ⟨env2, h2, hw⟩ := putv hw
          exact wp_value q1 (go_on (I.chain dk ho hset hcl' h2 hw hd q2 q3 q4 q5 (fun p _ _ _ k ρ N a w e r => k ρ N a w e r.unpush)))
        | c =>
          rw [hc] at hw
          refine Oper.wp_mono (fun a' w' hcout => ?_) (cO_sound hT hw hER I.r I.d Q)
          obtain ⟨v, h', ρ', u, rfl, hw, q2, q3, q4, q5⟩ := hcout
          obtain ⟨env2, h2, hw⟩ := putv hw
          obtain ⟨hw, hst⟩ := still_sound (P := P) hT pend hw
          refine go_on (I.chain dk ho hset hcl' h2 hw hd q2 q3 q4 q5 (fun p hp hSp hp1 k => ?_))
          rcases hst p hp with hbit | hrs
          · exfalso
            have hpn : p.j < ops.size := by
              obtain ⟨op, hop⟩ := dk.op p.j (by rw [I.hL]; simp [hp1])
              exact (Array.getElem?_eq_some_iff.1 hop).1
            have := hb p.j hpn hbit
            rw [hSp] at this
            cases this
          · exact hrs
end
end Go.Ab
