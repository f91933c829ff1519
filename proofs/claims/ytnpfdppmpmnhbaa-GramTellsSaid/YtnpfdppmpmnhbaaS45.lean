/- Datagrams: whether two are one; what both makes tell of bytes, plain. -/
import Derived.Test.YtnpfdppmpmnhbaaS44
set_option linter.unusedVariables false
namespace Go.Proofs.Ytnpfdppmpmnhbaa
open Go Go.Ab
def sameG (a b : Grm) : Bool := a.cn == b.cn && (a.k == b.k && (a.sq == b.sq && (a.ak == b.ak && (a.cd == b.cd && a.bd == b.bd))))
theorem same53 {h : H} (a b : Grm) (oa : a.ok h) (ob : b.ok h) : ACalls Try.prog 53 [.agg a.cells, .agg b.cells] h (fun r h' => r = .bool (sameG a b) ∧ Ab.Mod none_ h h') := by
  refine call_ Try.func53 rfl rfl (by kernel_rfl) ?_
  conv => whnf
  have m1 := Mod.push none_ h (.row true 6 a.cells)
  have m2 := Mod.push none_ (h.push (.row true 6 a.cells)) (.row true 6 b.cells)
  have g1 : ((h.push (.row true 6 a.cells)).push (.row true 6 b.cells)).obj h.next = some (.row true 6 a.cells) := m2.get (H.obj_push_new _ _) (.inl (fun k => k))
  have g2 : ((h.push (.row true 6 a.cells)).push (.row true 6 b.cells)).obj (h.next + 1) = some (.row true 6 b.cells) := H.obj_push_new (h.push (.row true 6 a.cells)) _
  have m12 := mod_none m1 m2
  have oa := oa.old m12 (fun _ _ k => k)
  have ob := ob.old m12 (fun _ _ k => k)
  refine ⟨_, Cell.mk g1 rfl, ?_⟩
  conv => whnf
  refine ⟨_, Cell.mk g2 rfl, ?_⟩
  conv => whnf
  refine br_mk (fun hk => ?_) (fun hk => ?_)
  rotate_left
  · conv => whnf
    exact ⟨by rw [sameG, hk, Bool.false_and], m12⟩
  conv => whnf
  refine ⟨_, Cell.mk g1 rfl, ?_⟩
  conv => whnf
  refine ⟨_, Cell.mk g2 rfl, ?_⟩
  conv => whnf
  refine br_mk (fun hp => ?_) (fun hp => ?_)
  rotate_left
  · conv => whnf
    exact ⟨by rw [sameG, hp, Bool.false_and, Bool.and_false], m12⟩
  conv => whnf
  refine ⟨_, Cell.mk g1 rfl, ?_⟩
  conv => whnf
  refine ⟨_, Cell.mk g2 rfl, ?_⟩
  conv => whnf
  refine br_mk (fun hd => ?_) (fun hd => ?_)
  rotate_left
  · conv => whnf
    exact ⟨by rw [sameG, hd, Bool.false_and, Bool.and_false, Bool.and_false], m12⟩
  conv => whnf
  refine ⟨_, Cell.mk g1 rfl, ?_⟩
  conv => whnf
  refine ⟨_, Cell.mk g2 rfl, ?_⟩
  conv => whnf
  refine br_mk (fun he => ?_) (fun he => ?_)
  rotate_left
  · conv => whnf
    exact ⟨by rw [sameG, he, Bool.false_and, Bool.and_false, Bool.and_false, Bool.and_false], m12⟩
  conv => whnf
  refine ⟨_, Cell.mk g1 rfl, ?_⟩
  conv => whnf
  refine ⟨_, Cell.mk g2 rfl, ?_⟩
  conv => whnf
  refine br_mk (fun hw => ?_) (fun hw => ?_)
  rotate_left
  · conv => whnf
    exact ⟨by rw [sameG, hw, Bool.false_and, Bool.and_false, Bool.and_false, Bool.and_false, Bool.and_false], m12⟩
  conv => whnf
  refine ⟨_, Cell.mk g1 rfl, ?_⟩
  conv => whnf
  refine ⟨_, oa.1, oa.2.1, ?_⟩
  conv => whnf
  refine ⟨_, Cell.mk g2 rfl, ?_⟩
  conv => whnf
  refine ⟨_, ob.1, ob.2.1, ?_⟩
  conv => whnf
  refine ⟨?_, m12⟩
  rw [sameG, hk, hp, hd, he, hw]
  rfl
theorem sameG_refl (m : Grm) : sameG m m = true := by simp [sameG]
def eqG (m m1 : Grm) : Prop := m1 = { m with bp := m1.bp }
theorem eqG.mk {m m1 : Grm} (cn : m1.cn = m.cn) (k : m1.k = m.k) (sq : m1.sq = m.sq) (ak : m1.ak = m.ak) (cd : m1.cd = m.cd) (bd : m1.bd = m.bd) : eqG m m1 := by
  cases m
  cases m1
  simp only at cn k sq ak cd bd
  subst cn k sq ak cd bd
  rfl
theorem eqG.same {m m1 m2 : Grm} (h1 : eqG m m1) (h2 : eqG m m2) : sameG m1 m2 = true := by
  rw [h1, h2]
  simp [sameG]
theorem eqG.encG {m m1 : Grm} (h : eqG m m1) : encG m1 = encG m := by
  rw [h]
  rfl
theorem eqG.gOk {m m1 : Grm} (h : eqG m m1) : gOk m1 = gOk m := by
  rw [h]
  rfl
/-- a body is a datagram's of that kind -/
structure EncG (body : List Int) (kd : Int) (m : Grm) : Prop where
  k : m.k = kd
  kn : gknd m = true
  fit : fitP (gparts m) = true
  is : gpay m = body
  c1 : m.k ≠ 1 → m.sq = 0 ∧ m.bd = []
  c2 : m.k = 3 → m.ak = 0
  c3 : m.k ≠ 3 → m.cd = 0
def grm0 : Grm := ⟨0, 0, 0, 0, 0, none, []⟩
/-- what both makes tell of bytes -/
def GDec (b : List Int) (m1 : Grm) (e : Int) : Prop :=
  ((unV b).2.2 ≠ 0 ∧ e = (unV b).2.2 ∧ m1 = grm0) ∨ ((unV b).2.2 = 0 ∧ ((e = 0 ∧ EncG (unV b).2.1 (unV b).1 m1 ∧ ∀ m, EncG (unV b).2.1 (unV b).1 m → eqG m m1) ∨ (e = 2 ∧ m1 = grm0 ∧ ∀ m, ¬ EncG (unV b).2.1 (unV b).1 m)))
theorem GDec.alike {b : List Int} {m1 m2 : Grm} {e1 e2 : Int} (a : GDec b m1 e1) (c : GDec b m2 e2) : e1 = e2 ∧ sameG m1 m2 = true := by
  rcases a with ⟨a0, rfl, rfl⟩ | ⟨a0, a⟩ <;> rcases c with ⟨c0, rfl, rfl⟩ | ⟨c0, c⟩
  · exact ⟨rfl, sameG_refl _⟩
  · exact absurd c0 a0
  · exact absurd a0 c0
  · rcases a with ⟨rfl, a1, a2⟩ | ⟨rfl, rfl, a2⟩ <;> rcases c with ⟨rfl, c1, c2⟩ | ⟨rfl, rfl, c2⟩
    · exact ⟨rfl, eqG.same (a2 _ a1) (c2 _ a1)⟩
    · exact absurd a1 (c2 _)
    · exact absurd c1 (a2 _)
    · exact ⟨rfl, sameG_refl _⟩
/-- a datagram with only what its kind names -/
def canonG (m : Grm) : Grm := ⟨m.cn, m.k, if m.k = 1 then m.sq else 0, if m.k = 3 then 0 else m.ak, if m.k = 3 then m.cd else 0, none, if m.k = 1 then m.bd else []⟩
theorem canonG_enc {m : Grm} (h : gOk m = true) : EncG (gpay m) m.k (canonG m) := by
  simp only [gOk, Bool.and_eq_true, decide_eq_true_eq] at h
  obtain ⟨⟨hk, hf⟩, _⟩ := h
  have hkk : 1 ≤ m.k ∧ m.k ≤ 3 := by simpa [gknd] using hk
  have hp : gparts (canonG m) = gparts m := by
    rw [gparts, gparts]
    show (4, m.cn) :: gtail (canonG m) = _
    congr 1
    by_cases h1 : m.k = 1
    · rw [gtail_1 h1, gtail_1 (m := canonG m) h1]
      simp [canonG, h1]
    by_cases h2 : m.k = 2
    · rw [gtail_2 h2, gtail_2 (m := canonG m) h2]
      simp [canonG, h2]
    · have h3 : m.k = 3 := by omega
      rw [gtail_3 h3, gtail_3 (m := canonG m) h3]
      simp [canonG, h3]
  have hb : gbody (canonG m) = gbody m := by
    by_cases h1 : m.k = 1
    · rw [gbody_1 h1, gbody_1 (m := canonG m) h1]
      simp [canonG, h1]
    · rw [gbody_n h1, gbody_n (m := canonG m) h1]
  refine ⟨rfl, hk, by rw [hp]; exact hf, by rw [gpay, gpay, hp, hb], fun h => ?_, fun h => ?_, fun h => ?_⟩
  · have h : m.k ≠ 1 := h
    simp [canonG, h]
  · have h : m.k = 3 := h
    simp [canonG, h]
  · have h : m.k ≠ 3 := h
    simp [canonG, h]
theorem EncG.gOk {body : List Int} {kd : Int} {m : Grm} (e : EncG body kd m) (h : body.length ≤ 2000) : gOk m = true := by
  unfold Proofs.Ytnpfdppmpmnhbaa.gOk
  rw [e.kn, e.fit, e.is, decide_eq_true h]
  rfl
/-- taken, or not, of the program: by what it is written as again -/
theorem gdec_yes {b : List Int} {m1 : Grm} (h1 : gOk m1 = true) (hb : encG m1 = b) (c1 : m1.k ≠ 1 → m1.sq = 0 ∧ m1.bd = []) (c2 : m1.k = 3 → m1.ak = 0) (c3 : m1.k ≠ 3 → m1.cd = 0) (hk : ∀ m, EncG (unV b).2.1 (unV b).1 m → eqG m m1) : GDec b m1 0 := by
  have hu := un_encG h1
  rw [hb] at hu
  refine .inr ⟨by rw [hu], .inl ⟨rfl, ?_, hk⟩⟩
  rw [hu]
  simp only [Proofs.Ytnpfdppmpmnhbaa.gOk, Bool.and_eq_true] at h1
  exact ⟨rfl, h1.1.1, h1.1.2, rfl, c1, c2, c3⟩
theorem gdec_no {b : List Int} (bb : Bts b) {m1 : Grm} (h0 : (unV b).2.2 = 0) (h : gOk m1 = false ∨ encG m1 ≠ b) (hk : ∀ m, EncG (unV b).2.1 (unV b).1 m → eqG m m1) : GDec b grm0 2 := by
  refine .inr ⟨h0, .inr ⟨rfl, rfl, fun m hm => ?_⟩⟩
  have e := hk m hm
  obtain ⟨i1, i2, i3, i4, i5⟩ := un_inv bb (k := (unV b).1) (xs := (unV b).2.1) (by rw [← h0])
  have ok := hm.gOk i2
  rcases h with h | h
  · rw [e.gOk, ok] at h
    cases h
  · rw [e.encG] at h
    refine h ?_
    rw [Proofs.Ytnpfdppmpmnhbaa.encG, ok, if_pos rfl, hm.is, hm.k]
    exact i1.symm
/-- what a reading tells, if the body is a datagram's -/
structure KnG (body : List Int) (kd : Int) (xs : List Int) (sp : Bool) (R : Grm → List (Nat × Int)) : Prop where
  bts : Bts xs
  kn : ∀ m, EncG body kd m → sp = false ∧ xs = bytesP (R m) ++ gbody m ∧ fitP (R m) = true
theorem KnG.start {body : List Int} {kd : Int} (hb : Bts body) : KnG body kd body false gparts := ⟨hb, fun m hm => ⟨rfl, hm.is.symm, hm.fit⟩⟩
theorem KnG.num {body xs : List Int} {kd : Int} {sp : Bool} {R R' : Grm → List (Nat × Int)} (kr : KnG body kd xs sp R) {k : Nat} (h1 : 1 ≤ k) (h7 : k ≤ 7) {val : Grm → Int} (hR : ∀ m, EncG body kd m → R m = (k, val m) :: R' m) {g : Nat} {h h' : H} {v : V} (q : NumQ g xs sp (k : Int) h v h') :
    ∃ (n : Int) (xs' : List Int) (sp' : Bool), v = i64 n ∧ (∀ m, EncG body kd m → n = val m) ∧ (0 ≤ n ∧ n < 2 ^ (8 * k)) ∧ Rdr h' g xs' sp' ∧ KnG body kd xs' sp' R' ∧ xs'.length ≤ xs.length ∧ Ab.Mod (one g) h h' ∧ (sp' = false → sp = false ∧ xs = be n k ++ xs') := by
  obtain ⟨e, r, m⟩ := q
  rw [numK_id h1 h7] at e r
  obtain ⟨l1, l2, l3, l4⟩ := rawV_len (xs := xs) (sp := sp) (k := k)
  obtain ⟨rg, back⟩ := back_pure (sp := sp) kr.bts h7
  have key : ∀ m, EncG body kd m → (rawV xs sp (k : Int)).foldl shOr 0 = val m ∧ (!rawOk xs sp (k : Int)) = false ∧ rawX xs sp (k : Int) = bytesP (R' m) ++ gbody m ∧ fitP (R' m) = true := by
    intro m hm
    obtain ⟨s, x, f⟩ := kr.kn m hm
    rw [hR m hm] at x f
    simp only [fitP, List.all_cons, Bool.and_eq_true, decide_eq_true_eq] at f
    have x : xs = be (val m) k ++ (bytesP (R' m) ++ gbody m) := by
      rw [x, ← List.append_assoc]
      rfl
    subst x
    subst s
    obtain ⟨t1, t2, t3⟩ := read_num h1 h7 f.1.1 f.1.2 (bytesP (R' m) ++ gbody m)
    rw [numK_id h1 h7] at t1 t2 t3
    exact ⟨t3, by rw [t1]; rfl, t2, f.2⟩
  exact ⟨_, _, _, e, fun m hm => (key m hm).1, rg, r, ⟨l3 kr.bts, fun m hm => (key m hm).2⟩, l4, m, back⟩
end Go.Proofs.Ytnpfdppmpmnhbaa
