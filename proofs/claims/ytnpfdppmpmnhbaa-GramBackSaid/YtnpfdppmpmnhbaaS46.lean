/- Datagrams: Decode, of both makes. -/
import Derived.Test.YtnpfdppmpmnhbaaS45
set_option linter.unusedVariables false
namespace Go.Proofs.Ytnpfdppmpmnhbaa
open Go Go.Ab
def GDecQ (b : List Int) (h : H) (r : V) (h' : H) : Prop := ∃ (m1 : Grm) (e : Int), r = .tup [.agg m1.cells, i64 e] ∧ m1.ok h' ∧ Ab.Mod none_ h h' ∧ GDec b m1 e
theorem okg_mk {hh : H} {i : Nat} {ob : Ab.Obj} {m0 m1 : Grm} (_ : hh.obj i = some ob) (e : m0 = m1) (k : m0.ok hh) : m1.ok hh := e ▸ k
theorem raw_left (xs : List Int) (sp : Bool) : (sp = false → rawV xs sp (leftV xs sp) = xs) ∧ (sp = false → rawOk xs sp (leftV xs sp) = true ∧ rawX xs sp (leftV xs sp) = []) := by
  have key : sp = false → rawOk xs sp (leftV xs sp) = true := fun h => by
    subst h
    simp [rawOk, leftV]
  refine ⟨fun h => ?_, fun h => ⟨key h, ?_⟩⟩
  · rw [rawV, key h]
    subst h
    simp [leftV]
  · rw [rawX, key h]
    subst h
    simp [leftV]
theorem raw_left_bts {xs : List Int} {sp : Bool} {k : Int} (hb : Bts xs) : Bts (rawV xs sp k) := by
  unfold rawV
  split
  · exact bts_take hb _
  · exact fun _ k => by cases k
theorem raw_left_len (xs : List Int) (sp : Bool) {k : Int} : (rawV xs sp k).length ≤ xs.length := by
  unfold rawV
  split
  · rw [List.length_take]
    omega
  · exact Nat.zero_le _
set_option maxHeartbeats 1000000 in
theorem gdec51 {h : H} {p : Option (Nat × Nat)} {n : Nat} {b : List Int} (o : SlIs h p n false 1 (ints .u8 b)) (bb : Bts b) (hn : n ≤ 800000) : ACalls Try.prog 51 [.sl p n] h (GDecQ b h) := by
  have hl := slo_len o
  subst hl
  refine call_ Try.func51 rfl rfl (by kernel_rfl) ?_
  conv => whnf
  have mm := Mod.push none_ h (.row true 6 [i64 0, i64 0, i64 0, i64 0, i64 0, .sl none 0])
  have g0 : (h.push (.row true 6 [i64 0, i64 0, i64 0, i64 0, i64 0, .sl none 0])).obj h.next = some (.row true 6 [i64 0, i64 0, i64 0, i64 0, i64 0, .sl none 0]) := H.obj_push_new _ _
  have hbo : ∀ i, i < h.next → one h.next i → none_ i := fun i hi k => absurd hi (by unfold one at k; omega)
  have zero : ∀ {hh hz : H} {z : V} {e : Int}, GDec b grm0 e → Ab.Mod none_ h hh → hh.obj h.next = some (.row true 6 [i64 0, i64 0, i64 0, i64 0, i64 0, .sl none 0]) → Ab.Mod (one h.next) hh hz → GDecQ b h (.tup [.agg grm0.cells, i64 e]) hz := fun hd m1 _ m2 => ⟨grm0, _, rfl, ⟨SlIs.nil _ _ _, fun _ k => (by cases k), Nat.zero_le _⟩, m1.trans' m2 (S2 := none_) (fun _ _ k => k) hbo, hd⟩
  refine (un38 (SlIs.old o mm (fun _ _ k => k)) bb (by omega)).mono ?_
  rintro _ h1 ⟨qb, lb, rfl, ob, m1⟩
  have hlb := ob.len
  subst hlb
  have g0 := m1.get g0 (.inl (fun k => k))
  have mm := mod_none mm m1
  obtain ⟨⟨kd, body, er⟩, hU⟩ : ∃ x, unV b = x := ⟨_, rfl⟩
  rw [hU] at ob ⊢
  have ob : Oct h1 qb body.length body := ob
  conv => whnf
  refine ⟨_, rfl, ?_⟩
  conv => whnf
  refine ⟨_, rfl, ?_⟩
  conv => whnf
  refine ⟨_, rfl, ?_⟩
  conv => whnf
  refine br_mk (fun hx => ?_) (fun hx => ?_)
  · conv => whnf
    have hx : er ≠ 0 := by simpa using hx
    refine ⟨_, _, g0, Nat.le_of_ble_eq_true rfl, ?_⟩
    conv => whnf
    have ms := Mod.set (S := one h.next) (ob := .row true 6 grm0.cells) rfl g0 rfl
    have g0' := H.obj_set_same (ob' := .row true 6 grm0.cells) g0
    refine ⟨grm0.cells, Cells.mk g0' (Nat.le_of_ble_eq_true rfl) rfl, ?_⟩
    conv => whnf
    exact zero (z := .undef) (.inl ⟨by rw [hU]; exact hx, by rw [hU], rfl⟩) mm g0 ms
  conv => whnf
  have hx : er = 0 := by simpa using hx
  subst hx
  obtain ⟨i1, i2, bbd, i4, i5⟩ := un_inv bb hU
  have lx := Nat.le_refl body.length
  have kr : KnG body kd body false gparts := KnG.start bbd
  have h0n := h1.lt _ _ g0
  refine (read24o (xs := body) ob.is (by omega)).mono ?_
  rintro _ _ ⟨g, rfl, rn⟩
  have hg : h.next < g := Nat.lt_of_lt_of_le h0n rn.2.1
  have h0g : h.next ≠ g := Nat.ne_of_lt hg
  have hgo : ∀ i, i < h.next → one g i → none_ i := fun i hi k => absurd hi (by unfold one at k; omega)
  have g0 := rn.2.2.get g0 (.inl (fun k => k))
  have mm := mod_none mm rn.2.2
  have r := rn.1
  clear rn ob m1
  conv => whnf
  refine (num25 r (by omega) ((4 : Nat) : Int)).mono ?_
  rintro _ hL q
  obtain ⟨cn, xs, sp, rfl, kcn, bcn, r', kr', lx', mq, ycn⟩ := kr.num (k := 4) (by decide) (by decide) (R' := gtail) (val := fun m => m.cn) (fun m hm => rfl) q
  have g0 := mq.get g0 (.inl h0g)
  have mm := mm.trans' mq (S2 := none_) (fun _ _ k => k) hgo
  have r := r'
  have kr := kr'
  have lx := Nat.le_trans lx' lx
  clear r' kr' lx' q mq
  conv => whnf
  have mp := Mod.push none_ hL (.row true 6 [i64 0, i64 0, i64 0, i64 0, i64 0, .sl none 0])
  have gm : (hL.push (.row true 6 [i64 0, i64 0, i64 0, i64 0, i64 0, .sl none 0])).obj hL.next = some (.row true 6 [i64 0, i64 0, i64 0, i64 0, i64 0, .sl none 0]) := H.obj_push_new _ _
  have h0b : h.next ≠ hL.next := Nat.ne_of_lt (hL.lt _ _ g0)
  have hlt : h.next < hL.next := hL.lt _ _ g0
  have hbm : ∀ i, i < h.next → one hL.next i → none_ i := fun i hi k => absurd hi (by unfold one at k; omega)
  have g0 := mp.get g0 (.inl (fun k => k))
  have hbg : hL.next ≠ g := Nat.ne_of_gt r.lt
  have r := r.get mp (fun k => k)
  have mm := mod_none mm mp
  clear mp
  refine ⟨_, _, gm, Nat.le_of_ble_eq_true rfl, ?_⟩
  have ms := Mod.set (S := one hL.next) (ob := .row true 6 [i64 cn, i64 kd, i64 0, i64 0, i64 0, .sl none 0]) rfl gm rfl
  have g0 := ms.get g0 (.inl h0b)
  have gm := H.obj_set_same (ob' := .row true 6 [i64 cn, i64 kd, i64 0, i64 0, i64 0, .sl none 0]) gm
  have r := r.get ms (fun k => hbg k.symm)
  have mm := mm.trans' ms (S2 := none_) (fun _ _ k => k) hbm
  clear ms
  generalize hbe : hL.next = bm at *
  conv => whnf
  refine br_mk (fun h1 => ?_) (fun h1 => ?_)
  conv => whnf
  simp at h1
  refine (num25 r (by omega) ((4 : Nat) : Int)).mono ?_
  rintro _ _ q
  obtain ⟨sq, xs, sp, rfl, ksq, bsq, r', kr', lx', mq, ysq⟩ := kr.num (k := 4) (by decide) (by decide) (R' := fun m => [(4, m.ak)]) (val := fun m => m.sq) (fun m hm => by have := hm.k; exact gtail_1 (by omega)) q
  have gm := mq.get gm (.inl hbg)
  have g0 := mq.get g0 (.inl h0g)
  have mm := mm.trans' mq (S2 := none_) (fun _ _ k => k) hgo
  have r := r'
  have kr := kr'
  have lx := Nat.le_trans lx' lx
  clear r' kr' lx' q mq
  conv => whnf
  refine (num25 r (by omega) ((4 : Nat) : Int)).mono ?_
  rintro _ _ q
  obtain ⟨ak, xs, sp, rfl, kak, bak, r', kr', lx', mq, yak⟩ := kr.num (k := 4) (by decide) (by decide) (R' := fun m => []) (val := fun m => m.ak) (fun m hm => rfl) q
  have gm := mq.get gm (.inl hbg)
  have g0 := mq.get g0 (.inl h0g)
  have mm := mm.trans' mq (S2 := none_) (fun _ _ k => k) hgo
  have r := r'
  have kr := kr'
  have lx := Nat.le_trans lx' lx
  clear r' kr' lx' q mq
  conv => whnf
  refine ⟨_, _, gm, Nat.le_of_ble_eq_true rfl, ?_⟩
  have ms := Mod.set (S := one bm) (ob := .row true 6 [i64 cn, i64 kd, i64 sq, i64 0, i64 0, .sl none 0]) rfl gm rfl
  have g0 := ms.get g0 (.inl h0b)
  have gm := H.obj_set_same (ob' := .row true 6 [i64 cn, i64 kd, i64 sq, i64 0, i64 0, .sl none 0]) gm
  have r := r.get ms (fun k => hbg k.symm)
  have mm := mm.trans' ms (S2 := none_) (fun _ _ k => k) hbm
  clear ms
  conv => whnf
  refine ⟨_, _, gm, Nat.le_of_ble_eq_true rfl, ?_⟩
  have ms := Mod.set (S := one bm) (ob := .row true 6 [i64 cn, i64 kd, i64 sq, i64 ak, i64 0, .sl none 0]) rfl gm rfl
  have g0 := ms.get g0 (.inl h0b)
  have gm := H.obj_set_same (ob' := .row true 6 [i64 cn, i64 kd, i64 sq, i64 ak, i64 0, .sl none 0]) gm
  have r := r.get ms (fun k => hbg k.symm)
  have mm := mm.trans' ms (S2 := none_) (fun _ _ k => k) hbm
  clear ms
  conv => whnf
  refine (left29 r).mono ?_
  rintro _ h' ⟨eh, rfl⟩
  subst h'
  conv => whnf
  refine (raw27 r (by omega) _).mono ?_
  rintro _ _ ⟨q, l, rfl, ob, r', mq⟩
  have hl := ob.len
  subst hl
  have gm := mq.get gm (.inl hbg)
  have g0 := mq.get g0 (.inl h0g)
  have mm := mm.trans' mq (S2 := none_) (fun _ _ k => k) hgo
  have r := r'
  obtain ⟨hv0, hv1⟩ := raw_left xs sp
  have hvb : Bts (rawV xs sp (leftV xs sp)) := raw_left_bts kr.bts
  have hvl : (rawV xs sp (leftV xs sp)).length ≤ xs.length := raw_left_len xs sp
  generalize hrv : rawV xs sp (leftV xs sp) = bd at *
  clear r' mq
  conv => whnf
  refine ⟨_, _, gm, Nat.le_of_ble_eq_true rfl, ?_⟩
  have ms := Mod.set (S := one bm) (ob := .row true 6 [i64 cn, i64 kd, i64 sq, i64 ak, i64 0, .sl q bd.length]) rfl gm rfl
  have g0 := ms.get g0 (.inl h0b)
  have gm := H.obj_set_same (ob' := .row true 6 [i64 cn, i64 kd, i64 sq, i64 ak, i64 0, .sl q bd.length]) gm
  have r := r.get ms (fun k => hbg k.symm)
  have mm := mm.trans' ms (S2 := none_) (fun _ _ k => k) hbm
  have ob := ob.get ms
  clear ms
  conv => whnf
  obtain ⟨m1, hm1⟩ : ∃ m1 : Grm, (⟨cn, kd, sq, ak, 0, q, bd⟩ : Grm) = m1 := ⟨_, rfl⟩
  have okm := okg_mk gm hm1 ⟨ob.is, hvb, by show bd.length ≤ 100000; omega⟩
  have gm := gm.trans (congrArg (fun x : Grm => some (Ab.Obj.row true 6 x.cells)) hm1)
  have c1 : m1.k ≠ 1 → m1.sq = 0 ∧ m1.bd = [] := by
    rw [← hm1]
    exact fun hh => absurd h1 hh
  have c2 : m1.k = 3 → m1.ak = 0 := by
    rw [← hm1]
    exact fun hh => absurd (h1.symm.trans hh) (by decide)
  have c3 : m1.k ≠ 3 → m1.cd = 0 := by
    rw [← hm1]
    exact fun _ => rfl
  have keq : ∀ m, EncG body kd m → eqG m m1 := by
    intro m hm
    rw [← hm1]
    have hkk := hm.k
    have hk3 : 1 ≤ m.k ∧ m.k ≤ 3 := by simpa [gknd] using hm.kn
    exact eqG.mk (kcn m hm) hkk.symm (ksq m hm) (kak m hm) (hm.c3 (by omega)).symm (by obtain ⟨t1, t2, _⟩ := kr.kn m hm; rw [gbody_1 (by omega)] at t2; exact (hv0 t1).trans t2)
  have hep0 : ∀ i o, m1.bp = some (i, o) → ¬ one h.next i ∨ m1.bd.length = 0 := by
    rw [← hm1]
    exact fun i o e => by
      rcases Nat.eq_zero_or_pos bd.length with z | z
      · exact .inr z
      · refine .inl (fun k => ?_)
        obtain ⟨_, _, rr, e1, e2, _⟩ := ob.2.resolve_left (by omega)
        have e : q = some (i, o) := e
        rw [e] at e1
        injection e1 with e1
        injection e1 with e1
        subst e1
        unfold one at k
        subst k
        rw [g0] at e2
        cases e2
  clear hm1
  rotate_left
  conv => whnf
  refine br_mk (fun h2 => ?_) (fun h2 => ?_)
  conv => whnf
  simp at h2
  refine (num25 r (by omega) ((4 : Nat) : Int)).mono ?_
  rintro _ _ q
  obtain ⟨ak, xs, sp, rfl, kak, bak, r', kr', lx', mq, yak⟩ := kr.num (k := 4) (by decide) (by decide) (R' := fun m => []) (val := fun m => m.ak) (fun m hm => by have := hm.k; exact gtail_2 (by omega)) q
  have gm := mq.get gm (.inl hbg)
  have g0 := mq.get g0 (.inl h0g)
  have mm := mm.trans' mq (S2 := none_) (fun _ _ k => k) hgo
  have r := r'
  have kr := kr'
  have lx := Nat.le_trans lx' lx
  clear r' kr' lx' q mq
  conv => whnf
  refine ⟨_, _, gm, Nat.le_of_ble_eq_true rfl, ?_⟩
  have ms := Mod.set (S := one bm) (ob := .row true 6 [i64 cn, i64 kd, i64 0, i64 ak, i64 0, .sl none 0]) rfl gm rfl
  have g0 := ms.get g0 (.inl h0b)
  have gm := H.obj_set_same (ob' := .row true 6 [i64 cn, i64 kd, i64 0, i64 ak, i64 0, .sl none 0]) gm
  have r := r.get ms (fun k => hbg k.symm)
  have mm := mm.trans' ms (S2 := none_) (fun _ _ k => k) hbm
  clear ms
  conv => whnf
  obtain ⟨m1, hm1⟩ : ∃ m1 : Grm, (⟨cn, kd, 0, ak, 0, none, []⟩ : Grm) = m1 := ⟨_, rfl⟩
  have okm := okg_mk gm hm1 ⟨SlIs.nil _ _ _, fun _ k => (by cases k), Nat.zero_le _⟩
  have gm := gm.trans (congrArg (fun x : Grm => some (Ab.Obj.row true 6 x.cells)) hm1)
  have c1 : m1.k ≠ 1 → m1.sq = 0 ∧ m1.bd = [] := by
    rw [← hm1]
    exact fun _ => ⟨rfl, rfl⟩
  have c2 : m1.k = 3 → m1.ak = 0 := by
    rw [← hm1]
    exact fun hh => absurd (h2.symm.trans hh) (by decide)
  have c3 : m1.k ≠ 3 → m1.cd = 0 := by
    rw [← hm1]
    exact fun _ => rfl
  have keq : ∀ m, EncG body kd m → eqG m m1 := by
    intro m hm
    rw [← hm1]
    have hkk := hm.k
    have hk3 : 1 ≤ m.k ∧ m.k ≤ 3 := by simpa [gknd] using hm.kn
    exact eqG.mk (kcn m hm) hkk.symm (hm.c1 (by omega)).1.symm (kak m hm) (hm.c3 (by omega)).symm (hm.c1 (by omega)).2.symm
  have hep0 : ∀ i o, m1.bp = some (i, o) → ¬ one h.next i ∨ m1.bd.length = 0 := by
    rw [← hm1]
    exact fun i o e => (by cases e)
  clear hm1
  rotate_left
  conv => whnf
  refine br_mk (fun h3 => ?_) (fun h3 => ?_)
  conv => whnf
  simp at h3
  refine (num25 r (by omega) ((1 : Nat) : Int)).mono ?_
  rintro _ _ q
  obtain ⟨cd, xs, sp, rfl, kcd, bcd, r', kr', lx', mq, ycd⟩ := kr.num (k := 1) (by decide) (by decide) (R' := fun m => []) (val := fun m => m.cd) (fun m hm => by have := hm.k; exact gtail_3 (by omega)) q
  have gm := mq.get gm (.inl hbg)
  have g0 := mq.get g0 (.inl h0g)
  have mm := mm.trans' mq (S2 := none_) (fun _ _ k => k) hgo
  have r := r'
  have kr := kr'
  have lx := Nat.le_trans lx' lx
  clear r' kr' lx' q mq
  conv => whnf
  refine ⟨_, _, gm, Nat.le_of_ble_eq_true rfl, ?_⟩
  have ms := Mod.set (S := one bm) (ob := .row true 6 [i64 cn, i64 kd, i64 0, i64 0, i64 cd, .sl none 0]) rfl gm rfl
  have g0 := ms.get g0 (.inl h0b)
  have gm := H.obj_set_same (ob' := .row true 6 [i64 cn, i64 kd, i64 0, i64 0, i64 cd, .sl none 0]) gm
  have r := r.get ms (fun k => hbg k.symm)
  have mm := mm.trans' ms (S2 := none_) (fun _ _ k => k) hbm
  clear ms
  conv => whnf
  obtain ⟨m1, hm1⟩ : ∃ m1 : Grm, (⟨cn, kd, 0, 0, cd, none, []⟩ : Grm) = m1 := ⟨_, rfl⟩
  have okm := okg_mk gm hm1 ⟨SlIs.nil _ _ _, fun _ k => (by cases k), Nat.zero_le _⟩
  have gm := gm.trans (congrArg (fun x : Grm => some (Ab.Obj.row true 6 x.cells)) hm1)
  have c1 : m1.k ≠ 1 → m1.sq = 0 ∧ m1.bd = [] := by
    rw [← hm1]
    exact fun _ => ⟨rfl, rfl⟩
  have c2 : m1.k = 3 → m1.ak = 0 := by
    rw [← hm1]
    exact fun _ => rfl
  have c3 : m1.k ≠ 3 → m1.cd = 0 := by
    rw [← hm1]
    exact fun hh => absurd h3 hh
  have keq : ∀ m, EncG body kd m → eqG m m1 := by
    intro m hm
    rw [← hm1]
    have hkk := hm.k
    have hk3 : 1 ≤ m.k ∧ m.k ≤ 3 := by simpa [gknd] using hm.kn
    exact eqG.mk (kcn m hm) hkk.symm (hm.c1 (by omega)).1.symm (hm.c2 (by omega)).symm (kcd m hm) (hm.c1 (by omega)).2.symm
  have hep0 : ∀ i o, m1.bp = some (i, o) → ¬ one h.next i ∨ m1.bd.length = 0 := by
    rw [← hm1]
    exact fun i o e => (by cases e)
  clear hm1
  rotate_left
  conv => whnf
  simp at h1 h2 h3
  obtain ⟨m1, hm1⟩ : ∃ m1 : Grm, (⟨cn, kd, 0, 0, 0, none, []⟩ : Grm) = m1 := ⟨_, rfl⟩
  have okm := okg_mk gm hm1 ⟨SlIs.nil _ _ _, fun _ k => (by cases k), Nat.zero_le _⟩
  have gm := gm.trans (congrArg (fun x : Grm => some (Ab.Obj.row true 6 x.cells)) hm1)
  have c1 : m1.k ≠ 1 → m1.sq = 0 ∧ m1.bd = [] := by
    rw [← hm1]
    exact fun _ => ⟨rfl, rfl⟩
  have c2 : m1.k = 3 → m1.ak = 0 := by
    rw [← hm1]
    exact fun _ => rfl
  have c3 : m1.k ≠ 3 → m1.cd = 0 := by
    rw [← hm1]
    exact fun _ => rfl
  have keq : ∀ m, EncG body kd m → eqG m m1 := by
    intro m hm
    rw [← hm1]
    have hkk := hm.k
    have hk3 : 1 ≤ m.k ∧ m.k ≤ 3 := by simpa [gknd] using hm.kn
    exact absurd hk3 (by omega)
  have hep0 : ∀ i o, m1.bp = some (i, o) → ¬ one h.next i ∨ m1.bd.length = 0 := by
    rw [← hm1]
    exact fun i o e => (by cases e)
  clear hm1
  rotate_left
  all_goals
    refine ⟨m1.cells, Cells.mk gm (Nat.le_of_ble_eq_true rfl) rfl, ?_⟩
    conv => whnf
    refine (genc49 m1 okm).mono ?_
    rintro _ he ⟨qe, rfl, oe, me⟩
    conv => whnf
    refine ⟨_, rfl, ?_⟩
    conv => whnf
    refine ⟨_, rfl, ?_⟩
    conv => whnf
    have gm := me.get gm (.inl (fun k => k))
    have g0 := me.get g0 (.inl (fun k => k))
    have okm := okm.old me (fun _ _ k => k)
    have mm := mod_none mm me
    have hu0 : (unV b).2.2 = 0 := by rw [hU]
    have keq' : ∀ m, EncG (unV b).2.1 (unV b).1 m → eqG m m1 := by rw [hU]; exact keq
    refine br_mk (fun hx => ?_) (fun hx => ?_)
    · conv => whnf
      have ho : gOk m1 = false := by
        cases ho : gOk m1 with
        | false => rfl
        | true =>
          rw [ho] at hx
          cases hx
      refine ⟨_, _, g0, Nat.le_of_ble_eq_true rfl, ?_⟩
      conv => whnf
      have ms := Mod.set (S := one h.next) (ob := .row true 6 grm0.cells) rfl g0 rfl
      have g0' := H.obj_set_same (ob' := .row true 6 grm0.cells) g0
      refine ⟨grm0.cells, Cells.mk g0' (Nat.le_of_ble_eq_true rfl) rfl, ?_⟩
      conv => whnf
      exact zero (z := .undef) (gdec_no bb hu0 (.inl ho) keq') mm g0 ms
    conv => whnf
    have ho : gOk m1 = true := by
      cases ho : gOk m1 with
      | true => rfl
      | false =>
        rw [ho] at hx
        cases hx
    refine (equal58 oe.is (encG_bts okm.2.1) (SlIs.old o mm (fun _ _ k => k)) bb).mono ?_
    rintro _ h' ⟨eh, rfl⟩
    subst h'
    conv => whnf
    refine br_mk (fun hy => ?_) (fun hy => ?_)
    · conv => whnf
      have hy : encG m1 ≠ b := by simpa using hy
      refine ⟨_, _, g0, Nat.le_of_ble_eq_true rfl, ?_⟩
      conv => whnf
      have ms := Mod.set (S := one h.next) (ob := .row true 6 grm0.cells) rfl g0 rfl
      have g0' := H.obj_set_same (ob' := .row true 6 grm0.cells) g0
      refine ⟨grm0.cells, Cells.mk g0' (Nat.le_of_ble_eq_true rfl) rfl, ?_⟩
      conv => whnf
      exact zero (z := .undef) (gdec_no bb hu0 (.inr hy) keq') mm g0 ms
    conv => whnf
    have hy : encG m1 = b := by simpa using hy
    refine ⟨m1.cells, Cells.mk gm (Nat.le_of_ble_eq_true rfl) rfl, ?_⟩
    conv => whnf
    refine ⟨_, _, g0, Nat.le_of_ble_eq_true rfl, ?_⟩
    conv => whnf
    have ms := Mod.set (S := one h.next) (ob := .row true 6 m1.cells) rfl g0 rfl
    have gm2 := H.obj_set_same (ob' := .row true 6 m1.cells) g0
    refine ⟨m1.cells, Cells.mk gm2 (Nat.le_of_ble_eq_true rfl) rfl, ?_⟩
    conv => whnf
    exact ⟨m1, 0, rfl, okm.by ms hep0, mm.trans' ms (S2 := none_) (fun _ _ k => k) hbo, gdec_yes ho hy c1 c2 c3 keq'⟩

theorem rdr_eq {h : H} {g : Nat} {xs ys : List Int} {s t : Bool} (e : xs = ys) (f : s = t) (r : Rdr h g xs s) : Rdr h g ys t := e ▸ f ▸ r
set_option maxHeartbeats 1000000 in
theorem gdec52 {h : H} {p : Option (Nat × Nat)} {n : Nat} {b : List Int} (o : SlIs h p n false 1 (ints .u8 b)) (bb : Bts b) (hn : n ≤ 800000) : ACalls Try.prog 52 [.sl p n] h (GDecQ b h) := by
  have hl := slo_len o
  subst hl
  refine call_ Try.func52 rfl rfl (by kernel_rfl) ?_
  conv => whnf
  have mm := Mod.push none_ h (.row true 6 [i64 0, i64 0, i64 0, i64 0, i64 0, .sl none 0])
  have g0 : (h.push (.row true 6 [i64 0, i64 0, i64 0, i64 0, i64 0, .sl none 0])).obj h.next = some (.row true 6 [i64 0, i64 0, i64 0, i64 0, i64 0, .sl none 0]) := H.obj_push_new _ _
  have hbo : ∀ i, i < h.next → one h.next i → none_ i := fun i hi k => absurd hi (by unfold one at k; omega)
  have zero : ∀ {hh hz : H} {z : V} {e : Int}, GDec b grm0 e → Ab.Mod none_ h hh → hh.obj h.next = some (.row true 6 [i64 0, i64 0, i64 0, i64 0, i64 0, .sl none 0]) → Ab.Mod (one h.next) hh hz → GDecQ b h (.tup [.agg grm0.cells, i64 e]) hz := fun hd m1 _ m2 => ⟨grm0, _, rfl, ⟨SlIs.nil _ _ _, fun _ k => (by cases k), Nat.zero_le _⟩, m1.trans' m2 (S2 := none_) (fun _ _ k => k) hbo, hd⟩
  refine (un39 (SlIs.old o mm (fun _ _ k => k)) bb (by omega)).mono ?_
  rintro _ h1 ⟨qb, lb, rfl, ob, m1⟩
  have hlb := ob.len
  subst hlb
  have g0 := m1.get g0 (.inl (fun k => k))
  have mm := mod_none mm m1
  obtain ⟨⟨kd, body, er⟩, hU⟩ : ∃ x, unV b = x := ⟨_, rfl⟩
  rw [hU] at ob ⊢
  have ob : Oct h1 qb body.length body := ob
  conv => whnf
  refine ⟨_, rfl, ?_⟩
  conv => whnf
  refine ⟨_, rfl, ?_⟩
  conv => whnf
  refine ⟨_, rfl, ?_⟩
  conv => whnf
  refine br_mk (fun hx => ?_) (fun hx => ?_)
  · conv => whnf
    have hx : er ≠ 0 := by simpa using hx
    refine ⟨_, _, g0, Nat.le_of_ble_eq_true rfl, ?_⟩
    conv => whnf
    have ms := Mod.set (S := one h.next) (ob := .row true 6 grm0.cells) rfl g0 rfl
    have g0' := H.obj_set_same (ob' := .row true 6 grm0.cells) g0
    refine ⟨grm0.cells, Cells.mk g0' (Nat.le_of_ble_eq_true rfl) rfl, ?_⟩
    conv => whnf
    exact zero (z := .undef) (.inl ⟨by rw [hU]; exact hx, by rw [hU], rfl⟩) mm g0 ms
  conv => whnf
  have hx : er = 0 := by simpa using hx
  subst hx
  obtain ⟨i1, i2, bbd, i4, i5⟩ := un_inv bb hU
  have lx := Nat.le_refl body.length
  have kr : KnG body kd body false gparts := KnG.start bbd
  have h0n := h1.lt _ _ g0
  have hbd1 := Mod.push none_ h1 (.row true 2 [.sl qb body.length, .bool false])
  have r : Rdr (h1.push (.row true 2 [.sl qb body.length, .bool false])) h1.next body false := ⟨qb, _, H.obj_push_new _ _, ob.get hbd1⟩
  have g0 := hbd1.get g0 (.inl (fun k => k))
  have mm := mod_none mm hbd1
  have h0g : h.next ≠ h1.next := Nat.ne_of_lt h0n
  have hgo : ∀ i, i < h.next → one h1.next i → none_ i := fun i hi k => absurd hi (by unfold one at k; omega)
  clear hbd1 ob m1
  generalize hge : h1.next = g at *
  obtain ⟨hL, ehL⟩ : ∃ hL, h1.push (.row true 2 [.sl qb body.length, .bool false]) = hL := ⟨_, rfl⟩
  rw [ehL] at r g0 mm
  have ehL' : h1.push (.row true (T.at_ 46).size (vcells (V.agg (splice (vcells (T.at_ 46).zero) 0 (vcells (V.sl qb body.length)))))) = hL := ehL
  rw [ehL']
  have mp := Mod.push none_ hL (.row true 6 [i64 0, i64 0, i64 0, i64 0, i64 0, .sl none 0])
  have gm : (hL.push (.row true 6 [i64 0, i64 0, i64 0, i64 0, i64 0, .sl none 0])).obj hL.next = some (.row true 6 [i64 0, i64 0, i64 0, i64 0, i64 0, .sl none 0]) := H.obj_push_new _ _
  have h0b : h.next ≠ hL.next := Nat.ne_of_lt (hL.lt _ _ g0)
  have hlt : h.next < hL.next := hL.lt _ _ g0
  have hbm : ∀ i, i < h.next → one hL.next i → none_ i := fun i hi k => absurd hi (by unfold one at k; omega)
  have g0 := mp.get g0 (.inl (fun k => k))
  have hbg : hL.next ≠ g := Nat.ne_of_gt r.lt
  have r := r.get mp (fun k => k)
  have mm := mod_none mm mp
  clear mp
  refine ⟨_, _, gm, Nat.le_of_ble_eq_true rfl, ?_⟩
  have ms := Mod.set (S := one hL.next) (ob := .row true 6 [i64 0, i64 kd, i64 0, i64 0, i64 0, .sl none 0]) rfl gm rfl
  have g0 := ms.get g0 (.inl h0b)
  have gm := H.obj_set_same (ob' := .row true 6 [i64 0, i64 kd, i64 0, i64 0, i64 0, .sl none 0]) gm
  have r := r.get ms (fun k => hbg k.symm)
  have mm := mm.trans' ms (S2 := none_) (fun _ _ k => k) hbm
  clear ms
  generalize hbe : hL.next = bm at *
  conv => whnf
  refine br_mk (fun h1 => ?_) (fun h1 => ?_)
  conv => whnf
  simp at h1
  refine (num26 r (by omega) ((4 : Nat) : Int)).mono ?_
  rintro _ _ q
  obtain ⟨cn, xs, sp, rfl, kcn, bcn, r', kr', lx', mq, ycn⟩ := kr.num (k := 4) (by decide) (by decide) (R' := gtail) (val := fun m => m.cn) (fun m hm => rfl) q
  have gm := mq.get gm (.inl hbg)
  have g0 := mq.get g0 (.inl h0g)
  have mm := mm.trans' mq (S2 := none_) (fun _ _ k => k) hgo
  have r := r'
  have kr := kr'
  have lx := Nat.le_trans lx' lx
  clear r' kr' lx' q mq
  conv => whnf
  refine ⟨_, _, gm, Nat.le_of_ble_eq_true rfl, ?_⟩
  have ms := Mod.set (S := one bm) (ob := .row true 6 [i64 cn, i64 kd, i64 0, i64 0, i64 0, .sl none 0]) rfl gm rfl
  have g0 := ms.get g0 (.inl h0b)
  have gm := H.obj_set_same (ob' := .row true 6 [i64 cn, i64 kd, i64 0, i64 0, i64 0, .sl none 0]) gm
  have r := r.get ms (fun k => hbg k.symm)
  have mm := mm.trans' ms (S2 := none_) (fun _ _ k => k) hbm
  clear ms
  conv => whnf
  refine (num26 r (by omega) ((4 : Nat) : Int)).mono ?_
  rintro _ _ q
  obtain ⟨sq, xs, sp, rfl, ksq, bsq, r', kr', lx', mq, ysq⟩ := kr.num (k := 4) (by decide) (by decide) (R' := fun m => [(4, m.ak)]) (val := fun m => m.sq) (fun m hm => by have := hm.k; exact gtail_1 (by omega)) q
  have gm := mq.get gm (.inl hbg)
  have g0 := mq.get g0 (.inl h0g)
  have mm := mm.trans' mq (S2 := none_) (fun _ _ k => k) hgo
  have r := r'
  have kr := kr'
  have lx := Nat.le_trans lx' lx
  clear r' kr' lx' q mq
  conv => whnf
  refine ⟨_, _, gm, Nat.le_of_ble_eq_true rfl, ?_⟩
  have ms := Mod.set (S := one bm) (ob := .row true 6 [i64 cn, i64 kd, i64 sq, i64 0, i64 0, .sl none 0]) rfl gm rfl
  have g0 := ms.get g0 (.inl h0b)
  have gm := H.obj_set_same (ob' := .row true 6 [i64 cn, i64 kd, i64 sq, i64 0, i64 0, .sl none 0]) gm
  have r := r.get ms (fun k => hbg k.symm)
  have mm := mm.trans' ms (S2 := none_) (fun _ _ k => k) hbm
  clear ms
  conv => whnf
  refine (num26 r (by omega) ((4 : Nat) : Int)).mono ?_
  rintro _ _ q
  obtain ⟨ak, xs, sp, rfl, kak, bak, r', kr', lx', mq, yak⟩ := kr.num (k := 4) (by decide) (by decide) (R' := fun m => []) (val := fun m => m.ak) (fun m hm => rfl) q
  have gm := mq.get gm (.inl hbg)
  have g0 := mq.get g0 (.inl h0g)
  have mm := mm.trans' mq (S2 := none_) (fun _ _ k => k) hgo
  have r := r'
  have kr := kr'
  have lx := Nat.le_trans lx' lx
  clear r' kr' lx' q mq
  conv => whnf
  refine ⟨_, _, gm, Nat.le_of_ble_eq_true rfl, ?_⟩
  have ms := Mod.set (S := one bm) (ob := .row true 6 [i64 cn, i64 kd, i64 sq, i64 ak, i64 0, .sl none 0]) rfl gm rfl
  have g0 := ms.get g0 (.inl h0b)
  have gm := H.obj_set_same (ob' := .row true 6 [i64 cn, i64 kd, i64 sq, i64 ak, i64 0, .sl none 0]) gm
  have r := r.get ms (fun k => hbg k.symm)
  have mm := mm.trans' ms (S2 := none_) (fun _ _ k => k) hbm
  clear ms
  conv => whnf
  refine (left30 r).mono ?_
  rintro _ h' ⟨eh, rfl⟩
  subst h'
  conv => whnf
  refine (raw28 r (by omega) _).mono ?_
  rintro _ _ ⟨q, l, rfl, ob, r', mq⟩
  have hl := ob.len
  subst hl
  have gm := mq.get gm (.inl hbg)
  have g0 := mq.get g0 (.inl h0g)
  have mm := mm.trans' mq (S2 := none_) (fun _ _ k => k) hgo
  have r := r'
  obtain ⟨hv0, hv1⟩ := raw_left xs sp
  have hvb : Bts (rawV xs sp (leftV xs sp)) := raw_left_bts kr.bts
  have hvl : (rawV xs sp (leftV xs sp)).length ≤ xs.length := raw_left_len xs sp
  obtain ⟨rx, hrx⟩ : ∃ rx, rawX xs sp (leftV xs sp) = rx := ⟨_, rfl⟩
  obtain ⟨rs, hrs⟩ : ∃ rs, (!rawOk xs sp (leftV xs sp)) = rs := ⟨_, rfl⟩
  have r : Rdr _ g rx rs := rdr_eq hrx hrs r
  generalize hrv : rawV xs sp (leftV xs sp) = bd at *
  clear r' mq
  conv => whnf
  refine ⟨_, _, gm, Nat.le_of_ble_eq_true rfl, ?_⟩
  have ms := Mod.set (S := one bm) (ob := .row true 6 [i64 cn, i64 kd, i64 sq, i64 ak, i64 0, .sl q bd.length]) rfl gm rfl
  have g0 := ms.get g0 (.inl h0b)
  have gm := H.obj_set_same (ob' := .row true 6 [i64 cn, i64 kd, i64 sq, i64 ak, i64 0, .sl q bd.length]) gm
  have r := r.get ms (fun k => hbg k.symm)
  have mm := mm.trans' ms (S2 := none_) (fun _ _ k => k) hbm
  have ob := ob.get ms
  clear ms
  conv => whnf
  obtain ⟨m1, hm1⟩ : ∃ m1 : Grm, (⟨cn, kd, sq, ak, 0, q, bd⟩ : Grm) = m1 := ⟨_, rfl⟩
  have okm := okg_mk gm hm1 ⟨ob.is, hvb, by show bd.length ≤ 100000; omega⟩
  have gm := gm.trans (congrArg (fun x : Grm => some (Ab.Obj.row true 6 x.cells)) hm1)
  have c1 : m1.k ≠ 1 → m1.sq = 0 ∧ m1.bd = [] := by
    rw [← hm1]
    exact fun hh => absurd h1 hh
  have c2 : m1.k = 3 → m1.ak = 0 := by
    rw [← hm1]
    exact fun hh => absurd (h1.symm.trans hh) (by decide)
  have c3 : m1.k ≠ 3 → m1.cd = 0 := by
    rw [← hm1]
    exact fun _ => rfl
  have keq : ∀ m, EncG body kd m → eqG m m1 := by
    intro m hm
    rw [← hm1]
    have hkk := hm.k
    have hk3 : 1 ≤ m.k ∧ m.k ≤ 3 := by simpa [gknd] using hm.kn
    exact eqG.mk (kcn m hm) hkk.symm (ksq m hm) (kak m hm) (hm.c3 (by omega)).symm (by obtain ⟨t1, t2, _⟩ := kr.kn m hm; rw [gbody_1 (by omega)] at t2; exact (hv0 t1).trans t2)
  have hep0 : ∀ i o, m1.bp = some (i, o) → ¬ one h.next i ∨ m1.bd.length = 0 := by
    rw [← hm1]
    exact fun i o e => by
      rcases Nat.eq_zero_or_pos bd.length with z | z
      · exact .inr z
      · refine .inl (fun k => ?_)
        obtain ⟨_, _, rr, e1, e2, _⟩ := ob.2.resolve_left (by omega)
        have e : q = some (i, o) := e
        rw [e] at e1
        injection e1 with e1
        injection e1 with e1
        subst e1
        unfold one at k
        subst k
        rw [g0] at e2
        cases e2
  have rest : ∀ m, EncG body kd m → doneV rx rs = true := fun m hm => by
    have hkk := hm.k
    obtain ⟨t1, t2, _⟩ := kr.kn m hm
    have hv1 := hv1 t1
    rw [← hrx, ← hrs, hv1.1, hv1.2]
    rfl
  have acc : doneV rx rs = true → EncG body kd m1 := fun hd => by
    simp only [doneV, Bool.and_eq_true, Bool.not_eq_true', List.isEmpty_iff] at hd
    obtain ⟨d1, d2⟩ := hd
    have s3 : sp = false := by
      rw [← hrs] at d1
      cases hsp : sp with
      | false => rfl
      | true =>
        rw [hsp] at d1
        simp [rawOk] at d1
    have hbd := hv0 s3
    obtain ⟨sak, eak⟩ := yak s3
    obtain ⟨ssq, esq⟩ := ysq sak
    obtain ⟨scn, ecn⟩ := ycn ssq
    rw [← hm1]
    refine ⟨rfl, by rw [gknd, decide_eq_true]; show 1 ≤ kd ∧ kd ≤ 3; omega, ?_, ?_, ?_, ?_, ?_⟩
    · rw [gparts, gtail_1 (m := (⟨cn, kd, sq, ak, 0, q, bd⟩ : Grm)) h1]
      simp only [fitP, List.all_cons, List.all_nil, Bool.and_true, Bool.and_eq_true, decide_eq_true_eq]
      exact ⟨bcn, bsq, bak⟩
    · rw [gpay, gparts, gtail_1 (m := (⟨cn, kd, sq, ak, 0, q, bd⟩ : Grm)) h1, gbody_1 (m := (⟨cn, kd, sq, ak, 0, q, bd⟩ : Grm)) h1]
      rw [ecn, esq, eak]
      simp only [bytesP, List.flatMap_cons, List.flatMap_nil, List.append_nil, List.append_assoc]
      rw [hbd]
    · rw [hm1]
      exact c1
    · rw [hm1]
      exact c2
    · rw [hm1]
      exact c3
  clear hm1
  rotate_left
  conv => whnf
  refine br_mk (fun h2 => ?_) (fun h2 => ?_)
  conv => whnf
  simp at h2
  refine (num26 r (by omega) ((4 : Nat) : Int)).mono ?_
  rintro _ _ q
  obtain ⟨cn, xs, sp, rfl, kcn, bcn, r', kr', lx', mq, ycn⟩ := kr.num (k := 4) (by decide) (by decide) (R' := gtail) (val := fun m => m.cn) (fun m hm => rfl) q
  have gm := mq.get gm (.inl hbg)
  have g0 := mq.get g0 (.inl h0g)
  have mm := mm.trans' mq (S2 := none_) (fun _ _ k => k) hgo
  have r := r'
  have kr := kr'
  have lx := Nat.le_trans lx' lx
  clear r' kr' lx' q mq
  conv => whnf
  refine ⟨_, _, gm, Nat.le_of_ble_eq_true rfl, ?_⟩
  have ms := Mod.set (S := one bm) (ob := .row true 6 [i64 cn, i64 kd, i64 0, i64 0, i64 0, .sl none 0]) rfl gm rfl
  have g0 := ms.get g0 (.inl h0b)
  have gm := H.obj_set_same (ob' := .row true 6 [i64 cn, i64 kd, i64 0, i64 0, i64 0, .sl none 0]) gm
  have r := r.get ms (fun k => hbg k.symm)
  have mm := mm.trans' ms (S2 := none_) (fun _ _ k => k) hbm
  clear ms
  conv => whnf
  refine (num26 r (by omega) ((4 : Nat) : Int)).mono ?_
  rintro _ _ q
  obtain ⟨ak, xs, sp, rfl, kak, bak, r', kr', lx', mq, yak⟩ := kr.num (k := 4) (by decide) (by decide) (R' := fun m => []) (val := fun m => m.ak) (fun m hm => by have := hm.k; exact gtail_2 (by omega)) q
  have gm := mq.get gm (.inl hbg)
  have g0 := mq.get g0 (.inl h0g)
  have mm := mm.trans' mq (S2 := none_) (fun _ _ k => k) hgo
  have r := r'
  have kr := kr'
  have lx := Nat.le_trans lx' lx
  clear r' kr' lx' q mq
  conv => whnf
  refine ⟨_, _, gm, Nat.le_of_ble_eq_true rfl, ?_⟩
  have ms := Mod.set (S := one bm) (ob := .row true 6 [i64 cn, i64 kd, i64 0, i64 ak, i64 0, .sl none 0]) rfl gm rfl
  have g0 := ms.get g0 (.inl h0b)
  have gm := H.obj_set_same (ob' := .row true 6 [i64 cn, i64 kd, i64 0, i64 ak, i64 0, .sl none 0]) gm
  have r := r.get ms (fun k => hbg k.symm)
  have mm := mm.trans' ms (S2 := none_) (fun _ _ k => k) hbm
  clear ms
  conv => whnf
  obtain ⟨rx, hrx⟩ : ∃ rx, xs = rx := ⟨_, rfl⟩
  obtain ⟨rs, hrs⟩ : ∃ rs, sp = rs := ⟨_, rfl⟩
  have r : Rdr _ g rx rs := rdr_eq hrx hrs r
  obtain ⟨m1, hm1⟩ : ∃ m1 : Grm, (⟨cn, kd, 0, ak, 0, none, []⟩ : Grm) = m1 := ⟨_, rfl⟩
  have okm := okg_mk gm hm1 ⟨SlIs.nil _ _ _, fun _ k => (by cases k), Nat.zero_le _⟩
  have gm := gm.trans (congrArg (fun x : Grm => some (Ab.Obj.row true 6 x.cells)) hm1)
  have c1 : m1.k ≠ 1 → m1.sq = 0 ∧ m1.bd = [] := by
    rw [← hm1]
    exact fun _ => ⟨rfl, rfl⟩
  have c2 : m1.k = 3 → m1.ak = 0 := by
    rw [← hm1]
    exact fun hh => absurd (h2.symm.trans hh) (by decide)
  have c3 : m1.k ≠ 3 → m1.cd = 0 := by
    rw [← hm1]
    exact fun _ => rfl
  have keq : ∀ m, EncG body kd m → eqG m m1 := by
    intro m hm
    rw [← hm1]
    have hkk := hm.k
    have hk3 : 1 ≤ m.k ∧ m.k ≤ 3 := by simpa [gknd] using hm.kn
    exact eqG.mk (kcn m hm) hkk.symm (hm.c1 (by omega)).1.symm (kak m hm) (hm.c3 (by omega)).symm (hm.c1 (by omega)).2.symm
  have hep0 : ∀ i o, m1.bp = some (i, o) → ¬ one h.next i ∨ m1.bd.length = 0 := by
    rw [← hm1]
    exact fun i o e => (by cases e)
  have rest : ∀ m, EncG body kd m → doneV rx rs = true := fun m hm => by
    have hkk := hm.k
    obtain ⟨t1, t2, _⟩ := kr.kn m hm
    rw [gbody_n (by omega)] at t2
    rw [← hrx, ← hrs, t1, t2]
    rfl
  have acc : doneV rx rs = true → EncG body kd m1 := fun hd => by
    simp only [doneV, Bool.and_eq_true, Bool.not_eq_true', List.isEmpty_iff] at hd
    obtain ⟨d1, d2⟩ := hd
    have s3 : sp = false := hrs.trans d1
    have hx0 : xs = [] := hrx.trans d2
    obtain ⟨sak, eak⟩ := yak s3
    obtain ⟨scn, ecn⟩ := ycn sak
    rw [← hm1]
    refine ⟨rfl, by rw [gknd, decide_eq_true]; show 1 ≤ kd ∧ kd ≤ 3; omega, ?_, ?_, ?_, ?_, ?_⟩
    · rw [gparts, gtail_2 (m := (⟨cn, kd, 0, ak, 0, none, []⟩ : Grm)) h2]
      simp only [fitP, List.all_cons, List.all_nil, Bool.and_true, Bool.and_eq_true, decide_eq_true_eq]
      exact ⟨bcn, bak⟩
    · rw [gpay, gparts, gtail_2 (m := (⟨cn, kd, 0, ak, 0, none, []⟩ : Grm)) h2, gbody_n (m := (⟨cn, kd, 0, ak, 0, none, []⟩ : Grm)) (show kd ≠ 1 by omega)]
      rw [ecn, eak]
      simp only [bytesP, List.flatMap_cons, List.flatMap_nil, List.append_nil]
      rw [hx0, List.append_nil]
    · rw [hm1]
      exact c1
    · rw [hm1]
      exact c2
    · rw [hm1]
      exact c3
  clear hm1
  rotate_left
  conv => whnf
  refine br_mk (fun h3 => ?_) (fun h3 => ?_)
  conv => whnf
  simp at h3
  refine (num26 r (by omega) ((4 : Nat) : Int)).mono ?_
  rintro _ _ q
  obtain ⟨cn, xs, sp, rfl, kcn, bcn, r', kr', lx', mq, ycn⟩ := kr.num (k := 4) (by decide) (by decide) (R' := gtail) (val := fun m => m.cn) (fun m hm => rfl) q
  have gm := mq.get gm (.inl hbg)
  have g0 := mq.get g0 (.inl h0g)
  have mm := mm.trans' mq (S2 := none_) (fun _ _ k => k) hgo
  have r := r'
  have kr := kr'
  have lx := Nat.le_trans lx' lx
  clear r' kr' lx' q mq
  conv => whnf
  refine ⟨_, _, gm, Nat.le_of_ble_eq_true rfl, ?_⟩
  have ms := Mod.set (S := one bm) (ob := .row true 6 [i64 cn, i64 kd, i64 0, i64 0, i64 0, .sl none 0]) rfl gm rfl
  have g0 := ms.get g0 (.inl h0b)
  have gm := H.obj_set_same (ob' := .row true 6 [i64 cn, i64 kd, i64 0, i64 0, i64 0, .sl none 0]) gm
  have r := r.get ms (fun k => hbg k.symm)
  have mm := mm.trans' ms (S2 := none_) (fun _ _ k => k) hbm
  clear ms
  conv => whnf
  refine (num26 r (by omega) ((1 : Nat) : Int)).mono ?_
  rintro _ _ q
  obtain ⟨cd, xs, sp, rfl, kcd, bcd, r', kr', lx', mq, ycd⟩ := kr.num (k := 1) (by decide) (by decide) (R' := fun m => []) (val := fun m => m.cd) (fun m hm => by have := hm.k; exact gtail_3 (by omega)) q
  have gm := mq.get gm (.inl hbg)
  have g0 := mq.get g0 (.inl h0g)
  have mm := mm.trans' mq (S2 := none_) (fun _ _ k => k) hgo
  have r := r'
  have kr := kr'
  have lx := Nat.le_trans lx' lx
  clear r' kr' lx' q mq
  conv => whnf
  refine ⟨_, _, gm, Nat.le_of_ble_eq_true rfl, ?_⟩
  have ms := Mod.set (S := one bm) (ob := .row true 6 [i64 cn, i64 kd, i64 0, i64 0, i64 cd, .sl none 0]) rfl gm rfl
  have g0 := ms.get g0 (.inl h0b)
  have gm := H.obj_set_same (ob' := .row true 6 [i64 cn, i64 kd, i64 0, i64 0, i64 cd, .sl none 0]) gm
  have r := r.get ms (fun k => hbg k.symm)
  have mm := mm.trans' ms (S2 := none_) (fun _ _ k => k) hbm
  clear ms
  conv => whnf
  obtain ⟨rx, hrx⟩ : ∃ rx, xs = rx := ⟨_, rfl⟩
  obtain ⟨rs, hrs⟩ : ∃ rs, sp = rs := ⟨_, rfl⟩
  have r : Rdr _ g rx rs := rdr_eq hrx hrs r
  obtain ⟨m1, hm1⟩ : ∃ m1 : Grm, (⟨cn, kd, 0, 0, cd, none, []⟩ : Grm) = m1 := ⟨_, rfl⟩
  have okm := okg_mk gm hm1 ⟨SlIs.nil _ _ _, fun _ k => (by cases k), Nat.zero_le _⟩
  have gm := gm.trans (congrArg (fun x : Grm => some (Ab.Obj.row true 6 x.cells)) hm1)
  have c1 : m1.k ≠ 1 → m1.sq = 0 ∧ m1.bd = [] := by
    rw [← hm1]
    exact fun _ => ⟨rfl, rfl⟩
  have c2 : m1.k = 3 → m1.ak = 0 := by
    rw [← hm1]
    exact fun _ => rfl
  have c3 : m1.k ≠ 3 → m1.cd = 0 := by
    rw [← hm1]
    exact fun hh => absurd h3 hh
  have keq : ∀ m, EncG body kd m → eqG m m1 := by
    intro m hm
    rw [← hm1]
    have hkk := hm.k
    have hk3 : 1 ≤ m.k ∧ m.k ≤ 3 := by simpa [gknd] using hm.kn
    exact eqG.mk (kcn m hm) hkk.symm (hm.c1 (by omega)).1.symm (hm.c2 (by omega)).symm (kcd m hm) (hm.c1 (by omega)).2.symm
  have hep0 : ∀ i o, m1.bp = some (i, o) → ¬ one h.next i ∨ m1.bd.length = 0 := by
    rw [← hm1]
    exact fun i o e => (by cases e)
  have rest : ∀ m, EncG body kd m → doneV rx rs = true := fun m hm => by
    have hkk := hm.k
    obtain ⟨t1, t2, _⟩ := kr.kn m hm
    rw [gbody_n (by omega)] at t2
    rw [← hrx, ← hrs, t1, t2]
    rfl
  have acc : doneV rx rs = true → EncG body kd m1 := fun hd => by
    simp only [doneV, Bool.and_eq_true, Bool.not_eq_true', List.isEmpty_iff] at hd
    obtain ⟨d1, d2⟩ := hd
    have s3 : sp = false := hrs.trans d1
    have hx0 : xs = [] := hrx.trans d2
    obtain ⟨scd, ecd⟩ := ycd s3
    obtain ⟨scn, ecn⟩ := ycn scd
    rw [← hm1]
    refine ⟨rfl, by rw [gknd, decide_eq_true]; show 1 ≤ kd ∧ kd ≤ 3; omega, ?_, ?_, ?_, ?_, ?_⟩
    · rw [gparts, gtail_3 (m := (⟨cn, kd, 0, 0, cd, none, []⟩ : Grm)) h3]
      simp only [fitP, List.all_cons, List.all_nil, Bool.and_true, Bool.and_eq_true, decide_eq_true_eq]
      exact ⟨bcn, bcd⟩
    · rw [gpay, gparts, gtail_3 (m := (⟨cn, kd, 0, 0, cd, none, []⟩ : Grm)) h3, gbody_n (m := (⟨cn, kd, 0, 0, cd, none, []⟩ : Grm)) (show kd ≠ 1 by omega)]
      rw [ecn, ecd]
      simp only [bytesP, List.flatMap_cons, List.flatMap_nil, List.append_nil]
      rw [hx0, List.append_nil]
    · rw [hm1]
      exact c1
    · rw [hm1]
      exact c2
    · rw [hm1]
      exact c3
  clear hm1
  rotate_left
  conv => whnf
  simp at h1 h2 h3
  have hno : ∀ m, ¬ EncG body kd m := fun m hm => by
    have hkk := hm.k
    have hk3 : 1 ≤ m.k ∧ m.k ≤ 3 := by simpa [gknd] using hm.kn
    omega
  refine ⟨_, _, g0, Nat.le_of_ble_eq_true rfl, ?_⟩
  conv => whnf
  have ms := Mod.set (S := one h.next) (ob := .row true 6 grm0.cells) rfl g0 rfl
  have g0' := H.obj_set_same (ob' := .row true 6 grm0.cells) g0
  refine ⟨grm0.cells, Cells.mk g0' (Nat.le_of_ble_eq_true rfl) rfl, ?_⟩
  conv => whnf
  exact zero (z := .undef) (.inr ⟨by rw [hU], .inr ⟨rfl, rfl, by rw [hU]; exact hno⟩⟩) mm g0 ms
  all_goals
    refine (done32 r).mono ?_
    rintro _ h' ⟨eh, rfl⟩
    subst h'
    conv => whnf
    refine br_mk (fun hx => ?_) (fun hx => ?_)
    · conv => whnf
      have hx : doneV rx rs = false := by simpa using hx
      have hno : ∀ m, ¬ EncG body kd m := fun m hm => by
        have := rest m hm
        rw [hx] at this
        cases this
      refine ⟨_, _, g0, Nat.le_of_ble_eq_true rfl, ?_⟩
      conv => whnf
      have ms := Mod.set (S := one h.next) (ob := .row true 6 grm0.cells) rfl g0 rfl
      have g0' := H.obj_set_same (ob' := .row true 6 grm0.cells) g0
      refine ⟨grm0.cells, Cells.mk g0' (Nat.le_of_ble_eq_true rfl) rfl, ?_⟩
      conv => whnf
      exact zero (z := .undef) (.inr ⟨by rw [hU], .inr ⟨rfl, rfl, by rw [hU]; exact hno⟩⟩) mm g0 ms
    conv => whnf
    have hx : doneV rx rs = true := by simpa using hx
    have he := acc hx
    refine ⟨m1.cells, Cells.mk gm (Nat.le_of_ble_eq_true rfl) rfl, ?_⟩
    conv => whnf
    refine ⟨_, _, g0, Nat.le_of_ble_eq_true rfl, ?_⟩
    conv => whnf
    have ms := Mod.set (S := one h.next) (ob := .row true 6 m1.cells) rfl g0 rfl
    have gm2 := H.obj_set_same (ob' := .row true 6 m1.cells) g0
    refine ⟨m1.cells, Cells.mk gm2 (Nat.le_of_ble_eq_true rfl) rfl, ?_⟩
    conv => whnf
    exact ⟨m1, 0, rfl, okm.by ms hep0, mm.trans' ms (S2 := none_) (fun _ _ k => k) hbo, .inr ⟨by rw [hU], .inl ⟨rfl, by rw [hU]; exact he, by rw [hU]; exact keq⟩⟩⟩
end Go.Proofs.Ytnpfdppmpmnhbaa
