/- Messages: Decode of the reference. -/
import Derived.Test.YtnpfdppmpmnhbaaS36
set_option linter.unusedVariables false
namespace Go.Proofs.Ytnpfdppmpmnhbaa
open Go Go.Ab
def DecR (b : List Int) (h : H) (r : V) (h' : H) : Prop := ∃ (m1 : Msg) (ok : Bool), r = .tup [.agg m1.cells, .bool ok] ∧ m1.ok h' ∧ Ab.Mod none_ h h' ∧ DecA b m1 ok
theorem dec44 {h : H} {p : Option (Nat × Nat)} {n : Nat} {b : List Int} (o : Oct h p n b) (bb : Bts b) (hn : n ≤ 100000) : ACalls Try.prog 44 [.sl p n] h (DecR b h) := by
  have hl := o.len
  subst hl
  refine call_ Try.func44 rfl rfl (by kernel_rfl) ?_
  conv => whnf
  have mm := Mod.push none_ h (.row true 9 [i64 0, i64 0, i64 0, .sl none 0, i64 0, i64 0, i64 0, i64 0, i64 0])
  have g0 : (h.push (.row true 9 [i64 0, i64 0, i64 0, .sl none 0, i64 0, i64 0, i64 0, i64 0, i64 0])).obj h.next = some (.row true 9 [i64 0, i64 0, i64 0, .sl none 0, i64 0, i64 0, i64 0, i64 0, i64 0]) := H.obj_push_new _ _
  have m2 := Mod.push none_ (h.push (.row true 9 [i64 0, i64 0, i64 0, .sl none 0, i64 0, i64 0, i64 0, i64 0, i64 0])) (.row true 2 [.sl p b.length, .bool false])
  have r : Rdr ((h.push (.row true 9 [i64 0, i64 0, i64 0, .sl none 0, i64 0, i64 0, i64 0, i64 0, i64 0])).push (.row true 2 [.sl p b.length, .bool false])) (h.next + 1) b false := ⟨p, _, H.obj_push_new _ _, (o.get mm).get m2⟩
  have g0 := m2.get g0 (.inl (fun k => k))
  have mm := mod_none mm m2
  have hg : h.next < h.next + 1 := Nat.lt_succ_self _
  clear m2
  have hbo : ∀ i, i < h.next → one h.next i → none_ i := fun i hi k => absurd hi (by unfold one at k; omega)
  have kr := KnR.start bb
  have lx := Nat.le_refl b.length
  refine (num26 r (by omega) ((1 : Nat) : Int)).mono ?_
  rintro _ h1 q
  have hgo : ∀ i, i < h.next → one (h.next + 1) i → none_ i := fun i hi k => absurd hi (by unfold one at k; omega)
  have h0g : h.next ≠ h.next + 1 := Nat.ne_of_lt hg
  obtain ⟨kk, xs, sp, rfl, kkk, bkk, r', kr', lx', mq⟩ := kr.num (k := 1) (by decide) (by decide) (R' := tailP) (val := fun m => m.k) (fun m hm => rfl) q
  have g0 := mq.get g0 (.inl h0g)
  have mm := mm.trans' mq (S2 := none_) (fun _ _ k => k) hgo
  have r := r'
  have kr := kr'
  have lx := Nat.le_trans lx' lx
  clear r' kr' lx' q mq
  conv => whnf
  have mp := Mod.push none_ h1 (.row true 9 [i64 0, i64 0, i64 0, .sl none 0, i64 0, i64 0, i64 0, i64 0, i64 0])
  have gm : (h1.push (.row true 9 [i64 0, i64 0, i64 0, .sl none 0, i64 0, i64 0, i64 0, i64 0, i64 0])).obj h1.next = some (.row true 9 [i64 0, i64 0, i64 0, .sl none 0, i64 0, i64 0, i64 0, i64 0, i64 0]) := H.obj_push_new _ _
  have hbg : h1.next ≠ h.next + 1 := Nat.ne_of_gt r.lt
  have h0b : h.next ≠ h1.next := Nat.ne_of_lt (h1.lt _ _ g0)
  have hlt : h.next < h1.next := h1.lt _ _ g0
  have hbm : ∀ i, i < h.next → one h1.next i → none_ i := fun i hi k => absurd hi (by unfold one at k; omega)
  have g0 := mp.get g0 (.inl (fun k => k))
  have r := r.get mp (fun k => k)
  have mm := mod_none mm mp
  clear mp
  refine ⟨_, _, gm, Nat.le_of_ble_eq_true rfl, ?_⟩
  have ms := Mod.set (S := one h1.next) (ob := .row true 9 [i64 kk, i64 0, i64 0, .sl none 0, i64 0, i64 0, i64 0, i64 0, i64 0]) rfl gm rfl
  have g0 := ms.get g0 (.inl h0b)
  have gm := H.obj_set_same (ob' := .row true 9 [i64 kk, i64 0, i64 0, .sl none 0, i64 0, i64 0, i64 0, i64 0, i64 0]) gm
  have r := r.get ms (fun k => hbg k.symm)
  have mm := mm.trans' ms (S2 := none_) (fun _ _ k => k) hbm
  clear ms
  generalize hbe : h1.next = bm at *
  conv => whnf
  refine ⟨_, Cell.mk gm rfl, ?_⟩
  conv => whnf
  refine br_mk (fun h1 => ?_) (fun h1 => ?_)
  conv => whnf
  simp at h1
  refine (num26 r (by omega) ((2 : Nat) : Int)).mono ?_
  rintro _ _ q
  obtain ⟨np, xs, sp, rfl, knp, bnp, r', kr', lx', mq⟩ := kr.num (k := 2) (by decide) (by decide) (R' := fun m => (2, m.d) :: []) (val := fun m => m.p) (fun m hm => by have := kkk m hm; exact tailP_1 (by omega)) q
  have gm := mq.get gm (.inl hbg)
  have g0 := mq.get g0 (.inl h0g)
  have mm := mm.trans' mq (S2 := none_) (fun _ _ k => k) hgo
  have r := r'
  have kr := kr'
  have lx := Nat.le_trans lx' lx
  clear r' kr' lx' q mq
  conv => whnf
  refine ⟨_, _, gm, Nat.le_of_ble_eq_true rfl, ?_⟩
  have ms := Mod.set (S := one bm) (ob := .row true 9 [i64 kk, i64 np, i64 0, .sl none 0, i64 0, i64 0, i64 0, i64 0, i64 0]) rfl gm rfl
  have g0 := ms.get g0 (.inl h0b)
  have gm := H.obj_set_same (ob' := .row true 9 [i64 kk, i64 np, i64 0, .sl none 0, i64 0, i64 0, i64 0, i64 0, i64 0]) gm
  have r := r.get ms (fun k => hbg k.symm)
  have mm := mm.trans' ms (S2 := none_) (fun _ _ k => k) hbm
  clear ms
  conv => whnf
  refine (num26 r (by omega) ((2 : Nat) : Int)).mono ?_
  rintro _ _ q
  obtain ⟨nd, xs, sp, rfl, knd, bnd, r', kr', lx', mq⟩ := kr.num (k := 2) (by decide) (by decide) (R' := fun m => []) (val := fun m => m.d) (fun m hm => rfl) q
  have gm := mq.get gm (.inl hbg)
  have g0 := mq.get g0 (.inl h0g)
  have mm := mm.trans' mq (S2 := none_) (fun _ _ k => k) hgo
  have r := r'
  have kr := kr'
  have lx := Nat.le_trans lx' lx
  clear r' kr' lx' q mq
  conv => whnf
  refine ⟨_, _, gm, Nat.le_of_ble_eq_true rfl, ?_⟩
  have ms := Mod.set (S := one bm) (ob := .row true 9 [i64 kk, i64 np, i64 nd, .sl none 0, i64 0, i64 0, i64 0, i64 0, i64 0]) rfl gm rfl
  have g0 := ms.get g0 (.inl h0b)
  have gm := H.obj_set_same (ob' := .row true 9 [i64 kk, i64 np, i64 nd, .sl none 0, i64 0, i64 0, i64 0, i64 0, i64 0]) gm
  have r := r.get ms (fun k => hbg k.symm)
  have mm := mm.trans' ms (S2 := none_) (fun _ _ k => k) hbm
  clear ms
  conv => whnf
  obtain ⟨m1, hm1⟩ : ∃ m1 : Msg, (⟨kk, np, nd, none, [], 0, 0, 0, 0, 0⟩ : Msg) = m1 := ⟨_, rfl⟩
  have okm := okm_mk gm hm1 ⟨SlIs.nil _ _ _, lo0, hi0, Nat.zero_le _⟩
  have gm := gm.trans (congrArg (fun x : Msg => some (Ab.Obj.row true 9 x.cells)) hm1)
  have hep : ∀ i o, m1.ep = some (i, o) → i ≠ h.next ∧ i ≠ bm := by
    rw [← hm1]
    exact fun i o e => by cases e
  have can : Canon m1 := by
    rw [← hm1]
    exact ⟨fun _ => ⟨rfl, rfl⟩, fun _ => ⟨rfl, rfl, rfl, rfl⟩, fun hh => absurd h1 hh, fun hh _ _ => absurd h1 hh⟩
  have keq : ∀ m, Enc b m → eqM m m1 := by
    intro m hm
    rw [← hm1]
    have hc := hm.can
    have hkk := kkk m hm
    exact eqM.mk hkk (knp m hm) (knd m hm) (hc.r (by omega)).1.symm (hc.r (by omega)).2.symm (hc.n (by omega)).1.symm (hc.n (by omega)).2.1.symm (hc.n (by omega)).2.2.1.symm (hc.n (by omega)).2.2.2.symm
  clear hm1
  have rest : ∀ m, Enc b m → doneV xs sp = true := fun m hm => by
    have hkk := kkk m hm
    obtain ⟨t1, t2, _⟩ := kr.kn m hm
    skip
    rw [t1, t2]
    rfl
  rotate_left
  conv => whnf
  refine br_mk (fun h2 => ?_) (fun h2 => ?_)
  conv => whnf
  simp at h2
  refine br_mk (fun _ => ?_) (fun hz => absurd hz (by simp [h2]))
  conv => whnf
  refine (num26 r (by omega) ((2 : Nat) : Int)).mono ?_
  rintro _ _ q
  obtain ⟨np, xs, sp, rfl, knp, bnp, r', kr', lx', mq⟩ := kr.num (k := 2) (by decide) (by decide) (R' := fun m => []) (val := fun m => m.p) (fun m hm => by have := kkk m hm; exact tailP_2 (.inl (by omega))) q
  have gm := mq.get gm (.inl hbg)
  have g0 := mq.get g0 (.inl h0g)
  have mm := mm.trans' mq (S2 := none_) (fun _ _ k => k) hgo
  have r := r'
  have kr := kr'
  have lx := Nat.le_trans lx' lx
  clear r' kr' lx' q mq
  conv => whnf
  refine ⟨_, _, gm, Nat.le_of_ble_eq_true rfl, ?_⟩
  have ms := Mod.set (S := one bm) (ob := .row true 9 [i64 kk, i64 np, i64 0, .sl none 0, i64 0, i64 0, i64 0, i64 0, i64 0]) rfl gm rfl
  have g0 := ms.get g0 (.inl h0b)
  have gm := H.obj_set_same (ob' := .row true 9 [i64 kk, i64 np, i64 0, .sl none 0, i64 0, i64 0, i64 0, i64 0, i64 0]) gm
  have r := r.get ms (fun k => hbg k.symm)
  have mm := mm.trans' ms (S2 := none_) (fun _ _ k => k) hbm
  clear ms
  conv => whnf
  obtain ⟨m1, hm1⟩ : ∃ m1 : Msg, (⟨kk, np, 0, none, [], 0, 0, 0, 0, 0⟩ : Msg) = m1 := ⟨_, rfl⟩
  have okm := okm_mk gm hm1 ⟨SlIs.nil _ _ _, lo0, hi0, Nat.zero_le _⟩
  have gm := gm.trans (congrArg (fun x : Msg => some (Ab.Obj.row true 9 x.cells)) hm1)
  have hep : ∀ i o, m1.ep = some (i, o) → i ≠ h.next ∧ i ≠ bm := by
    rw [← hm1]
    exact fun i o e => by cases e
  have can : Canon m1 := by
    rw [← hm1]
    exact ⟨fun _ => ⟨rfl, rfl⟩, fun _ => ⟨rfl, rfl, rfl, rfl⟩, fun _ => rfl, fun _ hh _ => absurd h2 hh⟩
  have keq : ∀ m, Enc b m → eqM m m1 := by
    intro m hm
    rw [← hm1]
    have hc := hm.can
    have hkk := kkk m hm
    exact eqM.mk hkk (knp m hm) (hc.d (by omega)).symm (hc.r (by omega)).1.symm (hc.r (by omega)).2.symm (hc.n (by omega)).1.symm (hc.n (by omega)).2.1.symm (hc.n (by omega)).2.2.1.symm (hc.n (by omega)).2.2.2.symm
  clear hm1
  have rest : ∀ m, Enc b m → doneV xs sp = true := fun m hm => by
    have hkk := kkk m hm
    obtain ⟨t1, t2, _⟩ := kr.kn m hm
    skip
    rw [t1, t2]
    rfl
  rotate_left
  conv => whnf
  refine br_mk (fun h9 => ?_) (fun h9 => ?_)
  conv => whnf
  simp at h9
  refine (num26 r (by omega) ((2 : Nat) : Int)).mono ?_
  rintro _ _ q
  obtain ⟨np, xs, sp, rfl, knp, bnp, r', kr', lx', mq⟩ := kr.num (k := 2) (by decide) (by decide) (R' := fun m => []) (val := fun m => m.p) (fun m hm => by have := kkk m hm; exact tailP_2 (.inr (by omega))) q
  have gm := mq.get gm (.inl hbg)
  have g0 := mq.get g0 (.inl h0g)
  have mm := mm.trans' mq (S2 := none_) (fun _ _ k => k) hgo
  have r := r'
  have kr := kr'
  have lx := Nat.le_trans lx' lx
  clear r' kr' lx' q mq
  conv => whnf
  refine ⟨_, _, gm, Nat.le_of_ble_eq_true rfl, ?_⟩
  have ms := Mod.set (S := one bm) (ob := .row true 9 [i64 kk, i64 np, i64 0, .sl none 0, i64 0, i64 0, i64 0, i64 0, i64 0]) rfl gm rfl
  have g0 := ms.get g0 (.inl h0b)
  have gm := H.obj_set_same (ob' := .row true 9 [i64 kk, i64 np, i64 0, .sl none 0, i64 0, i64 0, i64 0, i64 0, i64 0]) gm
  have r := r.get ms (fun k => hbg k.symm)
  have mm := mm.trans' ms (S2 := none_) (fun _ _ k => k) hbm
  clear ms
  conv => whnf
  obtain ⟨m1, hm1⟩ : ∃ m1 : Msg, (⟨kk, np, 0, none, [], 0, 0, 0, 0, 0⟩ : Msg) = m1 := ⟨_, rfl⟩
  have okm := okm_mk gm hm1 ⟨SlIs.nil _ _ _, lo0, hi0, Nat.zero_le _⟩
  have gm := gm.trans (congrArg (fun x : Msg => some (Ab.Obj.row true 9 x.cells)) hm1)
  have hep : ∀ i o, m1.ep = some (i, o) → i ≠ h.next ∧ i ≠ bm := by
    rw [← hm1]
    exact fun i o e => by cases e
  have can : Canon m1 := by
    rw [← hm1]
    exact ⟨fun _ => ⟨rfl, rfl⟩, fun _ => ⟨rfl, rfl, rfl, rfl⟩, fun _ => rfl, fun _ _ hh => absurd h9 hh⟩
  have keq : ∀ m, Enc b m → eqM m m1 := by
    intro m hm
    rw [← hm1]
    have hc := hm.can
    have hkk := kkk m hm
    exact eqM.mk hkk (knp m hm) (hc.d (by omega)).symm (hc.r (by omega)).1.symm (hc.r (by omega)).2.symm (hc.n (by omega)).1.symm (hc.n (by omega)).2.1.symm (hc.n (by omega)).2.2.1.symm (hc.n (by omega)).2.2.2.symm
  clear hm1
  have rest : ∀ m, Enc b m → doneV xs sp = true := fun m hm => by
    have hkk := kkk m hm
    obtain ⟨t1, t2, _⟩ := kr.kn m hm
    skip
    rw [t1, t2]
    rfl
  rotate_left
  conv => whnf
  refine br_mk (fun h5 => ?_) (fun h5 => ?_)
  conv => whnf
  simp at h5
  refine (num26 r (by omega) ((5 : Nat) : Int)).mono ?_
  rintro _ _ q
  obtain ⟨nw, xs, sp, rfl, knw, bnw, r', kr', lx', mq⟩ := kr.num (k := 5) (by decide) (by decide) (R' := fun m => (2, (m.es.length : Int)) :: m.es.map fun v => (2, v)) (val := fun m => m.w) (fun m hm => by have := kkk m hm; exact tailP_5 (by omega)) q
  have gm := mq.get gm (.inl hbg)
  have g0 := mq.get g0 (.inl h0g)
  have mm := mm.trans' mq (S2 := none_) (fun _ _ k => k) hgo
  have r := r'
  have kr := kr'
  have lx := Nat.le_trans lx' lx
  clear r' kr' lx' q mq
  conv => whnf
  refine ⟨_, _, gm, Nat.le_of_ble_eq_true rfl, ?_⟩
  have ms := Mod.set (S := one bm) (ob := .row true 9 [i64 kk, i64 0, i64 0, .sl none 0, i64 nw, i64 0, i64 0, i64 0, i64 0]) rfl gm rfl
  have g0 := ms.get g0 (.inl h0b)
  have gm := H.obj_set_same (ob' := .row true 9 [i64 kk, i64 0, i64 0, .sl none 0, i64 nw, i64 0, i64 0, i64 0, i64 0]) gm
  have r := r.get ms (fun k => hbg k.symm)
  have mm := mm.trans' ms (S2 := none_) (fun _ _ k => k) hbm
  clear ms
  conv => whnf
  refine (num26 r (by omega) ((2 : Nat) : Int)).mono ?_
  rintro _ _ q
  obtain ⟨nn, xs, sp, rfl, knn, bnn, r', kr', lx', mq⟩ := kr.num (k := 2) (by decide) (by decide) (R' := fun m => m.es.map fun v => (2, v)) (val := fun m => (m.es.length : Int)) (fun m hm => rfl) q
  have gm := mq.get gm (.inl hbg)
  have g0 := mq.get g0 (.inl h0g)
  have mm := mm.trans' mq (S2 := none_) (fun _ _ k => k) hgo
  have r := r'
  have kr := kr'
  have lx := Nat.le_trans lx' lx
  clear r' kr' lx' q mq
  conv => whnf
  have e2 : (256 : Int) ^ 2 = 65536 := rfl
  rw [e2] at bnn
  have kr0 : KnR b xs sp fun m => (m.es.drop 0).map fun v => (2, v) := kr
  refine ⟨fun env hh => ∃ (z : Int) (es : List Int) (ep : Option (Nat × Nat)) (xs : List Int) (sp : Bool), z = es.length ∧ (es.length : Int) ≤ nn ∧ hh.obj h.next = some (.row true 9 [i64 0, i64 0, i64 0, .sl none 0, i64 0, i64 0, i64 0, i64 0, i64 0]) ∧ hh.obj bm = some (.row true 9 [i64 kk, i64 0, i64 0, .sl ep es.length, i64 nw, i64 0, i64 0, i64 0, i64 0]) ∧ SlIs hh ep es.length true 1 (ints .i64 es) ∧ (∀ i o, ep = some (i, o) → h.next < i ∧ i ≠ bm ∧ i ≠ h.next + 1) ∧ Rdr hh (h.next + 1) xs sp ∧ KnR b xs sp (fun m => (m.es.drop es.length).map fun v => (2, v)) ∧ (∀ m, Enc b m → es = m.es.take es.length) ∧ xs.length ≤ b.length ∧ Ab.Mod none_ h hh ∧ env = [(7, i64 z), (6, i64 nn), (5, .ptr (some (bm, 0))), (4, .ptr (some (h.next + 1, 0))), (2, .ptr (some (h.next, 0))), (0, .sl p b.length)],
    fun env _ => match get env 7 with
      | .int _ z => (nn - z).toNat
      | _ => 0, ⟨_, Forget.cons rfl (Forget.cons rfl (Forget.cons rfl (Forget.cons rfl (Forget.cons rfl (Forget.cons rfl (Forget.nil _)))))), _, [], none, _, _, rfl, bnn.1, g0, gm, SlIs.nil _ _ _, (fun _ _ e => by cases e), r, kr0, (fun m _ => rfl), lx, mm, rfl⟩, ?_⟩
  clear g0 gm r kr kr0 lx mm
  rintro _ _ ⟨z, es, ep, xs, sp, rfl, ha, g0, gm, se, hep, r, kr, ke, lx, mm, rfl⟩
  conv => whnf
  refine br_mk (fun hc => ?_) (fun hc => ?_)
  conv => whnf
  obtain ⟨pr, nr, rg, ro⟩ := r
  refine ⟨_, Cell.mk rg rfl, ?_⟩
  conv => whnf
  have r : Rdr _ (h.next + 1) xs sp := ⟨pr, nr, rg, ro⟩
  refine br_mk (fun hd => ?_) (fun hd => ?_)
  · conv => whnf
    simp at hc
    refine ⟨[0, 1, 2, 3, 4, 5, 6, 7], [0, 1, 0, 4, 12, 31, 63, 127], by kernel_rfl, ?_⟩
    conv => whnf
    refine ⟨_, Cell.mk gm rfl, ?_⟩
    conv => whnf
    refine (num26 r (by omega) ((2 : Nat) : Int)).mono ?_
    rintro _ h7 q
    have hdr : ∀ m, Enc b m → (m.es.drop es.length).map (fun v => ((2 : Nat), v)) = (2, m.es.getD es.length 0) :: (m.es.drop (es.length + 1)).map fun v => (2, v) := fun m hm => by
      have h1 := knn m hm
      rw [drop_cons (by omega)]
      rfl
    obtain ⟨ne, xs, sp, rfl, kne, bne, r', kr', lx', mq⟩ := kr.num (k := 2) (by decide) (by decide) (R' := fun m => (m.es.drop (es.length + 1)).map fun v => (2, v)) (val := fun m => m.es.getD es.length 0) hdr q
    have g0 := mq.get g0 (.inl h0g)
    have gm := mq.get gm (.inl hbg)
    have mm := mm.trans' mq (S2 := none_) (fun _ _ k => k) hgo
    have se := se.get mq (fun i o e => .inl (fun k => (hep i o e).2.2 k))
    conv => whnf
    refine ⟨?_, ?_⟩
    · conv => whnf
      exact ⟨_, Cell.mk gm rfl, rfl⟩
    conv => whnf
    rw [oneNum]
    have mp := Mod.push none_ h7 (.row true 1 (ints .i64 [ne]))
    refine ⟨_, _, se.get mp (fun _ _ _ => .inl (fun k => k)), (SlIs.row (n := 1) (H.obj_push_new _ _) rfl).weak, ?_, by omega, fun p9 h9 hs9 hm9 hf9 => ?_⟩
    · show (es.length + 1) * 8 ≤ 70368744177664
      omega
    conv => whnf
    have hnb : ∀ i, inSl ep i → h.next < i ∧ i ≠ bm ∧ i ≠ h.next + 1 := fun i ⟨o, e⟩ => hep i o e
    have hbl := h7.lt _ _ gm
    have g0 := hm9.get (mp.get g0 (.inl (fun k => k))) (.inl (fun k => by have := (hnb _ k).1; omega))
    have gm := hm9.get (mp.get gm (.inl (fun k => k))) (.inl (fun k => (hnb _ k).2.1 rfl))
    have r := (r'.get mp (fun k => k)).get hm9 (fun k => (hnb _ k).2.2 rfl)
    have mm7 := mm
    have mm := (mod_none mm mp).trans' hm9 (S2 := none_) (fun _ _ k => k) (fun i hi k => by have := (hnb _ k).1; omega)
    have hgl := r'.lt
    have hep9 : ∀ i o, p9 = some (i, o) → h.next < i ∧ i ≠ bm ∧ i ≠ h.next + 1 := fun i o e => by
      rcases hf9 i o e with k | k
      · exact hep i o (by rw [← k, e])
      · have k : h7.next + 1 ≤ i := k
        omega
    have se9 : SlIs h9 p9 (es.length + 1) true 1 (ints .i64 (es ++ [ne])) := by
      rw [ints_append]
      exact hs9
    refine ⟨_, _, gm, Nat.le_of_ble_eq_true rfl, ?_⟩
    have ms := Mod.set (S := one bm) (ob := .row true 9 [i64 kk, i64 0, i64 0, .sl p9 (es.length + 1), i64 nw, i64 0, i64 0, i64 0, i64 0]) rfl gm rfl
    have g0 := ms.get g0 (.inl h0b)
    have gm := H.obj_set_same (ob' := .row true 9 [i64 kk, i64 0, i64 0, .sl p9 (es.length + 1), i64 nw, i64 0, i64 0, i64 0, i64 0]) gm
    have r := r.get ms (fun k => hbg k.symm)
    have mm := mm.trans' ms (S2 := none_) (fun _ _ k => k) hbm
    have se9 := se9.get ms (fun i o e => .inl (fun k => (hep9 i o e).2.1 k))
    conv => whnf
    have hz : IntKind.i64.wrap ((es.length : Int) + 1) = ((es ++ [ne]).length : Int) := by
      rw [wrap_i64 (by omega) (by omega)]
      simp
    have hln : (es ++ [ne]).length = es.length + 1 := by simp
    refine ⟨_, Forget.cons rfl (Forget.cons rfl (Forget.cons rfl (Forget.cons rfl (Forget.cons rfl (Forget.cons rfl (Forget.nil _)))))), ⟨_, es ++ [ne], p9, xs, sp, hz, by rw [hln]; omega, g0, by rw [hln]; exact gm, by rw [hln]; exact se9, hep9, r, by rw [hln]; exact kr', fun m hm => ?_, Nat.le_trans lx' lx, mm, rfl⟩, ?_⟩
    · have h1 := knn m hm
      rw [hln, List.take_add_one, get_getD (by omega), ← ke m hm, kne m hm]
      rfl
    · show (nn - IntKind.i64.wrap ((es.length : Int) + 1)).toNat < (nn - (es.length : Int)).toNat
      rw [hz, hln]
      omega
  conv => whnf
  have hsp : sp = true := by simpa using hd
  have edge : ∀ m, Enc b m → es = m.es := fun m hm => by
    have := (kr.kn m hm).1
    rw [hsp] at this
    cases this
  obtain ⟨m1, hm1⟩ : ∃ m1 : Msg, (⟨kk, 0, 0, ep, es, nw, 0, 0, 0, 0⟩ : Msg) = m1 := ⟨_, rfl⟩
  have okm := okm_mk gm hm1 ⟨se.weak, lo0, hi0, by show es.length ≤ 100000; omega⟩
  have gm := gm.trans (congrArg (fun x : Msg => some (Ab.Obj.row true 9 x.cells)) hm1)
  have hep : ∀ i o, m1.ep = some (i, o) → i ≠ h.next ∧ i ≠ bm := by
    rw [← hm1]
    exact fun i o e => ⟨Nat.ne_of_gt (hep i o e).1, (hep i o e).2.1⟩
  have can : Canon m1 := by
    rw [← hm1]
    exact ⟨fun hh => absurd h5 hh, fun _ => ⟨rfl, rfl, rfl, rfl⟩, fun _ => rfl, fun _ _ _ => rfl⟩
  have keq : ∀ m, Enc b m → eqM m m1 := by
    intro m hm
    rw [← hm1]
    have hc := hm.can
    have hkk := kkk m hm
    exact eqM.mk hkk (hc.p (by omega) (by omega) (by omega)).symm (hc.d (by omega)).symm (edge m hm) (knw m hm) (hc.n (by omega)).1.symm (hc.n (by omega)).2.1.symm (hc.n (by omega)).2.2.1.symm (hc.n (by omega)).2.2.2.symm
  clear hm1
  have rest : ∀ m, Enc b m → doneV xs sp = true := fun m hm => by
    have hkk := kkk m hm
    obtain ⟨t1, t2, _⟩ := kr.kn m hm
    rw [hsp] at t1
    cases t1
  rotate_left
  conv => whnf
  simp at hc
  have edge : ∀ m, Enc b m → es = m.es := fun m hm => by
    have h1 := knn m hm
    rw [ke m hm]
    exact List.take_of_length_le (by omega)
  obtain ⟨m1, hm1⟩ : ∃ m1 : Msg, (⟨kk, 0, 0, ep, es, nw, 0, 0, 0, 0⟩ : Msg) = m1 := ⟨_, rfl⟩
  have okm := okm_mk gm hm1 ⟨se.weak, lo0, hi0, by show es.length ≤ 100000; omega⟩
  have gm := gm.trans (congrArg (fun x : Msg => some (Ab.Obj.row true 9 x.cells)) hm1)
  have hep : ∀ i o, m1.ep = some (i, o) → i ≠ h.next ∧ i ≠ bm := by
    rw [← hm1]
    exact fun i o e => ⟨Nat.ne_of_gt (hep i o e).1, (hep i o e).2.1⟩
  have can : Canon m1 := by
    rw [← hm1]
    exact ⟨fun hh => absurd h5 hh, fun _ => ⟨rfl, rfl, rfl, rfl⟩, fun _ => rfl, fun _ _ _ => rfl⟩
  have keq : ∀ m, Enc b m → eqM m m1 := by
    intro m hm
    rw [← hm1]
    have hc := hm.can
    have hkk := kkk m hm
    exact eqM.mk hkk (hc.p (by omega) (by omega) (by omega)).symm (hc.d (by omega)).symm (edge m hm) (knw m hm) (hc.n (by omega)).1.symm (hc.n (by omega)).2.1.symm (hc.n (by omega)).2.2.1.symm (hc.n (by omega)).2.2.2.symm
  clear hm1
  have rest : ∀ m, Enc b m → doneV xs sp = true := fun m hm => by
    have hkk := kkk m hm
    obtain ⟨t1, t2, _⟩ := kr.kn m hm
    rw [edge m hm, List.drop_length] at t2
    rw [t1, t2]
    rfl
  rotate_left
  conv => whnf
  refine br_mk (fun h7 => ?_) (fun h7 => ?_)
  conv => whnf
  simp at h7
  refine (num26 r (by omega) ((1 : Nat) : Int)).mono ?_
  rintro _ _ q
  obtain ⟨nc, xs, sp, rfl, knc, bnc, r', kr', lx', mq⟩ := kr.num (k := 1) (by decide) (by decide) (R' := fun m => [(2, IntKind.i64.wrap (m.e + 1)), (5, m.f), (5, m.l)]) (val := fun m => m.c) (fun m hm => by have := kkk m hm; exact tailP_7 (by omega)) q
  have gm := mq.get gm (.inl hbg)
  have g0 := mq.get g0 (.inl h0g)
  have mm := mm.trans' mq (S2 := none_) (fun _ _ k => k) hgo
  have r := r'
  have kr := kr'
  have lx := Nat.le_trans lx' lx
  clear r' kr' lx' q mq
  conv => whnf
  refine ⟨_, _, gm, Nat.le_of_ble_eq_true rfl, ?_⟩
  have ms := Mod.set (S := one bm) (ob := .row true 9 [i64 kk, i64 0, i64 0, .sl none 0, i64 0, i64 nc, i64 0, i64 0, i64 0]) rfl gm rfl
  have g0 := ms.get g0 (.inl h0b)
  have gm := H.obj_set_same (ob' := .row true 9 [i64 kk, i64 0, i64 0, .sl none 0, i64 0, i64 nc, i64 0, i64 0, i64 0]) gm
  have r := r.get ms (fun k => hbg k.symm)
  have mm := mm.trans' ms (S2 := none_) (fun _ _ k => k) hbm
  clear ms
  conv => whnf
  refine (num26 r (by omega) ((2 : Nat) : Int)).mono ?_
  rintro _ _ q
  obtain ⟨ne, xs, sp, rfl, kne, bne, r', kr', lx', mq⟩ := kr.num (k := 2) (by decide) (by decide) (R' := fun m => [(5, m.f), (5, m.l)]) (val := fun m => IntKind.i64.wrap (m.e + 1)) (fun m hm => rfl) q
  have gm := mq.get gm (.inl hbg)
  have g0 := mq.get g0 (.inl h0g)
  have mm := mm.trans' mq (S2 := none_) (fun _ _ k => k) hgo
  have r := r'
  have kr := kr'
  have lx := Nat.le_trans lx' lx
  clear r' kr' lx' q mq
  conv => whnf
  have e2 : (256 : Int) ^ 2 = 65536 := rfl
  rw [e2] at bne
  have hw : IntKind.i64.wrap (ne - 1) = ne - 1 := wrap_i64 (by omega) (by omega)
  rw [hw]
  refine ⟨_, _, gm, Nat.le_of_ble_eq_true rfl, ?_⟩
  have ms := Mod.set (S := one bm) (ob := .row true 9 [i64 kk, i64 0, i64 0, .sl none 0, i64 0, i64 nc, i64 (ne - 1), i64 0, i64 0]) rfl gm rfl
  have g0 := ms.get g0 (.inl h0b)
  have gm := H.obj_set_same (ob' := .row true 9 [i64 kk, i64 0, i64 0, .sl none 0, i64 0, i64 nc, i64 (ne - 1), i64 0, i64 0]) gm
  have r := r.get ms (fun k => hbg k.symm)
  have mm := mm.trans' ms (S2 := none_) (fun _ _ k => k) hbm
  clear ms
  conv => whnf
  refine (num26 r (by omega) ((5 : Nat) : Int)).mono ?_
  rintro _ _ q
  obtain ⟨nf, xs, sp, rfl, knf, bnf, r', kr', lx', mq⟩ := kr.num (k := 5) (by decide) (by decide) (R' := fun m => [(5, m.l)]) (val := fun m => m.f) (fun m hm => rfl) q
  have gm := mq.get gm (.inl hbg)
  have g0 := mq.get g0 (.inl h0g)
  have mm := mm.trans' mq (S2 := none_) (fun _ _ k => k) hgo
  have r := r'
  have kr := kr'
  have lx := Nat.le_trans lx' lx
  clear r' kr' lx' q mq
  conv => whnf
  refine ⟨_, _, gm, Nat.le_of_ble_eq_true rfl, ?_⟩
  have ms := Mod.set (S := one bm) (ob := .row true 9 [i64 kk, i64 0, i64 0, .sl none 0, i64 0, i64 nc, i64 (ne - 1), i64 nf, i64 0]) rfl gm rfl
  have g0 := ms.get g0 (.inl h0b)
  have gm := H.obj_set_same (ob' := .row true 9 [i64 kk, i64 0, i64 0, .sl none 0, i64 0, i64 nc, i64 (ne - 1), i64 nf, i64 0]) gm
  have r := r.get ms (fun k => hbg k.symm)
  have mm := mm.trans' ms (S2 := none_) (fun _ _ k => k) hbm
  clear ms
  conv => whnf
  refine (num26 r (by omega) ((5 : Nat) : Int)).mono ?_
  rintro _ _ q
  obtain ⟨nl, xs, sp, rfl, knl, bnl, r', kr', lx', mq⟩ := kr.num (k := 5) (by decide) (by decide) (R' := fun m => []) (val := fun m => m.l) (fun m hm => rfl) q
  have gm := mq.get gm (.inl hbg)
  have g0 := mq.get g0 (.inl h0g)
  have mm := mm.trans' mq (S2 := none_) (fun _ _ k => k) hgo
  have r := r'
  have kr := kr'
  have lx := Nat.le_trans lx' lx
  clear r' kr' lx' q mq
  conv => whnf
  refine ⟨_, _, gm, Nat.le_of_ble_eq_true rfl, ?_⟩
  have ms := Mod.set (S := one bm) (ob := .row true 9 [i64 kk, i64 0, i64 0, .sl none 0, i64 0, i64 nc, i64 (ne - 1), i64 nf, i64 nl]) rfl gm rfl
  have g0 := ms.get g0 (.inl h0b)
  have gm := H.obj_set_same (ob' := .row true 9 [i64 kk, i64 0, i64 0, .sl none 0, i64 0, i64 nc, i64 (ne - 1), i64 nf, i64 nl]) gm
  have r := r.get ms (fun k => hbg k.symm)
  have mm := mm.trans' ms (S2 := none_) (fun _ _ k => k) hbm
  clear ms
  conv => whnf
  obtain ⟨m1, hm1⟩ : ∃ m1 : Msg, (⟨kk, 0, 0, none, [], 0, nc, (ne - 1), nf, nl⟩ : Msg) = m1 := ⟨_, rfl⟩
  have okm := okm_mk gm hm1 ⟨SlIs.nil _ _ _, by show _ ≤ ne - 1; omega, by show ne - 1 ≤ _; omega, Nat.zero_le _⟩
  have gm := gm.trans (congrArg (fun x : Msg => some (Ab.Obj.row true 9 x.cells)) hm1)
  have hep : ∀ i o, m1.ep = some (i, o) → i ≠ h.next ∧ i ≠ bm := by
    rw [← hm1]
    exact fun i o e => by cases e
  have can : Canon m1 := by
    rw [← hm1]
    exact ⟨fun _ => ⟨rfl, rfl⟩, fun hh => absurd h7 hh, fun _ => rfl, fun _ _ _ => rfl⟩
  have keq : ∀ m, Enc b m → eqM m m1 := by
    intro m hm
    rw [← hm1]
    have hc := hm.can
    have hkk := kkk m hm
    have h3 := kne m hm
    have h4 : ne - 1 = m.e := by
      have r1 := hm.e1
      have r2 := hm.e2
      by_cases hx : m.e = 9223372036854775807
      · rw [hx] at h3
        have : IntKind.i64.wrap (9223372036854775807 + 1) = -9223372036854775808 := rfl
        omega
      · rw [wrap_i64 (by omega) (by omega)] at h3
        omega
    exact eqM.mk hkk (hc.p (by omega) (by omega) (by omega)).symm (hc.d (by omega)).symm (hc.r (by omega)).1.symm (hc.r (by omega)).2.symm (knc m hm) h4 (knf m hm) (knl m hm)
  clear hm1
  have rest : ∀ m, Enc b m → doneV xs sp = true := fun m hm => by
    have hkk := kkk m hm
    obtain ⟨t1, t2, _⟩ := kr.kn m hm
    skip
    rw [t1, t2]
    rfl
  rotate_left
  conv => whnf
  simp at h1 h2 h9 h5 h7
  obtain ⟨m1, hm1⟩ : ∃ m1 : Msg, (⟨kk, 0, 0, none, [], 0, 0, 0, 0, 0⟩ : Msg) = m1 := ⟨_, rfl⟩
  have okm := okm_mk gm hm1 ⟨SlIs.nil _ _ _, lo0, hi0, Nat.zero_le _⟩
  have gm := gm.trans (congrArg (fun x : Msg => some (Ab.Obj.row true 9 x.cells)) hm1)
  have hep : ∀ i o, m1.ep = some (i, o) → i ≠ h.next ∧ i ≠ bm := by
    rw [← hm1]
    exact fun i o e => by cases e
  have can : Canon m1 := by
    rw [← hm1]
    exact ⟨fun _ => ⟨rfl, rfl⟩, fun _ => ⟨rfl, rfl, rfl, rfl⟩, fun _ => rfl, fun _ _ _ => rfl⟩
  have keq : ∀ m, Enc b m → eqM m m1 := by
    intro m hm
    rw [← hm1]
    have hc := hm.can
    have hkk := kkk m hm
    exact eqM.mk hkk (hc.p (by omega) (by omega) (by omega)).symm (hc.d (by omega)).symm (hc.r (by omega)).1.symm (hc.r (by omega)).2.symm (hc.n (by omega)).1.symm (hc.n (by omega)).2.1.symm (hc.n (by omega)).2.2.1.symm (hc.n (by omega)).2.2.2.symm
  clear hm1
  have rest : ∀ m, Enc b m → doneV xs sp = true := fun m hm => by
    have hkk := kkk m hm
    obtain ⟨t1, t2, _⟩ := kr.kn m hm
    rw [tailP_0 (by omega) (by omega) (by omega) (by omega) (by omega)] at t2
    rw [t1, t2]
    rfl
  rotate_left
  all_goals
    refine ⟨m1.cells, Cells.mk gm (Nat.le_of_ble_eq_true rfl) rfl, ?_⟩
    conv => whnf
    refine (ref42 m1 okm).mono ?_
    rintro _ he ⟨qe, rfl, oe, me⟩
    conv => whnf
    refine ⟨_, rfl, ?_⟩
    conv => whnf
    refine ⟨_, rfl, ?_⟩
    conv => whnf
    have gm := me.get gm (.inl (fun k => k))
    have g0 := me.get g0 (.inl (fun k => k))
    have okm := okm.old me (fun _ _ k => k)
    have r := r.get me (fun k => k)
    have mm := mod_none mm me
    have no : (∀ m, ¬ Enc b m) → ∀ {hx : H}, Ab.Mod none_ h hx → DecR b h (.tup [.agg msg0.cells, .bool false]) hx := fun hn hx mx => ⟨msg0, false, rfl, ⟨SlIs.nil _ _ _, by decide, by decide, by decide⟩, mx, .inr ⟨rfl, rfl, hn⟩⟩
    refine (done32 r).mono ?_
    rintro _ h' ⟨eh, rfl⟩
    subst h'
    conv => whnf
    refine br_mk (fun hx => ?_) (fun hx => ?_)
    · conv => whnf
      refine ⟨_, _, g0, Nat.le_of_ble_eq_true rfl, ?_⟩
      conv => whnf
      have ms := Mod.set (S := one h.next) (ob := .row true 9 msg0.cells) rfl g0 rfl
      have g0 := H.obj_set_same (ob' := .row true 9 msg0.cells) g0
      refine ⟨msg0.cells, Cells.mk g0 (Nat.le_of_ble_eq_true rfl) rfl, ?_⟩
      conv => whnf
      have hx : doneV xs sp = false := by simpa using hx
      exact no (fun m hm => by rw [rest m hm] at hx; cases hx) (mm.trans' ms (S2 := none_) (fun _ _ k => k) hbo)
    conv => whnf
    refine br_mk (fun hy => ?_) (fun hy => ?_)
    · conv => whnf
      refine ⟨_, _, g0, Nat.le_of_ble_eq_true rfl, ?_⟩
      conv => whnf
      have ms := Mod.set (S := one h.next) (ob := .row true 9 msg0.cells) rfl g0 rfl
      have g0 := H.obj_set_same (ob' := .row true 9 msg0.cells) g0
      refine ⟨msg0.cells, Cells.mk g0 (Nat.le_of_ble_eq_true rfl) rfl, ?_⟩
      conv => whnf
      have ho : encOk m1 = false := by simpa using hy
      have dn := decA_no (.inl ho) keq
      rcases dn with ⟨k, _⟩ | ⟨_, _, dn⟩
      · cases k
      exact no dn (mm.trans' ms (S2 := none_) (fun _ _ k => k) hbo)
    conv => whnf
    have ho : encOk m1 = true := by simpa using hy
    refine ⟨_, oe.is, encB_bts m1, ?_⟩
    conv => whnf
    refine ⟨_, SlIs.old o.is mm (fun _ _ k => k), bb, ?_⟩
    conv => whnf
    refine br_mk (fun hz => ?_) (fun hz => ?_)
    · conv => whnf
      refine ⟨_, _, g0, Nat.le_of_ble_eq_true rfl, ?_⟩
      conv => whnf
      have ms := Mod.set (S := one h.next) (ob := .row true 9 msg0.cells) rfl g0 rfl
      have g0 := H.obj_set_same (ob' := .row true 9 msg0.cells) g0
      refine ⟨msg0.cells, Cells.mk g0 (Nat.le_of_ble_eq_true rfl) rfl, ?_⟩
      conv => whnf
      have hz : encB m1 ≠ b := by simpa using hz
      have dn := decA_no (.inr hz) keq
      rcases dn with ⟨k, _⟩ | ⟨_, _, dn⟩
      · cases k
      exact no dn (mm.trans' ms (S2 := none_) (fun _ _ k => k) hbo)
    conv => whnf
    have hz : encB m1 = b := by simpa using hz
    refine ⟨m1.cells, Cells.mk gm (Nat.le_of_ble_eq_true rfl) rfl, ?_⟩
    conv => whnf
    refine ⟨_, _, g0, Nat.le_of_ble_eq_true rfl, ?_⟩
    conv => whnf
    have ms := Mod.set (S := one h.next) (ob := .row true 9 m1.cells) rfl g0 rfl
    have gm2 := H.obj_set_same (ob' := .row true 9 m1.cells) g0
    refine ⟨m1.cells, Cells.mk gm2 (Nat.le_of_ble_eq_true rfl) rfl, ?_⟩
    conv => whnf
    refine ⟨m1, true, rfl, ⟨?_, okm.2⟩, mm.trans' ms (S2 := none_) (fun _ _ k => k) hbo, decA_yes can ho hz okm.2.1 okm.2.2.1 keq⟩
    exact okm.1.get ms (fun i o e => .inl (hep i o e).1)
end Go.Proofs.Ytnpfdppmpmnhbaa
