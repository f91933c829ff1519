/- Messages: Decode of the program. -/
import Derived.Test.YtnpfdppmpmnhbaaS35
set_option linter.unusedVariables false
namespace Go.Proofs.Ytnpfdppmpmnhbaa
open Go Go.Ab
def DecQ (b : List Int) (h : H) (r : V) (h' : H) : Prop := ∃ (m1 : Msg) (ok : Bool), r = .tup [.agg m1.cells, i64 (if ok then 0 else 2)] ∧ m1.ok h' ∧ Ab.Mod none_ h h' ∧ DecA b m1 ok
theorem lo0 : (-9223372036854775808 : Int) ≤ 0 := by decide
theorem hi0 : (0 : Int) ≤ 9223372036854775807 := by decide
theorem okm_mk {hh : H} {i : Nat} {ob : Ab.Obj} {m0 m1 : Msg} (_ : hh.obj i = some ob) (e : m0 = m1) (k : m0.ok hh) : m1.ok hh := e ▸ k
theorem dec43 {h : H} {p : Option (Nat × Nat)} {n : Nat} {b : List Int} (o : SlIs h p n false 1 (ints .u8 b)) (bb : Bts b) (hn : n ≤ 100000) : ACalls Try.prog 43 [.sl p n] h (DecQ b h) := by
  have hl := slo_len o
  subst hl
  refine call_ Try.func43 rfl rfl (by kernel_rfl) ?_
  conv => whnf
  have mm := Mod.push none_ h (.row true 9 [i64 0, i64 0, i64 0, .sl none 0, i64 0, i64 0, i64 0, i64 0, i64 0])
  have gm : (h.push (.row true 9 [i64 0, i64 0, i64 0, .sl none 0, i64 0, i64 0, i64 0, i64 0, i64 0])).obj h.next = some (.row true 9 [i64 0, i64 0, i64 0, .sl none 0, i64 0, i64 0, i64 0, i64 0, i64 0]) := H.obj_push_new _ _
  have hbo : ∀ i, i < h.next → one h.next i → none_ i := fun i hi k => absurd hi (by unfold one at k; omega)
  refine (read24o (SlIs.old o mm (fun _ _ k => k)) (by omega)).mono ?_
  rintro _ _ ⟨g, rfl, rn⟩
  have hg : h.next < g := rn.2.1
  have hbg : h.next ≠ g := Nat.ne_of_lt hg
  have hgo : ∀ i, i < h.next → one g i → none_ i := fun i hi k => absurd hi (by unfold one at k; omega)
  have gm := rn.2.2.get gm (.inl (fun k => k))
  have mm := mod_none mm rn.2.2
  have r := rn.1
  have kr := KnR.start bb
  have lx := Nat.le_refl b.length
  clear rn
  conv => whnf
  refine (num25 r (by omega) ((1 : Nat) : Int)).mono ?_
  rintro _ _ q
  obtain ⟨kk, xs, sp, rfl, kkk, bkk, r', kr', lx', mq⟩ := kr.num (k := 1) (by decide) (by decide) (R' := tailP) (val := fun m => m.k) (fun m hm => rfl) q
  have gm := mq.get gm (.inl hbg)
  have mm := mm.trans' mq (S2 := none_) (fun _ _ k => k) hgo
  have r := r'
  have kr := kr'
  have lx := Nat.le_trans lx' lx
  clear r' kr' lx' q mq
  conv => whnf
  refine ⟨_, _, gm, Nat.le_of_ble_eq_true rfl, ?_⟩
  have ms := Mod.set (S := one h.next) (ob := .row true 9 [i64 kk, i64 0, i64 0, .sl none 0, i64 0, i64 0, i64 0, i64 0, i64 0]) rfl gm rfl
  have gm := H.obj_set_same (ob' := .row true 9 [i64 kk, i64 0, i64 0, .sl none 0, i64 0, i64 0, i64 0, i64 0, i64 0]) gm
  have r := r.get ms (fun k => hbg k.symm)
  have mm := mm.trans' ms (S2 := none_) (fun _ _ k => k) hbo
  clear ms
  conv => whnf
  refine ⟨_, Cell.mk gm rfl, ?_⟩
  conv => whnf
  refine br_mk (fun h1 => ?_) (fun h1 => ?_)
  conv => whnf
  simp at h1
  have kr := kr
  refine (num25 r (by omega) ((2 : Nat) : Int)).mono ?_
  rintro _ _ q
  obtain ⟨np, xs, sp, rfl, knp, bnp, r', kr', lx', mq⟩ := kr.num (k := 2) (by decide) (by decide) (R' := fun m => (2, m.d) :: []) (val := fun m => m.p) (fun m hm => by have := kkk m hm; exact tailP_1 (by omega)) q
  have gm := mq.get gm (.inl hbg)
  have mm := mm.trans' mq (S2 := none_) (fun _ _ k => k) hgo
  have r := r'
  have kr := kr'
  have lx := Nat.le_trans lx' lx
  clear r' kr' lx' q mq
  conv => whnf
  refine (num25 r (by omega) ((2 : Nat) : Int)).mono ?_
  rintro _ _ q
  obtain ⟨nd, xs, sp, rfl, knd, bnd, r', kr', lx', mq⟩ := kr.num (k := 2) (by decide) (by decide) (R' := fun m => []) (val := fun m => m.d) (fun m hm => rfl) q
  have gm := mq.get gm (.inl hbg)
  have mm := mm.trans' mq (S2 := none_) (fun _ _ k => k) hgo
  have r := r'
  have kr := kr'
  have lx := Nat.le_trans lx' lx
  clear r' kr' lx' q mq
  conv => whnf
  refine ⟨_, _, gm, Nat.le_of_ble_eq_true rfl, ?_⟩
  have ms := Mod.set (S := one h.next) (ob := .row true 9 [i64 kk, i64 np, i64 0, .sl none 0, i64 0, i64 0, i64 0, i64 0, i64 0]) rfl gm rfl
  have gm := H.obj_set_same (ob' := .row true 9 [i64 kk, i64 np, i64 0, .sl none 0, i64 0, i64 0, i64 0, i64 0, i64 0]) gm
  have r := r.get ms (fun k => hbg k.symm)
  have mm := mm.trans' ms (S2 := none_) (fun _ _ k => k) hbo
  clear ms
  conv => whnf
  refine ⟨_, _, gm, Nat.le_of_ble_eq_true rfl, ?_⟩
  have ms := Mod.set (S := one h.next) (ob := .row true 9 [i64 kk, i64 np, i64 nd, .sl none 0, i64 0, i64 0, i64 0, i64 0, i64 0]) rfl gm rfl
  have gm := H.obj_set_same (ob' := .row true 9 [i64 kk, i64 np, i64 nd, .sl none 0, i64 0, i64 0, i64 0, i64 0, i64 0]) gm
  have r := r.get ms (fun k => hbg k.symm)
  have mm := mm.trans' ms (S2 := none_) (fun _ _ k => k) hbo
  clear ms
  conv => whnf
  obtain ⟨m1, hm1⟩ : ∃ m1 : Msg, (⟨kk, np, nd, none, [], 0, 0, 0, 0, 0⟩ : Msg) = m1 := ⟨_, rfl⟩
  have okm := okm_mk gm hm1 ⟨SlIs.nil _ _ _, lo0, hi0, Nat.zero_le _⟩
  have gm := gm.trans (congrArg (fun x : Msg => some (Ab.Obj.row true 9 x.cells)) hm1)
  have hep : ∀ i o, m1.ep = some (i, o) → i ≠ h.next := by
    rw [← hm1]
    exact fun i o e => by cases e
  have can : Canon m1 := by
    rw [← hm1]
    exact ⟨fun _ => ⟨rfl, rfl⟩, fun _ => ⟨rfl, rfl, rfl, rfl⟩, fun hh => absurd h1 hh, fun hh _ _ => absurd h1 hh⟩
  have keq : ∀ m, Enc b m → eqM m m1 := by
    intro m hm
    rw [← hm1]
    have hc := hm.can
    have hkk := kkk m hm
    exact eqM.mk hkk (knp m hm) (knd m hm) (hc.r (by omega)).1.symm (hc.r (by omega)).2.symm (hc.n (by omega)).1.symm (hc.n (by omega)).2.1.symm (hc.n (by omega)).2.2.1.symm (hc.n (by omega)).2.2.2.symm
  clear hm1
  rotate_left
  conv => whnf
  refine br_mk (fun h2 => ?_) (fun h2 => ?_)
  conv => whnf
  simp at h2
  refine br_mk (fun _ => ?_) (fun hz => absurd hz (by simp [h2]))
  conv => whnf
  refine (num25 r (by omega) ((2 : Nat) : Int)).mono ?_
  rintro _ _ q
  obtain ⟨np, xs, sp, rfl, knp, bnp, r', kr', lx', mq⟩ := kr.num (k := 2) (by decide) (by decide) (R' := fun m => []) (val := fun m => m.p) (fun m hm => by have := kkk m hm; exact tailP_2 (.inl (by omega))) q
  have gm := mq.get gm (.inl hbg)
  have mm := mm.trans' mq (S2 := none_) (fun _ _ k => k) hgo
  have r := r'
  have kr := kr'
  have lx := Nat.le_trans lx' lx
  clear r' kr' lx' q mq
  conv => whnf
  refine ⟨_, _, gm, Nat.le_of_ble_eq_true rfl, ?_⟩
  have ms := Mod.set (S := one h.next) (ob := .row true 9 [i64 kk, i64 np, i64 0, .sl none 0, i64 0, i64 0, i64 0, i64 0, i64 0]) rfl gm rfl
  have gm := H.obj_set_same (ob' := .row true 9 [i64 kk, i64 np, i64 0, .sl none 0, i64 0, i64 0, i64 0, i64 0, i64 0]) gm
  have r := r.get ms (fun k => hbg k.symm)
  have mm := mm.trans' ms (S2 := none_) (fun _ _ k => k) hbo
  clear ms
  conv => whnf
  obtain ⟨m1, hm1⟩ : ∃ m1 : Msg, (⟨kk, np, 0, none, [], 0, 0, 0, 0, 0⟩ : Msg) = m1 := ⟨_, rfl⟩
  have okm := okm_mk gm hm1 ⟨SlIs.nil _ _ _, lo0, hi0, Nat.zero_le _⟩
  have gm := gm.trans (congrArg (fun x : Msg => some (Ab.Obj.row true 9 x.cells)) hm1)
  have hep : ∀ i o, m1.ep = some (i, o) → i ≠ h.next := by
    rw [← hm1]
    exact fun i o e => by cases e
  have can : Canon m1 := by
    rw [← hm1]
    exact ⟨fun _ => ⟨rfl, rfl⟩, fun _ => ⟨rfl, rfl, rfl, rfl⟩, fun _ => rfl, fun _ hh _ => absurd h2 hh⟩
  have keq : ∀ m, Enc b m → eqM m m1 := by
    intro m hm
    rw [← hm1]
    have hc := hm.can
    have hkk := kkk m hm
    exact eqM.mk hkk (knp m hm) (hc.d (by omega)).symm (hc.r (by omega)).1.symm (hc.r (by omega)).2.symm (hc.n (by omega)).1.symm (hc.n (by omega)).2.1.symm (hc.n (by omega)).2.2.1.symm (hc.n (by omega)).2.2.2.symm
  clear hm1
  rotate_left
  conv => whnf
  refine br_mk (fun h9 => ?_) (fun h9 => ?_)
  conv => whnf
  simp at h9
  refine (num25 r (by omega) ((2 : Nat) : Int)).mono ?_
  rintro _ _ q
  obtain ⟨np, xs, sp, rfl, knp, bnp, r', kr', lx', mq⟩ := kr.num (k := 2) (by decide) (by decide) (R' := fun m => []) (val := fun m => m.p) (fun m hm => by have := kkk m hm; exact tailP_2 (.inr (by omega))) q
  have gm := mq.get gm (.inl hbg)
  have mm := mm.trans' mq (S2 := none_) (fun _ _ k => k) hgo
  have r := r'
  have kr := kr'
  have lx := Nat.le_trans lx' lx
  clear r' kr' lx' q mq
  conv => whnf
  refine ⟨_, _, gm, Nat.le_of_ble_eq_true rfl, ?_⟩
  have ms := Mod.set (S := one h.next) (ob := .row true 9 [i64 kk, i64 np, i64 0, .sl none 0, i64 0, i64 0, i64 0, i64 0, i64 0]) rfl gm rfl
  have gm := H.obj_set_same (ob' := .row true 9 [i64 kk, i64 np, i64 0, .sl none 0, i64 0, i64 0, i64 0, i64 0, i64 0]) gm
  have r := r.get ms (fun k => hbg k.symm)
  have mm := mm.trans' ms (S2 := none_) (fun _ _ k => k) hbo
  clear ms
  conv => whnf
  obtain ⟨m1, hm1⟩ : ∃ m1 : Msg, (⟨kk, np, 0, none, [], 0, 0, 0, 0, 0⟩ : Msg) = m1 := ⟨_, rfl⟩
  have okm := okm_mk gm hm1 ⟨SlIs.nil _ _ _, lo0, hi0, Nat.zero_le _⟩
  have gm := gm.trans (congrArg (fun x : Msg => some (Ab.Obj.row true 9 x.cells)) hm1)
  have hep : ∀ i o, m1.ep = some (i, o) → i ≠ h.next := by
    rw [← hm1]
    exact fun i o e => by cases e
  have can : Canon m1 := by
    rw [← hm1]
    exact ⟨fun _ => ⟨rfl, rfl⟩, fun _ => ⟨rfl, rfl, rfl, rfl⟩, fun _ => rfl, fun _ _ hh => absurd h9 hh⟩
  have keq : ∀ m, Enc b m → eqM m m1 := by
    intro m hm
    rw [← hm1]
    have hc := hm.can
    have hkk := kkk m hm
    exact eqM.mk hkk (knp m hm) (hc.d (by omega)).symm (hc.r (by omega)).1.symm (hc.r (by omega)).2.symm (hc.n (by omega)).1.symm (hc.n (by omega)).2.1.symm (hc.n (by omega)).2.2.1.symm (hc.n (by omega)).2.2.2.symm
  clear hm1
  rotate_left
  conv => whnf
  refine br_mk (fun h5 => ?_) (fun h5 => ?_)
  conv => whnf
  simp at h5
  refine (num25 r (by omega) ((5 : Nat) : Int)).mono ?_
  rintro _ _ q
  obtain ⟨nw, xs, sp, rfl, knw, bnw, r', kr', lx', mq⟩ := kr.num (k := 5) (by decide) (by decide) (R' := fun m => (2, (m.es.length : Int)) :: m.es.map fun v => (2, v)) (val := fun m => m.w) (fun m hm => by have := kkk m hm; exact tailP_5 (by omega)) q
  have gm := mq.get gm (.inl hbg)
  have mm := mm.trans' mq (S2 := none_) (fun _ _ k => k) hgo
  have r := r'
  have kr := kr'
  have lx := Nat.le_trans lx' lx
  clear r' kr' lx' q mq
  conv => whnf
  refine ⟨_, _, gm, Nat.le_of_ble_eq_true rfl, ?_⟩
  have ms := Mod.set (S := one h.next) (ob := .row true 9 [i64 kk, i64 0, i64 0, .sl none 0, i64 nw, i64 0, i64 0, i64 0, i64 0]) rfl gm rfl
  have gm := H.obj_set_same (ob' := .row true 9 [i64 kk, i64 0, i64 0, .sl none 0, i64 nw, i64 0, i64 0, i64 0, i64 0]) gm
  have r := r.get ms (fun k => hbg k.symm)
  have mm := mm.trans' ms (S2 := none_) (fun _ _ k => k) hbo
  clear ms
  conv => whnf
  refine (num25 r (by omega) ((2 : Nat) : Int)).mono ?_
  rintro _ _ q
  obtain ⟨nn, xs, sp, rfl, knn, bnn, r', kr', lx', mq⟩ := kr.num (k := 2) (by decide) (by decide) (R' := fun m => m.es.map fun v => (2, v)) (val := fun m => (m.es.length : Int)) (fun m hm => rfl) q
  have gm := mq.get gm (.inl hbg)
  have mm := mm.trans' mq (S2 := none_) (fun _ _ k => k) hgo
  have r := r'
  have kr := kr'
  have lx := Nat.le_trans lx' lx
  clear r' kr' lx' q mq
  conv => whnf
  have e2 : (256 : Int) ^ 2 = 65536 := rfl
  rw [e2] at bnn
  have kr0 : KnR b xs sp fun m => (m.es.drop 0).map fun v => (2, v) := kr
  refine ⟨fun env hh => ∃ (a : Nat) (z : Int) (es : List Int) (ep : Option (Nat × Nat)) (xs : List Int) (sp : Bool), z = nn - a ∧ (a : Int) ≤ nn ∧ es.length = a ∧ hh.obj h.next = some (.row true 9 [i64 kk, i64 0, i64 0, .sl ep a, i64 nw, i64 0, i64 0, i64 0, i64 0]) ∧ SlIs hh ep a true 1 (ints .i64 es) ∧ (∀ i o, ep = some (i, o) → h.next < i ∧ i ≠ g) ∧ Rdr hh g xs sp ∧ KnR b xs sp (fun m => (m.es.drop a).map fun v => (2, v)) ∧ (∀ m, Enc b m → es = m.es.take a) ∧ xs.length ≤ b.length ∧ Ab.Mod none_ h hh ∧ env = [(5, i64 z), (4, .ptr (some (g, 0))), (2, .ptr (some (h.next, 0))), (0, .sl p b.length)],
    fun env _ => match get env 5 with
      | .int _ z => z.toNat
      | _ => 0, ⟨_, Forget.cons rfl (Forget.cons rfl (Forget.cons rfl (Forget.cons rfl (Forget.nil _)))), 0, _, [], none, _, _, by simp, bnn.1, rfl, gm, SlIs.nil _ _ _, (fun _ _ e => by cases e), r, kr0, (fun m _ => rfl), lx, mm, rfl⟩, ?_⟩
  clear gm r kr kr0 lx mm
  rintro _ _ ⟨_, z, es, ep, xs, sp, rfl, ha, rfl, gm, se, hep, r, kr, ke, lx, mm, rfl⟩
  conv => whnf
  have edge : ((es.length : Int) < nn → xs ≠ [] → sp = false → False) → ∀ m, Enc b m → es = m.es := fun hno m hm => by
    have h1 := knn m hm
    obtain ⟨s1, s2, _⟩ := kr.kn m hm
    rw [ke m hm]
    by_cases hlt : es.length < m.es.length
    · refine absurd (hno (by omega) ?_ s1) id
      rw [s2, List.drop_eq_getElem_cons hlt]
      intro hnil
      have := congrArg List.length hnil
      simp only [bytesP, List.map_cons, List.flatMap_cons, List.length_append, be_length] at this
      simp at this
    · exact List.take_of_length_le (by omega)
  refine br_mk (fun hc => ?_) (fun hc => ?_)
  conv => whnf
  refine (left29 r).mono ?_
  rintro _ h' ⟨eh, rfl⟩
  subst h'
  conv => whnf
  refine br_mk (fun hd => ?_) (fun hd => ?_)
  · conv => whnf
    simp at hc
    refine ⟨[0, 1, 2, 3, 4, 5, 6, 7], [0, 1, 0, 4, 12, 31, 63, 127], by kernel_rfl, ?_⟩
    conv => whnf
    refine ⟨_, Cell.mk gm rfl, ?_⟩
    conv => whnf
    refine (num25 r (by omega) ((2 : Nat) : Int)).mono ?_
    rintro _ h7 q
    have hdr : ∀ m, Enc b m → (m.es.drop es.length).map (fun v => ((2 : Nat), v)) = (2, m.es.getD es.length 0) :: (m.es.drop (es.length + 1)).map fun v => (2, v) := fun m hm => by
      have h1 := knn m hm
      rw [drop_cons (by omega)]
      rfl
    obtain ⟨ne, xs, sp, rfl, kne, bne, r', kr', lx', mq⟩ := kr.num (k := 2) (by decide) (by decide) (R' := fun m => (m.es.drop (es.length + 1)).map fun v => (2, v)) (val := fun m => m.es.getD es.length 0) hdr q
    have gm := mq.get gm (.inl hbg)
    have mm := mm.trans' mq (S2 := none_) (fun _ _ k => k) hgo
    have se := se.get mq (fun i o e => .inl (fun k => (hep i o e).2 k))
    conv => whnf
    refine ⟨?_, ?_⟩
    · conv => whnf
      exact ⟨_, Cell.mk gm rfl, rfl⟩
    conv => whnf
    rw [oneNum]
    have mp := Mod.push none_ h7 (.row true 1 (ints .i64 [ne]))
    refine ⟨_, _, se.get mp (fun _ _ _ => .inl (fun k => k)), (SlIs.row (n := 1) (H.obj_push_new _ _) rfl).weak, ?_, by omega, fun p9 h9 hs9 hm9 hf9 => ?_⟩
    · show (es.length + 1) * 8 ≤ 70368744177664
      omega
    conv => whnf
    have hnb : ∀ i, inSl ep i → h.next < i ∧ i ≠ g := fun i ⟨o, e⟩ => hep i o e
    have gm := hm9.get (mp.get gm (.inl (fun k => k))) (.inl (fun k => by have := (hnb _ k).1; omega))
    have r := (r'.get mp (fun k => k)).get hm9 (fun k => (hnb _ k).2 rfl)
    have mm := (mod_none mm mp).trans' hm9 (S2 := none_) (fun _ _ k => k) (fun i hi k => by have := (hnb _ k).1; omega)
    have hgl := r'.lt
    have hbl := mm.next
    have hep9 : ∀ i o, p9 = some (i, o) → h.next < i ∧ i ≠ g := fun i o e => by
      rcases hf9 i o e with k | k
      · exact hep i o (by rw [← k, e])
      · have k : _ + 1 ≤ i := k
        omega
    have se9 : SlIs h9 p9 (es.length + 1) true 1 (ints .i64 (es ++ [ne])) := by
      rw [ints_append]
      exact hs9
    refine ⟨_, _, gm, Nat.le_of_ble_eq_true rfl, ?_⟩
    have ms := Mod.set (S := one h.next) (ob := .row true 9 [i64 kk, i64 0, i64 0, .sl p9 (es.length + 1), i64 nw, i64 0, i64 0, i64 0, i64 0]) rfl gm rfl
    have gm := H.obj_set_same (ob' := .row true 9 [i64 kk, i64 0, i64 0, .sl p9 (es.length + 1), i64 nw, i64 0, i64 0, i64 0, i64 0]) gm
    have r := r.get ms (fun k => hbg k.symm)
    have mm := mm.trans' ms (S2 := none_) (fun _ _ k => k) hbo
    have se9 := se9.get ms (fun i o e => .inl (fun k => by have := (hep9 i o e).1; unfold one at k; omega))
    conv => whnf
    have hz : IntKind.i64.wrap (nn - (es.length : Int) - 1) = nn - ((es.length + 1 : Nat) : Int) := by
      rw [wrap_i64 (by omega) (by omega)]
      omega
    refine ⟨_, Forget.cons rfl (Forget.cons rfl (Forget.cons rfl (Forget.cons rfl (Forget.nil _)))), ⟨es.length + 1, _, es ++ [ne], p9, xs, sp, hz, by omega, by simp, gm, se9, hep9, r, kr', fun m hm => ?_, Nat.le_trans lx' lx, mm, rfl⟩, ?_⟩
    · have h1 := knn m hm
      rw [List.take_add_one, get_getD (by omega), ← ke m hm, kne m hm]
      rfl
    · show (IntKind.i64.wrap (nn - (es.length : Int) - 1)).toNat < (nn - (es.length : Int)).toNat
      rw [hz]
      omega
  conv => whnf
  have edge := edge (fun _ hne hs => by
    simp [leftV, hs] at hd
    exact hne hd)
  obtain ⟨m1, hm1⟩ : ∃ m1 : Msg, (⟨kk, 0, 0, ep, es, nw, 0, 0, 0, 0⟩ : Msg) = m1 := ⟨_, rfl⟩
  have okm := okm_mk gm hm1 ⟨se.weak, lo0, hi0, by show es.length ≤ 100000; omega⟩
  have gm := gm.trans (congrArg (fun x : Msg => some (Ab.Obj.row true 9 x.cells)) hm1)
  have hep : ∀ i o, m1.ep = some (i, o) → i ≠ h.next := by
    rw [← hm1]
    exact fun i o e => Nat.ne_of_gt (hep i o e).1
  have can : Canon m1 := by
    rw [← hm1]
    exact ⟨fun hh => absurd h5 hh, fun _ => ⟨rfl, rfl, rfl, rfl⟩, fun _ => rfl, fun _ _ _ => rfl⟩
  have keq : ∀ m, Enc b m → eqM m m1 := by
    intro m hm
    rw [← hm1]
    have hc := hm.can
    have hkk := kkk m hm
    exact eqM.mk hkk (hc.p (by omega) (by omega) (by omega)).symm (hc.d (by omega)).symm (edge m hm) (knw m hm) (hc.n (by omega)).1.symm (hc.n (by omega)).2.1.symm (hc.n (by omega)).2.2.1.symm (hc.n (by omega)).2.2.2.symm
  clear hm1
  rotate_left
  conv => whnf
  simp at hc
  have edge := edge (fun hlt _ _ => by omega)
  obtain ⟨m1, hm1⟩ : ∃ m1 : Msg, (⟨kk, 0, 0, ep, es, nw, 0, 0, 0, 0⟩ : Msg) = m1 := ⟨_, rfl⟩
  have okm := okm_mk gm hm1 ⟨se.weak, lo0, hi0, by show es.length ≤ 100000; omega⟩
  have gm := gm.trans (congrArg (fun x : Msg => some (Ab.Obj.row true 9 x.cells)) hm1)
  have hep : ∀ i o, m1.ep = some (i, o) → i ≠ h.next := by
    rw [← hm1]
    exact fun i o e => Nat.ne_of_gt (hep i o e).1
  have can : Canon m1 := by
    rw [← hm1]
    exact ⟨fun hh => absurd h5 hh, fun _ => ⟨rfl, rfl, rfl, rfl⟩, fun _ => rfl, fun _ _ _ => rfl⟩
  have keq : ∀ m, Enc b m → eqM m m1 := by
    intro m hm
    rw [← hm1]
    have hc := hm.can
    have hkk := kkk m hm
    exact eqM.mk hkk (hc.p (by omega) (by omega) (by omega)).symm (hc.d (by omega)).symm (edge m hm) (knw m hm) (hc.n (by omega)).1.symm (hc.n (by omega)).2.1.symm (hc.n (by omega)).2.2.1.symm (hc.n (by omega)).2.2.2.symm
  clear hm1
  rotate_left
  conv => whnf
  refine br_mk (fun h7 => ?_) (fun h7 => ?_)
  conv => whnf
  simp at h7
  refine (num25 r (by omega) ((1 : Nat) : Int)).mono ?_
  rintro _ _ q
  obtain ⟨nc, xs, sp, rfl, knc, bnc, r', kr', lx', mq⟩ := kr.num (k := 1) (by decide) (by decide) (R' := fun m => [(2, IntKind.i64.wrap (m.e + 1)), (5, m.f), (5, m.l)]) (val := fun m => m.c) (fun m hm => by have := kkk m hm; exact tailP_7 (by omega)) q
  have gm := mq.get gm (.inl hbg)
  have mm := mm.trans' mq (S2 := none_) (fun _ _ k => k) hgo
  have r := r'
  have kr := kr'
  have lx := Nat.le_trans lx' lx
  clear r' kr' lx' q mq
  conv => whnf
  refine (num25 r (by omega) ((2 : Nat) : Int)).mono ?_
  rintro _ _ q
  obtain ⟨ne, xs, sp, rfl, kne, bne, r', kr', lx', mq⟩ := kr.num (k := 2) (by decide) (by decide) (R' := fun m => [(5, m.f), (5, m.l)]) (val := fun m => IntKind.i64.wrap (m.e + 1)) (fun m hm => rfl) q
  have gm := mq.get gm (.inl hbg)
  have mm := mm.trans' mq (S2 := none_) (fun _ _ k => k) hgo
  have r := r'
  have kr := kr'
  have lx := Nat.le_trans lx' lx
  clear r' kr' lx' q mq
  conv => whnf
  refine (num25 r (by omega) ((5 : Nat) : Int)).mono ?_
  rintro _ _ q
  obtain ⟨nf, xs, sp, rfl, knf, bnf, r', kr', lx', mq⟩ := kr.num (k := 5) (by decide) (by decide) (R' := fun m => [(5, m.l)]) (val := fun m => m.f) (fun m hm => rfl) q
  have gm := mq.get gm (.inl hbg)
  have mm := mm.trans' mq (S2 := none_) (fun _ _ k => k) hgo
  have r := r'
  have kr := kr'
  have lx := Nat.le_trans lx' lx
  clear r' kr' lx' q mq
  conv => whnf
  refine (num25 r (by omega) ((5 : Nat) : Int)).mono ?_
  rintro _ _ q
  obtain ⟨nl, xs, sp, rfl, knl, bnl, r', kr', lx', mq⟩ := kr.num (k := 5) (by decide) (by decide) (R' := fun m => []) (val := fun m => m.l) (fun m hm => rfl) q
  have gm := mq.get gm (.inl hbg)
  have mm := mm.trans' mq (S2 := none_) (fun _ _ k => k) hgo
  have r := r'
  have kr := kr'
  have lx := Nat.le_trans lx' lx
  clear r' kr' lx' q mq
  conv => whnf
  have e2 : (256 : Int) ^ 2 = 65536 := rfl
  rw [e2] at bne
  have hw : IntKind.i64.wrap (ne - 1) = ne - 1 := wrap_i64 (by omega) (by omega)
  rw [hw]
  refine ⟨_, _, gm, Nat.le_of_ble_eq_true rfl, ?_⟩
  have ms := Mod.set (S := one h.next) (ob := .row true 9 [i64 kk, i64 0, i64 0, .sl none 0, i64 0, i64 nc, i64 (ne - 1), i64 nf, i64 nl]) rfl gm rfl
  have gm := H.obj_set_same (ob' := .row true 9 [i64 kk, i64 0, i64 0, .sl none 0, i64 0, i64 nc, i64 (ne - 1), i64 nf, i64 nl]) gm
  have r := r.get ms (fun k => hbg k.symm)
  have mm := mm.trans' ms (S2 := none_) (fun _ _ k => k) hbo
  clear ms
  conv => whnf
  obtain ⟨m1, hm1⟩ : ∃ m1 : Msg, (⟨kk, 0, 0, none, [], 0, nc, (ne - 1), nf, nl⟩ : Msg) = m1 := ⟨_, rfl⟩
  have okm := okm_mk gm hm1 ⟨SlIs.nil _ _ _, by show _ ≤ ne - 1; omega, by show ne - 1 ≤ _; omega, Nat.zero_le _⟩
  have gm := gm.trans (congrArg (fun x : Msg => some (Ab.Obj.row true 9 x.cells)) hm1)
  have hep : ∀ i o, m1.ep = some (i, o) → i ≠ h.next := by
    rw [← hm1]
    exact fun i o e => by cases e
  have can : Canon m1 := by
    rw [← hm1]
    exact ⟨fun _ => ⟨rfl, rfl⟩, fun hh => absurd h7 hh, fun _ => rfl, fun _ _ _ => rfl⟩
  have keq : ∀ m, Enc b m → eqM m m1 := by
    intro m hm
    rw [← hm1]
    have hc := hm.can
    have hkk := kkk m hm
    have h3 := kne m hm
    have h4 : ne - 1 = m.e := by
      have r1 := hm.e1
      have r2 := hm.e2
      by_cases hx : m.e = 9223372036854775807
      · rw [hx] at h3
        have : IntKind.i64.wrap (9223372036854775807 + 1) = -9223372036854775808 := rfl
        omega
      · rw [wrap_i64 (by omega) (by omega)] at h3
        omega
    exact eqM.mk hkk (hc.p (by omega) (by omega) (by omega)).symm (hc.d (by omega)).symm (hc.r (by omega)).1.symm (hc.r (by omega)).2.symm (knc m hm) h4 (knf m hm) (knl m hm)
  clear hm1
  rotate_left
  conv => whnf
  simp at h1 h2 h9 h5 h7
  obtain ⟨m1, hm1⟩ : ∃ m1 : Msg, (⟨kk, 0, 0, none, [], 0, 0, 0, 0, 0⟩ : Msg) = m1 := ⟨_, rfl⟩
  have okm := okm_mk gm hm1 ⟨SlIs.nil _ _ _, lo0, hi0, Nat.zero_le _⟩
  have gm := gm.trans (congrArg (fun x : Msg => some (Ab.Obj.row true 9 x.cells)) hm1)
  have hep : ∀ i o, m1.ep = some (i, o) → i ≠ h.next := by
    rw [← hm1]
    exact fun i o e => by cases e
  have can : Canon m1 := by
    rw [← hm1]
    exact ⟨fun _ => ⟨rfl, rfl⟩, fun _ => ⟨rfl, rfl, rfl, rfl⟩, fun _ => rfl, fun _ _ _ => rfl⟩
  have keq : ∀ m, Enc b m → eqM m m1 := by
    intro m hm
    rw [← hm1]
    have hc := hm.can
    have hkk := kkk m hm
    exact eqM.mk hkk (hc.p (by omega) (by omega) (by omega)).symm (hc.d (by omega)).symm (hc.r (by omega)).1.symm (hc.r (by omega)).2.symm (hc.n (by omega)).1.symm (hc.n (by omega)).2.1.symm (hc.n (by omega)).2.2.1.symm (hc.n (by omega)).2.2.2.symm
  clear hm1
  rotate_left
  all_goals
    refine ⟨m1.cells, Cells.mk gm (Nat.le_of_ble_eq_true rfl) rfl, ?_⟩
    conv => whnf
    refine (enc41 m1 okm).mono ?_
    rintro _ he ⟨qe, rfl, oe, me⟩
    conv => whnf
    refine ⟨_, rfl, ?_⟩
    conv => whnf
    refine ⟨_, rfl, ?_⟩
    conv => whnf
    have gm := me.get gm (.inl (fun k => k))
    have okm := okm.old me (fun _ _ k => k)
    have mm := mod_none mm me
    refine br_mk (fun hx => ?_) (fun hx => ?_)
    · conv => whnf
      have ho : encOk m1 = false := by
        cases ho : encOk m1 with
        | false => rfl
        | true =>
          rw [ho] at hx
          cases hx
      refine ⟨_, _, gm, Nat.le_of_ble_eq_true rfl, ?_⟩
      conv => whnf
      have ms := Mod.set (S := one h.next) (ob := .row true 9 msg0.cells) rfl gm rfl
      have gm := H.obj_set_same (ob' := .row true 9 msg0.cells) gm
      refine ⟨msg0.cells, Cells.mk gm (Nat.le_of_ble_eq_true rfl) rfl, ?_⟩
      conv => whnf
      exact ⟨msg0, false, rfl, ⟨SlIs.nil _ _ _, by decide, by decide, by decide⟩, mm.trans' ms (S2 := none_) (fun _ _ k => k) hbo, decA_no (.inl ho) keq⟩
    conv => whnf
    have ho : encOk m1 = true := by
      cases ho : encOk m1 with
      | true => rfl
      | false =>
        rw [ho] at hx
        cases hx
    refine (equal58 oe.is (encB_bts m1) (SlIs.old o mm (fun _ _ k => k)) bb).mono ?_
    rintro _ h' ⟨eh, rfl⟩
    subst h'
    conv => whnf
    refine br_mk (fun hy => ?_) (fun hy => ?_)
    · conv => whnf
      refine ⟨_, _, gm, Nat.le_of_ble_eq_true rfl, ?_⟩
      conv => whnf
      have ms := Mod.set (S := one h.next) (ob := .row true 9 msg0.cells) rfl gm rfl
      have gm := H.obj_set_same (ob' := .row true 9 msg0.cells) gm
      refine ⟨msg0.cells, Cells.mk gm (Nat.le_of_ble_eq_true rfl) rfl, ?_⟩
      conv => whnf
      have hy : encB m1 ≠ b := by simpa using hy
      exact ⟨msg0, false, rfl, ⟨SlIs.nil _ _ _, by decide, by decide, by decide⟩, mm.trans' ms (S2 := none_) (fun _ _ k => k) hbo, decA_no (.inr hy) keq⟩
    conv => whnf
    have hy : encB m1 = b := by simpa using hy
    refine ⟨m1.cells, Cells.mk gm (Nat.le_of_ble_eq_true rfl) rfl, ?_⟩
    conv => whnf
    refine ⟨_, _, gm, Nat.le_of_ble_eq_true rfl, ?_⟩
    conv => whnf
    have ms := Mod.set (S := one h.next) (ob := .row true 9 m1.cells) rfl gm rfl
    have gm2 := H.obj_set_same (ob' := .row true 9 m1.cells) gm
    refine ⟨m1.cells, Cells.mk gm2 (Nat.le_of_ble_eq_true rfl) rfl, ?_⟩
    conv => whnf
    refine ⟨m1, true, rfl, ⟨?_, okm.2⟩, mm.trans' ms (S2 := none_) (fun _ _ k => k) hbo, decA_yes can ho hy okm.2.1 okm.2.2.1 keq⟩
    exact okm.1.get ms (fun i o e => .inl (hep i o e))
end Go.Proofs.Ytnpfdppmpmnhbaa
