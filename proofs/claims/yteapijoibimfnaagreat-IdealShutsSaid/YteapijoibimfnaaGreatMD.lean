/- MD: several texts in one. -/
import Derived.Test.YteapijoibimfnaaGreatMC
import Derived.Test.YteapijoibimfnaaGreatH3
import Derived.Test.YteapijoibimfnaaGreatP1
set_option linter.unusedVariables false
set_option linter.unusedSimpArgs false
/-! slices.Repeat of one number; none of each edge. -/
namespace Go.Proofs.YteapijoibimfnaaGreat
open Go Go.Ab
def wr (x : Int) : Int := IntKind.u64.wrap x
def m64 (x : Int) : Int := IntKind.u64.wrap ((BitVec.ofInt IntKind.u64.bits x &&& BitVec.ofInt IntKind.u64.bits 4294967295).toNat : Int)
def s32 (x : Int) : Int := Int.fdiv x (2 ^ min (Int.toNat 32) IntKind.u64.bits)
def hi64 (n : Int) : Int := wr (wr (wr (s32 1 * s32 n) + s32 (wr (wr (s32 1 * m64 n) + s32 (wr (m64 1 * m64 n))))) + s32 (wr (m64 (wr (wr (s32 1 * m64 n) + s32 (wr (m64 1 * m64 n)))) + wr (m64 1 * s32 n))))
theorem hi64_tab : ∀ n : Fin 600, hi64 (n : Nat) = 0 ∧ wr (1 * ((n : Nat) : Int)) = ((n : Nat) : Int) := by decide +kernel
theorem mul125 (h : H) {n : Nat} (hn : n < 600) : ACalls Tryz.prog 125 [.int .u64 1, .int .u64 n] h (fun r h' => h' = h ∧ r = .tup [.int .u64 0, .int .u64 n]) := by
  refine call_ Tryz.func125 rfl rfl (by kernel_rfl) ?_
  conv => whnf
  refine ⟨by decide, ?_⟩
  conv => whnf
  refine ⟨by decide, ?_⟩
  conv => whnf
  refine ⟨by decide, ?_⟩
  conv => whnf
  refine ⟨by decide, ?_⟩
  conv => whnf
  refine ⟨by decide, ?_⟩
  conv => whnf
  have k := hi64_tab ⟨n, hn⟩
  refine ⟨rfl, ?_⟩
  show V.tup [V.int .u64 (hi64 (n : Int)), V.int .u64 (wr (1 * (n : Int)))] = _
  rw [k.1, k.2]
theorem mul118 (h : H) {n : Nat} (hn : n < 600) : ACalls Tryz.prog 118 [.int .u64 1, .int .u64 n] h (fun r h' => h' = h ∧ r = .tup [.int .u64 0, .int .u64 n]) := by
  refine call_ Tryz.func118 rfl rfl (by kernel_rfl) ?_
  conv => whnf
  refine (mul125 h hn).mono ?_
  rintro _ h1 ⟨eh, rfl⟩
  subst h1
  conv => whnf
  refine ⟨_, rfl, ?_⟩
  conv => whnf
  refine ⟨_, rfl, ?_⟩
  conv => whnf
  exact ⟨rfl, rfl⟩
theorem wrap_u64n {n : Nat} (hn : n < 600) : IntKind.u64.wrap (n : Int) = (n : Int) := wrap_u64 (by omega) (by omega)
theorem splice_fill : ∀ (vs cs : List V) (o : Nat), o + vs.length ≤ cs.length → (∀ v ∈ vs, v = i64 (-1)) → (∀ j, j < o → cs[j]? = some (i64 (-1))) → ∀ j, j < o + vs.length → (splice cs o vs)[j]? = some (i64 (-1)) := fun vs cs o h1 h2 h3 j hj => by
  rw [splice_get vs cs o j h1]
  split
  · rename_i q
    have hl : j - o < vs.length := by omega
    rw [List.getElem?_eq_getElem hl, h2 _ (List.getElem_mem hl)]
  · exact h3 j (by omega)
set_option maxHeartbeats 1000000 in
theorem repeat106 {h : H} {i : Nat} (gi : h.obj i = some (.row true 1 [i64 (-1)])) {n : Nat} (h0 : 0 < n) (hn : n < 600) :
    ACalls Tryz.prog 106 [.sl (some (i, 0)) 1, i64 n] h (fun r h' => ∃ q, r = .sl q n ∧ NewSl h h' q n 1 (ints .i64 (List.replicate n (-1))) ∧ Ab.Mod none_ h h') := by
  refine call_ Tryz.func106 rfl rfl (by kernel_rfl) ?_
  conv => whnf
  have w1 : IntKind.u64.wrap ((1 : Nat) : Int) = 1 := by decide
  rw [wrap_u64n hn, w1]
  refine (mul118 h hn).mono ?_
  rintro _ h1 ⟨eh, rfl⟩
  subst h1
  conv => whnf
  refine ⟨_, rfl, ?_⟩
  conv => whnf
  refine ⟨_, rfl, ?_⟩
  conv => whnf
  rw [show decide ((n : Int) > 9223372036854775807) = false from decide_eq_false (by omega)]
  conv => whnf
  have wn : IntKind.i64.wrap (n : Int) = (n : Int) := wrap_i64 (by omega) (by omega)
  refine ⟨n, wn, wn, by omega, by rw [show (T.at_ 3).bytes = 8 from rfl]; omega, ?_⟩
  conv => whnf
  have m1 := Mod.push none_ h (.row true 1 (zerosV n [i64 0]))
  have g1 : (h.push (.row true 1 (zerosV n [i64 0]))).obj h.next = some (.row true 1 (zerosV n [i64 0])) := H.obj_push_new _ _
  have gi1 := m1.get gi (.inl fun k => k)
  have hz : (zerosV n [i64 0]).length = n := by simp [zerosV]
  refine ⟨_, _, [i64 (-1)], ⟨rfl, .inr ⟨i, 0, true, _, rfl, gi1, fun _ => rfl, Nat.le_refl _, rfl⟩⟩, g1, h0, by rw [hz, show (T.at_ 3).size = 1 from rfl]; omega, ?_⟩
  have hmn : min 1 n = 1 := by omega
  rw [hmn]
  have g2 := H.obj_set_same g1 (ob' := .row true 1 (splice (zerosV n [i64 0]) 0 [i64 (-1)]))
  have ms := Mod.set (S := one h.next) (ob := .row true 1 (splice (zerosV n [i64 0]) 0 [i64 (-1)])) rfl g1 rfl
  have mm : Ab.Mod none_ h _ := m1.trans' ms (S2 := none_) (fun _ _ k => k) (fun i hi k => by have k : i = h.next := k; omega)
  conv => whnf
  refine ⟨fun env hh => ∃ (k : Nat) (z : Int) (cs : List V), 0 < k ∧ k ≤ n ∧ z = k ∧ hh.obj h.next = some (.row true 1 cs) ∧ cs.length = n ∧ (∀ j, j < k → cs[j]? = some (i64 (-1))) ∧ Ab.Mod none_ h hh ∧ env = [(8, i64 z), (7, .sl (some (h.next, 0)) n)],
    fun env _ => match get env 8 with
      | .int _ z => (n - z).toNat
      | _ => 0, ⟨_, Forget.cons rfl (Forget.cons rfl (Forget.nil _)), 1, _, _, Nat.one_pos, h0, rfl, g2, by rw [splice_one, List.length_set, hz], splice_fill [i64 (-1)] (zerosV n [i64 0]) 0 (by rw [hz]; exact h0) (fun v k => List.mem_singleton.1 k) (fun j hj => absurd hj (Nat.not_lt_zero j)), mm, rfl⟩, ?_⟩
  clear mm ms g2 hmn hz gi1 g1 m1
  rintro _ hh ⟨k, z, cs, k0, kn, rfl, g, hl, hc, mm, rfl⟩
  conv => whnf
  refine br_mk (fun ha => ?_) (fun ha => ?_)
  · conv => whnf
    simp at ha
    have sl : SlIs hh (some (h.next, 0)) n false 1 cs := ⟨by omega, .inr ⟨h.next, 0, true, _, rfl, g, (fun e => by cases e), by omega, by rw [List.drop_zero, List.take_of_length_le (by omega)]⟩⟩
    refine ⟨[0, 1, 2, 3, 4, 5, 6, 7, 8, 9], [0, 0, 0, 6, 0, 0, 48, 126, 255, 511], by kernel_rfl, ?_⟩
    conv => whnf
    refine ⟨⟨_, sl⟩, ?_⟩
    conv => whnf
    refine ⟨k, rfl, kn, Nat.le_refl _, ?_⟩
    conv => whnf
    refine ⟨⟨_, sl⟩, ?_⟩
    conv => whnf
    refine ⟨k, rfl, Nat.zero_le _, kn, ?_⟩
    conv => whnf
    have sk : SlIs hh (some (h.next, 0)) k false 1 (cs.take k) := ⟨by rw [List.length_take]; omega, .inr ⟨h.next, 0, true, _, rfl, g, (fun e => by cases e), by omega, by rw [List.drop_zero, Nat.mul_one]⟩⟩
    refine ⟨_, _, cs.take k, sk, g, by omega, by rw [show (T.at_ 3).size = 1 from rfl]; omega, ?_⟩
    have hv : ∀ v ∈ (cs.take k).take (min (k - 0) (n - k) * 1), v = i64 (-1) := fun v hv => by
      obtain ⟨j, hj, e⟩ := List.getElem_of_mem hv
      rw [List.length_take, List.length_take] at hj
      have e2 := hc j (by omega)
      rw [List.getElem_take, List.getElem_take] at e
      rw [List.getElem?_eq_getElem (by omega), e] at e2
      injection e2
    have hvl : ((cs.take k).take (min (k - 0) (n - k) * 1)).length = min k (n - k) := by
      rw [List.length_take, List.length_take]
      omega
    have hsp := splice_fill _ cs (0 + k * 1) (by rw [hvl]; omega) hv (fun j hj => hc j (by omega))
    have gs := H.obj_set_same g (ob' := .row true 1 (splice cs (0 + k * 1) ((cs.take k).take (min (k - 0) (n - k) * 1))))
    have ms := Mod.set (S := one h.next) (ob := .row true 1 (splice cs (0 + k * 1) ((cs.take k).take (min (k - 0) (n - k) * 1)))) rfl g rfl
    have mm : Ab.Mod none_ h _ := mm.trans' ms (S2 := none_) (fun _ _ k => k) (fun i hi k => by have k : i = h.next := k; omega)
    have wk : IntKind.i64.wrap ((k : Int) + ((min (k - 0) (n - k) : Nat) : Int)) = ((k + min (k - 0) (n - k) : Nat) : Int) := by
      rw [wrap_i64 (by omega) (by omega)]
      omega
    conv => whnf
    refine ⟨_, Forget.cons rfl (Forget.cons rfl (Forget.nil _)), ⟨k + min (k - 0) (n - k), _, _, by omega, by omega, wk, gs, by rw [splice_length, hl], fun j hj => hsp j (by rw [hvl]; omega), mm, rfl⟩, ?_⟩
    show ((n : Int) - IntKind.i64.wrap ((k : Int) + ((min (k - 0) (n - k) : Nat) : Int))).toNat < ((n : Int) - (k : Int)).toNat
    rw [wk]
    omega
  · conv => whnf
    simp at ha
    obtain rfl : k = n := by omega
    have he : cs = ints .i64 (List.replicate k (-1)) := by
      apply List.ext_getElem?
      intro j
      by_cases q : j < k
      · rw [hc j q]
        simp [ints, q]
      · rw [List.getElem?_eq_none (by omega), List.getElem?_eq_none (by rw [ints_length, List.length_replicate]; omega)]
    rw [he] at g
    exact ⟨_, rfl, ⟨⟨by rw [ints_length, List.length_replicate, Nat.mul_one], .inr ⟨h.next, 0, true, _, rfl, g, fun e => e, by rw [ints_length, List.length_replicate]; omega, by rw [List.drop_zero, List.take_of_length_le (by rw [ints_length, List.length_replicate]; omega)]⟩⟩, fun i o e => by
      injection e with e
      injection e with e
      omega⟩, mm⟩
theorem distNone {h : H} {B t x : Nat} {g : Gra} (s : TuS h B t x g) (h0 : 0 < g.es.length) : ACalls Tryz.prog 83 [.ptr (some (t, 0))] h (fun r h' => ∃ q, r = .sl q g.es.length ∧ NewSl h h' q g.es.length 1 (ints .i64 (List.replicate g.es.length (-1))) ∧ Ab.Mod none_ h h') := by
  have hz := mayG_size s.gr.ok
  refine call_ Tryz.func83 rfl rfl (by kernel_rfl) ?_
  conv => whnf
  have m1 := Mod.push none_ h (.row true 1 [i64 (-1)])
  have g1 : (h.push (.row true 1 [i64 (-1)])).obj h.next = some (.row true 1 [i64 (-1)]) := H.obj_push_new _ _
  have s1 := s.get m1 (fun _ _ k => k)
  obtain ⟨o, A, P, gt, -⟩ := s1.is
  refine ⟨_, Cell.mk gt rfl, ?_⟩
  conv => whnf
  refine (grEdges s1.gr).mono ?_
  rintro _ h2 ⟨eh, rfl⟩
  subst h2
  conv => whnf
  refine (repeat106 g1 h0 (by omega)).mono ?_
  rintro _ h3 ⟨q, rfl, w, m3⟩
  conv => whnf
  exact ⟨q, rfl, ⟨w.1, fun i o e => Nat.le_trans (Nat.le_succ _) (w.2 i o e)⟩, mod_none m1 m3⟩
def shutB (c : List Bool) (e : Nat) : Bool := c.getD e false
theorem shut88 {h : H} {q : Option (Nat × Nat)} {c : List Bool} (s : SlIs h q c.length false 1 (bools c)) (e : Nat) : ACalls Tryz.prog 88 [.sl q c.length, i64 e] h (fun r h' => h' = h ∧ r = .bool (shutB c e)) := by
  refine call_ Tryz.func88 rfl rfl (by kernel_rfl) ?_
  conv => whnf
  refine br_mk (fun ha => ?_) (fun ha => ?_)
  · conv => whnf
    have ha : e < c.length := by simpa using ha
    obtain ⟨i, o, e1, k1⟩ := slb_get s rfl ha
    refine ⟨i, o, e, e1, rfl, ha, ?_⟩
    conv => whnf
    refine ⟨_, k1, ?_⟩
    conv => whnf
    exact ⟨rfl, rfl⟩
  · conv => whnf
    have ha : ¬ e < c.length := by simpa using ha
    exact ⟨rfl, by rw [shutB, List.getD_eq_getElem?_getD, List.getElem?_eq_none (by omega)]; rfl⟩
theorem weight90 {h : H} {B t x : Nat} {g : Gra} (s : TuS h B t x g) (hB : B ≤ h.next) (e : Int) : ACalls Tryz.prog 90 [.ptr (some (t, 0)), i64 e] h (fun r h' => r = i64 (edV g e).2.2 ∧ Ab.Mod none_ h h') := by
  refine call_ Tryz.func90 rfl rfl (by kernel_rfl) ?_
  conv => whnf
  obtain ⟨o, A, P, gt, -⟩ := s.is
  refine ⟨_, Cell.mk gt rfl, ?_⟩
  conv => whnf
  refine (grEdge s.gr hB e).mono ?_
  rintro _ h1 ⟨rfl, m1⟩
  conv => whnf
  refine ⟨_, rfl, ?_⟩
  conv => whnf
  refine ⟨_, rfl, ?_⟩
  conv => whnf
  obtain ⟨g0, gx, mx⟩ := lay_row (h := h1) (sz := 3) [i64 0, i64 0, i64 0] (eC (edV g e))
  refine ⟨_, _, g0, Nat.le_of_ble_eq_true rfl, ?_⟩
  conv => whnf
  refine ⟨_, Cell.mk gx rfl, ?_⟩
  conv => whnf
  exact ⟨rfl, mod_none m1 mx⟩
end Go.Proofs.YteapijoibimfnaaGreat
/-! How far it is to a node: the engine's search. -/
namespace Go.Proofs.YteapijoibimfnaaGreat
open Go Go.Ab
def rdOf (g : Gra) (v : Nat) (c : List Bool) : Rd := ⟨g.es.length, fun a b => decide (b ∈ nextN g a), fun e => (edV g (e : Int)).2.2, fun e => toK g e == v, fun e => shutB c e⟩
theorem edV_nat {g : Gra} {e : Nat} (he : e < g.es.length) : edV g (e : Int) = g.es[e] := edV_ok (g := g) (i := (e : Int)) (by omega) (by show e < _; exact he)
theorem rdOf_ok {g : Gra} (hm : mayG g = true) (v : Nat) (c : List Bool) : (rdOf g v c).ok := by
  refine ⟨fun e he => ?_, fun e he => ?_, (mayG_size hm).2.2.1⟩
  · have := mayG_edge hm he
    show 1 ≤ (edV g (e : Int)).2.2
    rw [edV_nat he]
    omega
  · have := mayG_edge hm he
    show (edV g (e : Int)).2.2 ≤ 65535
    rw [edV_nat he]
    omega
theorem prevN_mem {g : Gra} {a b : Nat} : a ∈ prevN g b ↔ a < g.es.length ∧ b ∈ nextN g a := by simp [prevN]
theorem inL_nat {g : Gra} {k : Nat} (hk : k < g.ns.length) : inL g (k : Int) = natL (rowOf (toK g) k g.es.length) := by
  rw [inL, if_pos (ndIn_ok (by omega) (by omega))]
  rfl
theorem nodup_le : ∀ (N : Nat) (l : List Nat), l.Nodup → (∀ x ∈ l, x < N) → l.length ≤ N
  | 0, [], _, _ => Nat.le_refl _
  | 0, a :: l, _, h => absurd (h a (List.mem_cons_self)) (Nat.not_lt_zero a)
  | N + 1, l, nd, h => by
    have ih := nodup_le N (l.erase N) (nd.erase N) fun x hx => by
      have h1 := (List.Nodup.mem_erase_iff nd).1 hx
      have h2 := h x h1.2
      omega
    by_cases q : N ∈ l
    · rw [List.length_erase_of_mem q] at ih
      omega
    · rw [List.erase_of_not_mem q] at ih
      omega
theorem IxOk.nodup {l ms : List (Int × Int)} (o : IxOk l ms) : (l.map fun y => y.1).Nodup := by
  rw [List.nodup_iff_pairwise_ne, List.pairwise_map, List.pairwise_iff_getElem]
  intro i j hi hj hij e
  have := o.uniq hi hj (by rw [atL_get hi, atL_get hj]; exact e)
  omega
theorem HpS.len {h : H} {x : Nat} {F : Nat → Prop} {L : List (Int × Int)} (s : HpS h x F L) {N : Nat} (hL : ∀ y ∈ L, ∃ e : Nat, e < N ∧ y.1 = (e : Int)) : L.length ≤ N := by
  rcases s with ⟨_, rfl, _⟩ | ⟨p, mi, ms, _, r, o⟩
  · exact Nat.zero_le _
  · have nd := o.nodup
    have h1 := nodup_le N ((L.map fun y => y.1).map Int.toNat) ?_ ?_
    · rwa [List.length_map, List.length_map] at h1
    · rw [List.nodup_iff_pairwise_ne, List.pairwise_map]
      refine List.Pairwise.imp_of_mem (fun {a b} ha hb hne e => hne ?_) (List.nodup_iff_pairwise_ne.1 nd)
      obtain ⟨y, hy, rfl⟩ := List.mem_map.1 ha
      obtain ⟨z, hz, rfl⟩ := List.mem_map.1 hb
      obtain ⟨e1, _, h1⟩ := hL y hy
      obtain ⟨e2, _, h2⟩ := hL z hz
      omega
    · intro k hk
      obtain ⟨i, hi, rfl⟩ := List.mem_map.1 hk
      obtain ⟨y, hy, rfl⟩ := List.mem_map.1 hi
      obtain ⟨e1, h0, h1⟩ := hL y hy
      omega
def negV : V → Bool
  | .int _ z => decide (z < 0)
  | _ => false
def muS (q : Option (Nat × Nat)) (n : Nat) (h : H) : Nat := match q with
  | some (i, o) => (match h.obj i with
    | some (.row _ _ cs) => ((cs.drop o).take n).countP negV
    | _ => 0)
  | none => 0
theorem muS_ints (d : List Int) : (ints .i64 d).countP negV = negs d := by
  unfold ints negs
  rw [List.countP_map]
  rfl
theorem muS_eq {h : H} {q : Option (Nat × Nat)} {n : Nat} {own : Bool} {d : List Int} (s : SlIs h q n own 1 (ints .i64 d)) : muS q n h = negs d := by
  obtain ⟨hl, hr⟩ := s
  rcases hr with ⟨rfl, hp⟩ | ⟨i, o, o', r, rfl, hi, _, _, hc⟩
  · have hd : d = [] := by
      rw [ints_length] at hl
      exact List.eq_nil_of_length_eq_zero (by omega)
    subst hd
    unfold muS
    split
    · split
      · simp [negs]
      · rfl
    · rfl
  · unfold muS
    simp only [hi]
    rw [Nat.mul_one] at hc
    rw [hc, muS_ints]
def muE (n : Nat) (env : Env) (h : H) : Nat := match get env 7 with
  | .sl q _ => muS q n h
  | _ => 0
/-- the state of the search -/
structure ToS (h hh : H) (x : Nat) (qo : Option (Nat × Nat)) (N : Nat) (d : List Int) (F : Nat → Prop) (L : List (Int × Int)) : Prop where
  hp : HpS hh x F L
  out : SlIs hh qo N true 1 (ints .i64 d)
  ln : d.length = N
  sep : ∀ i, F i → ¬ inSl qo i
  new : ∀ i, F i → h.next ≤ i
  newo : ∀ i, inSl qo i → h.next ≤ i
  md : Ab.Mod none_ h hh
theorem ToS.keep {h hh h' : H} {x : Nat} {qo : Option (Nat × Nat)} {N : Nat} {d : List Int} {F : Nat → Prop} {L : List (Int × Int)} (s : ToS h hh x qo N d F L) (m : Ab.Mod none_ hh h') : ToS h h' x qo N d F L :=
  ⟨s.hp.get m fun _ _ k => k, SlIs.old s.out m fun _ _ k => k, s.ln, s.sep, s.new, s.newo, mod_none s.md m⟩
theorem ToS.heap {h hh h' : H} {x : Nat} {qo : Option (Nat × Nat)} {N : Nat} {d : List Int} {F F' : Nat → Prop} {L L' : List (Int × Int)} (s : ToS h hh x qo N d F L) (hp : HpS h' x F' L') (hF : ∀ i, F' i → F i ∨ hh.next ≤ i) (m : Ab.Mod F hh h') : ToS h h' x qo N d F' L' :=
  ⟨hp, s.out.get m fun i o e => .inl fun k => s.sep i k ⟨o, e⟩, s.ln, fun i k hi => (hF i k).elim (fun k => s.sep i k hi) fun k => absurd (SlIs.own_lt s.out hi) (by omega), fun i k => (hF i k).elim (s.new i) fun k => Nat.le_trans s.md.next k, s.newo,
    s.md.trans' m (fun _ _ k => k) fun i hi k => absurd (s.new i k) (by omega)⟩
theorem ToS.put {h hh : H} {x : Nat} {qo : Option (Nat × Nat)} {N : Nat} {d : List Int} {F : Nat → Prop} {L : List (Int × Int)} (s : ToS h hh x qo N d F L) {e : Nat} (he : e < N) (v : Int) :
    ∃ i c sz cs, qo = some (i, c) ∧ hh.obj i = some (.row true sz cs) ∧ c + e * 1 + 1 ≤ cs.length ∧ ToS h (hh.set i (.row true sz (splice cs (c + e * 1) [V.int .i64 v]))) x qo N (d.set e v) F L := by
  obtain ⟨i, c, sz, cs, e1, e2, e3, e4⟩ := own_put s.out he v
  have ms := Mod.set (S := one i) (ob := .row true sz (splice cs (c + e * 1) [V.int .i64 v])) rfl e2 rfl
  refine ⟨i, c, sz, cs, e1, e2, e3, s.hp.get ms fun j k q => s.sep j k ⟨c, by rw [e1, show j = i from q]⟩, e4, by rw [List.length_set]; exact s.ln, s.sep, s.new, s.newo, s.md.trans' ms (fun _ _ k => k) fun j hj k => ?_⟩
  have := s.newo i ⟨c, e1⟩
  have k : j = i := k
  omega
end Go.Proofs.YteapijoibimfnaaGreat
/-! How far it is to a node: the walk. -/
namespace Go.Proofs.YteapijoibimfnaaGreat
open Go Go.Ab
theorem rowL_nat {g : Gra} {b : Bool} {e : Nat} (he : e < g.es.length) : rowL g b (e : Int) = natL (LE g b e) := by
  rw [rowL, if_pos (edIn_ok (by omega) (by omega))]
  rfl
def FinL (g : Gra) (k : Nat) (L : List (Int × Int)) : Prop := ∀ y ∈ L, ∃ e : Nat, e < g.es.length ∧ y = ((e : Int), 0) ∧ toK g e = k
theorem FinL.push {g : Gra} {k : Nat} {L L' : List (Int × Int)} {e : Nat} (f : FinL g k L) (he : e < g.es.length) (hk : toK g e = k) (h : HPush L e 0 L') : FinL g k L' ∧ ((e : Int), (0 : Int)) ∈ L' ∧ ∀ w ∈ L, w.2 = 0 → w ∈ L' := by
  rcases h with ⟨⟨k0, h1, h2⟩, h3⟩ | ⟨h1, h3⟩
  · refine ⟨fun y hy => f y ((h3 y).1 hy), (h3 _).2 ?_, fun w hw _ => (h3 w).2 hw⟩
    obtain ⟨e', _, q, _⟩ := f _ h1
    injection q with q1 q2
    rw [← q2]
    exact h1
  · refine ⟨fun y hy => ?_, (h3 _).2 (.inl rfl), fun w hw h0 => (h3 w).2 ?_⟩
    · rcases (h3 y).1 hy with rfl | hy
      · exact ⟨e, he, rfl, hk⟩
      · exact f y hy.1
    · by_cases q : w.1 = (e : Int)
      · exact .inl (by rw [← q, ← h0])
      · exact .inr ⟨hw, q⟩
theorem mem_of_take_succ {l : List Nat} {j : Nat} (hj : j < l.length) {p : Nat} (h : p ∉ l.take j) (hp : p ≠ l[j]) : p ∉ l.take (j + 1) := by
  rw [take_snoc hj, List.mem_append, List.mem_singleton]
  exact fun k => k.elim h hp
def ToI1 (g : Gra) (h : H) (t hx k : Nat) (qo qc qi : Option (Nat × Nat)) (c : List Bool) (env : Env) (hh : H) : Prop := ∃ (j : Nat) (z : Int) (F : Nat → Prop) (L : List (Int × Int)), j ≤ (rowOf (toK g) k g.es.length).length ∧ z = j ∧ ToS h hh hx qo g.es.length (List.replicate g.es.length (-1)) F L ∧ FinL g k L ∧
  (∀ i (hi : i < (rowOf (toK g) k g.es.length).length), i < j → (((rowOf (toK g) k g.es.length)[i] : Int), (0 : Int)) ∈ L) ∧ SlIs hh qi (rowOf (toK g) k g.es.length).length true 1 (ints .i64 (natL (rowOf (toK g) k g.es.length))) ∧ (∀ i, inSl qi i → ¬ F i) ∧
  env = [(42, i64 z), (41, i64 (rowOf (toK g) k g.es.length).length), (40, .sl qi (rowOf (toK g) k g.es.length).length), (8, .ptr (some (hx, 0))), (7, .sl qo g.es.length), (2, .sl qc c.length), (0, .ptr (some (t, 0)))]
def ToI2 (g : Gra) (h : H) (t hx k : Nat) (qo qc : Option (Nat × Nat)) (c : List Bool) (env : Env) (hh : H) : Prop := ∃ (d : List Int) (F : Nat → Prop) (L : List (Int × Int)), ToS h hh hx qo g.es.length d F L ∧ DI (rdOf g k c) d L (fun _ _ => False) ∧
  env = [(8, .ptr (some (hx, 0))), (7, .sl qo g.es.length), (2, .sl qc c.length), (0, .ptr (some (t, 0)))]
def ToI3 (g : Gra) (h : H) (t hx k e : Nat) (y : Int) (d : List Int) (qo qc qp : Option (Nat × Nat)) (c : List Bool) (env : Env) (hh : H) : Prop := ∃ (j : Nat) (z : Int) (F : Nat → Prop) (L : List (Int × Int)), j ≤ (prevN g e).length ∧ z = j ∧ ToS h hh hx qo g.es.length d F L ∧ DI (rdOf g k c) d L (fun a p => a = e ∧ p ∉ (prevN g e).take j) ∧
  SlIs hh qp (prevN g e).length true 1 (ints .i64 (natL (prevN g e))) ∧ (∀ i, inSl qp i → ¬ F i) ∧
  env = [(70, i64 z), (69, i64 (prevN g e).length), (68, .sl qp (prevN g e).length), (12, i64 y), (11, i64 e), (8, .ptr (some (hx, 0))), (7, .sl qo g.es.length), (2, .sl qc c.length), (0, .ptr (some (t, 0)))]
set_option maxHeartbeats 4000000 in
theorem distTo {h : H} {B t x : Nat} {g : Gra} (s : TuS h B t x g) (hB : B ≤ h.next) (h0 : 0 < g.es.length) {k : Nat} (hk : k < g.ns.length) {qc : Option (Nat × Nat)} {c : List Bool} (sc : SlIs h qc c.length false 1 (bools c)) :
    ACalls Tryz.prog 74 [.ptr (some (t, 0)), i64 k, .sl qc c.length] h (fun r h' => ∃ q d, r = .sl q g.es.length ∧ NewSl h h' q g.es.length 1 (ints .i64 d) ∧ Ab.Mod none_ h h' ∧ FarOk (rdOf g k c) d ∧ FarNext (rdOf g k c) d ∧ ∀ e, d.getD e 0 ≤ 100000000) := by
  have hz := mayG_size s.gr.ok
  have ok := rdOf_ok s.gr.ok k c
  refine call_ Tryz.func74 rfl rfl (by kernel_rfl) ?_
  conv => whnf
  obtain ⟨o, A, P, gt, -⟩ := s.is
  refine ⟨_, Cell.mk gt rfl, ?_⟩
  conv => whnf
  refine (grNodes s.gr).mono ?_
  rintro _ h1 ⟨eh, rfl⟩
  subst h1
  conv => whnf
  refine br_mk (fun ha => ?_) (fun ha => ?_)
  · have ha : g.ns.length ≤ k := by simpa using ha
    omega
  conv => whnf
  refine (distNone s h0).mono ?_
  rintro _ h1 ⟨qo, rfl, w1, m1⟩
  conv => whnf
  have m2 := Mod.push none_ h1 (.row true 2 [.sl none 0, .mp none])
  have g2 : (h1.push (.row true 2 [.sl none 0, .mp none])).obj h1.next = some (.row true 2 [.sl none 0, .mp none]) := H.obj_push_new _ _
  have S0 : ToS h _ h1.next qo g.es.length (List.replicate g.es.length (-1)) (one h1.next) [] := ⟨.inl ⟨rfl, rfl, g2⟩, SlIs.old w1.1 m2 (fun _ _ k => k), List.length_replicate, fun i hi hq => by
    have := SlIs.own_lt w1.1 hq
    have hi : i = h1.next := hi
    omega, fun i hi => by
    have hi : i = h1.next := hi
    rw [hi]
    exact m1.next, fun i ⟨o, e⟩ => w1.2 i o e, mod_none m1 m2⟩
  have gt2 := S0.md.get gt (.inl fun k => k)
  refine ⟨_, Cell.mk gt2 rfl, ?_⟩
  conv => whnf
  refine (grIn (s.gr.get S0.md (fun _ _ k => k)) k).mono ?_
  rintro _ h3 ⟨qi, rfl, w3, m3⟩
  rw [inL_nat hk] at w3
  rw [inL_nat hk]
  simp only [natL_len] at w3 ⊢
  have S1 := S0.keep m3
  conv => whnf
  refine ⟨ToI1 g h t h1.next k qo qc qi c, fun env _ => TnMu 42 (rowOf (toK g) k g.es.length).length env, ⟨_, Forget.cons rfl (Forget.cons rfl (Forget.cons rfl (Forget.cons rfl (Forget.cons rfl (Forget.cons rfl (Forget.cons rfl (Forget.nil _))))))), 0, 0, _, _, Nat.zero_le _, rfl, S1, (fun y hy => by cases hy), fun i hi hi0 => absurd hi0 (Nat.not_lt_zero i), w3.1, fun i ⟨o, e⟩ hi => by
    have := w3.2 i o e
    have hi : i = h1.next := hi
    have : h1.next + 1 ≤ i := this
    omega, rfl⟩, ?_⟩
  clear S0 S1 w3 m3 gt2 m2 g2 w1
  rintro _ hh ⟨j, z, F, L, hj, rfl, S, f, hin, wq, hq, rfl⟩
  conv => whnf
  refine br_mk (fun hd => ?_) (fun hd => ?_)
  · conv => whnf
    simp at hd
    obtain ⟨i1, c1, e1, k1⟩ := slo_get wq.weak hd
    refine ⟨i1, c1, j, e1, rfl, hd, ?_⟩
    conv => whnf
    refine ⟨_, k1, ?_⟩
    conv => whnf
    rw [natL_get hd]
    obtain ⟨q1, q2⟩ := rowOf_mem.1 (List.getElem_mem hd)
    have hl := S.hp.len (N := g.es.length) fun y hy => by
      obtain ⟨e, a1, a2, _⟩ := f y hy
      exact ⟨e, a1, by rw [a2]⟩
    refine (heapPush S.hp (by omega) (rowOf (toK g) k g.es.length)[j] 0).mono ?_
    rintro _ h4 ⟨⟨b, rfl⟩, ⟨F', L', hp', hF', hP, _⟩, m4⟩
    obtain ⟨f1, f2, f3⟩ := f.push q1 q2 hP
    conv => whnf
    have hs2 := succ_i64 (j := j) (n := (rowOf (toK g) k g.es.length).length) hd (by have := rowOf_len (toK g) k g.es.length; omega)
    refine ⟨_, Forget.cons rfl (Forget.cons rfl (Forget.cons rfl (Forget.cons rfl (Forget.cons rfl (Forget.cons rfl (Forget.cons rfl (Forget.nil _))))))), ⟨j + 1, _, F', L', by omega, hs2, S.heap hp' hF' m4, f1, fun i hi hij => ?_, wq.get m4 (fun i o e => .inl (hq i ⟨o, e⟩)), fun i hi hi2 => (hF' i hi2).elim (hq i hi) fun k => absurd (SlIs.own_lt wq hi) (by omega), rfl⟩, ?_⟩
    · by_cases q : i = j
      · subst q
        exact f2
      · exact f3 _ (hin i hi (by omega)) rfl
    · show (((rowOf (toK g) k g.es.length).length : Int) - IntKind.i64.wrap ((j : Int) + 1)).toNat < (((rowOf (toK g) k g.es.length).length : Int) - (j : Int)).toNat
      rw [hs2]
      omega
  conv => whnf
  simp at hd
  have D0 : DI (rdOf g k c) (List.replicate g.es.length (-1)) L (fun _ _ => False) := DI.begin (G := rdOf g k c) (fun y hy => by
    obtain ⟨e, a1, a2, a3⟩ := f y hy
    exact ⟨e, a1, a2, beq_iff_eq.2 a3⟩) fun e he hf => by
    obtain ⟨i, hi, q⟩ := List.getElem_of_mem (rowOf_mem.2 ⟨he, beq_iff_eq.1 hf⟩ : e ∈ rowOf (toK g) k g.es.length)
    have := hin i hi (by omega)
    rw [q] at this
    exact this
  refine ⟨ToI2 g h t h1.next k qo qc c, fun env hh => muE g.es.length env hh, ⟨_, Forget.cons rfl (Forget.cons rfl (Forget.cons rfl (Forget.cons rfl (Forget.nil _)))), _, F, L, S, D0, rfl⟩, ?_⟩
  clear D0 S f hin wq hq hd hj
  rintro _ hh ⟨d, F, L, S, D, rfl⟩
  conv => whnf
  have hl := S.hp.len (N := g.es.length) fun y hy => by
    obtain ⟨e, a1, a2, _⟩ := D.heap y hy
    exact ⟨e, a1, a2⟩
  refine (heapLen S.hp).mono ?_
  rintro _ h4 ⟨eh, rfl⟩
  subst h4
  conv => whnf
  refine br_mk (fun hd => ?_) (fun hd => ?_)
  · conv => whnf
    simp at hd
    have hmu : muS qo g.es.length hh = negs d := muS_eq S.out
    refine (heapPop S.hp (by omega) (fun e => by simp [e] at hd)).mono ?_
    rintro _ h5 ⟨⟨y1, y2⟩, F', L', rfl, hp', hF', hP, _, m5⟩
    obtain ⟨e, he, e1, e2, e3, e4, D'⟩ := D.pop hP
    obtain rfl : y1 = (e : Int) := e1
    have S := S.heap hp' hF' m5
    conv => whnf
    refine ⟨_, rfl, ?_⟩
    conv => whnf
    refine ⟨_, rfl, ?_⟩
    conv => whnf
    refine ⟨_, rfl, ?_⟩
    conv => whnf
    obtain ⟨i1, c1, sz, cs, k1, k2, k3, S'⟩ := S.put he y2
    refine ⟨i1, c1, e, k1, rfl, he, ?_⟩
    conv => whnf
    refine ⟨_, _, k2, k3, ?_⟩
    conv => whnf
    refine (shut88 (SlIs.old sc S'.md (fun _ _ k => k)) e).mono ?_
    rintro _ h6 ⟨eh, rfl⟩
    subst h6
    conv => whnf
    have he : e < g.es.length := he
    have e3 : negs (d.set e y2) + 1 = negs d := e3
    have e4 : y2 ≤ 65535 * ((g.es.length - negs d : Nat) : Int) := e4
    have e0 : 0 ≤ y2 := e2
    have D' : DI (rdOf g k c) (d.set e y2) L' fun a _ => a = e := D'
    have hln : d.length = g.es.length := D.len
    have hge : (d.set e y2).getD e 0 = y2 := by rw [getD_set' (by omega), if_pos rfl]
    have hmu2 : ∀ {hh' : H} {F0 : Nat → Prop} {L0 : List (Int × Int)}, ToS h hh' h1.next qo g.es.length (d.set e y2) F0 L0 → muS qo g.es.length hh' < muS qo g.es.length hh := fun T => by
      rw [muS_eq T.out, hmu]
      omega
    refine br_mk (fun hc => ?_) (fun hc => ?_)
    · conv => whnf
      refine ⟨_, Forget.cons rfl (Forget.cons rfl (Forget.cons rfl (Forget.cons rfl (Forget.nil _)))), ⟨d.set e y2, F', L', S', D'.wide fun a p ha hp ht hcl h0 hae => ?_, rfl⟩, hmu2 S'⟩
      subst hae
      have hcl : shutB c a = false := hcl
      rw [hc] at hcl
      cases hcl
    conv => whnf
    refine (tuPrev (s.get S'.md (fun _ _ k => k)) e).mono ?_
    rintro _ h7 ⟨qp, rfl, w7, m7⟩
    rw [rowL_nat he] at w7
    rw [rowL_nat he]
    have hLE : LE g false e = prevN g e := rfl
    rw [hLE] at w7 ⊢
    simp only [natL_len] at w7 ⊢
    have S7 := S'.keep m7
    have hpl : (prevN g e).length ≤ g.es.length := LE_len (g := g) (b := false) (k := e)
    conv => whnf
    refine ⟨ToI3 g h t h1.next k e y2 (d.set e y2) qo qc qp c, fun env _ => TnMu 70 (prevN g e).length env, ⟨_, Forget.cons rfl (Forget.cons rfl (Forget.cons rfl (Forget.cons rfl (Forget.cons rfl (Forget.cons rfl (Forget.cons rfl (Forget.cons rfl (Forget.cons rfl (Forget.nil _))))))))), 0, 0, F', L', Nat.zero_le _, rfl, S7, D'.wide (fun a p _ _ _ _ _ hae => .inl ⟨hae, (fun q => by cases q)⟩), w7.1, fun i ⟨o, eo⟩ hi => ?_, rfl⟩, ?_⟩
    · have h71 : h5.next ≤ i := w7.2 i o eo
      have h72 := hF' i hi
      have h73 := hp'.lt hi
      omega
    clear S7 m7 w7 hp' hF' hP
    rintro _ h8 ⟨j, z, F8, L8, hj, rfl, S8, D8, wp, hq8, rfl⟩
    conv => whnf
    refine br_mk (fun hd => ?_) (fun hd => ?_)
    · conv => whnf
      simp at hd
      obtain ⟨i2, c2, e2', k2'⟩ := slo_get wp.weak hd
      refine ⟨i2, c2, j, e2', rfl, hd, ?_⟩
      conv => whnf
      refine ⟨_, k2', ?_⟩
      conv => whnf
      rw [natL_get hd]
      obtain ⟨p1, p2⟩ := prevN_mem.1 (List.getElem_mem hd)
      have hs2 := succ_i64 (j := j) (n := (prevN g e).length) hd (by have := (mayG_size s.gr.ok).2.2.1; omega)
      have hmu3 : (((prevN g e).length : Int) - IntKind.i64.wrap ((j : Int) + 1)).toNat < (((prevN g e).length : Int) - (j : Int)).toNat := by
        rw [hs2]
        omega
      obtain ⟨i3, c3, e5, k5⟩ := slo_get S8.out.weak p1
      refine ⟨i3, c3, (prevN g e)[j], e5, rfl, p1, ?_⟩
      conv => whnf
      refine ⟨_, k5, ?_⟩
      conv => whnf
      refine br_mk (fun hn => ?_) (fun hn => ?_)
      · conv => whnf
        have hn : (d.set e y2).getD (prevN g e)[j] 0 < 0 := by simpa using hn
        refine (weight90 (s.get S8.md (fun _ _ k => k)) (Nat.le_trans hB S8.md.next) e).mono ?_
        rintro _ h9 ⟨rfl, m9⟩
        have S9 := S8.keep m9
        conv => whnf
        have wk1 := ok.w1 e he
        have wk2 := ok.w2 e he
        have wk1 : 1 ≤ (edV g (e : Int)).2.2 := wk1
        have wk2 : (edV g (e : Int)).2.2 ≤ 65535 := wk2
        have hNN := (mayG_size s.gr.ok).2.2.1
        have hkey : IntKind.i64.wrap (y2 + (edV g (e : Int)).2.2) = y2 + (edV g (e : Int)).2.2 := wrap_i64 (by omega) (by omega)
        rw [hkey]
        have hl9 := S9.hp.len (N := g.es.length) fun y hy => by
          obtain ⟨e, a1, a2, _⟩ := D8.heap y hy
          exact ⟨e, a1, a2⟩
        refine (heapPush S9.hp (by omega) (prevN g e)[j] (y2 + (edV g (e : Int)).2.2)).mono ?_
        rintro _ h10 ⟨⟨b, rfl⟩, ⟨F10, L10, hp10, hF10, hP10, _⟩, m10⟩
        conv => whnf
        have hcf : shutB c e = false := by simpa using hc
        have hneg := negs_le (d.set e y2)
        have hneg2 := negs_le d
        have hlen2 : (d.set e y2).length = g.es.length := by rw [List.length_set]; exact hln
        obtain ⟨D10, k10⟩ := D8.push ok (L' := L10) he p1 (decide_eq_true p2) hcf (by rw [hge]; exact e0) (by rw [hge]; show _ ≤ 65535 * ((g.es.length - negs (d.set e y2) : Nat) : Int); omega) hn (by rw [hge]; exact hP10)
        refine ⟨_, Forget.cons rfl (Forget.cons rfl (Forget.cons rfl (Forget.cons rfl (Forget.cons rfl (Forget.cons rfl (Forget.cons rfl (Forget.cons rfl (Forget.cons rfl (Forget.nil _))))))))), ⟨j + 1, _, F10, L10, by omega, hs2, S9.heap hp10 hF10 m10, D10.wide (fun a p _ _ _ _ _ hae => ?_), (SlIs.old wp m9 (fun _ _ k => k)).get m10 (fun i o e => .inl (hq8 i ⟨o, e⟩)), fun i hi hi2 => (hF10 i hi2).elim (hq8 i hi) fun q => absurd (SlIs.own_lt wp hi) (by have := m9.next; omega), rfl⟩, hmu3⟩
        by_cases q : p = (prevN g e)[j]
        · subst q
          exact .inr (.inr k10)
        · exact .inl ⟨hae.1, mem_of_take_succ hd hae.2 q⟩
      · conv => whnf
        have hn : 0 ≤ (d.set e y2).getD (prevN g e)[j] 0 := by simpa using hn
        refine ⟨_, Forget.cons rfl (Forget.cons rfl (Forget.cons rfl (Forget.cons rfl (Forget.cons rfl (Forget.cons rfl (Forget.cons rfl (Forget.cons rfl (Forget.cons rfl (Forget.nil _))))))))), ⟨j + 1, _, F8, L8, by omega, hs2, S8, D8.wide (fun a p _ _ _ _ _ hae => ?_), wp, hq8, rfl⟩, hmu3⟩
        by_cases q : p = (prevN g e)[j]
        · subst q
          exact .inr (.inl hn)
        · exact .inl ⟨hae.1, mem_of_take_succ hd hae.2 q⟩
    conv => whnf
    simp at hd
    have hjj : j = (prevN g e).length := by omega
    subst hjj
    refine ⟨_, Forget.cons rfl (Forget.cons rfl (Forget.cons rfl (Forget.cons rfl (Forget.nil _)))), ⟨d.set e y2, F8, L8, S8, D8.wide fun a p ha hp ht hcl h0 hae => ?_, rfl⟩, hmu2 S8⟩
    obtain ⟨rfl, h2⟩ := hae
    rw [List.take_length] at h2
    exact absurd (prevN_mem.2 ⟨hp, of_decide_eq_true ht⟩) h2
  · conv => whnf
    have hd : L.length = 0 := by simpa using hd
    have hL : L = [] := List.eq_nil_of_length_eq_zero hd
    subst hL
    have hNN := (mayG_size s.gr.ok).2.2.1
    exact ⟨qo, d, rfl, ⟨S.out, fun i o e => S.newo i ⟨o, e⟩⟩, S.md, D.end.1, D.end.2, fun e => by
      by_cases he : e < g.es.length
      · by_cases h0 : 0 ≤ d.getD e 0
        · have h1 := (D.set e he h0).2
          have h2 : d.getD e 0 ≤ 65535 * ((g.es.length - negs d : Nat) : Int) := h1
          omega
        · omega
      · have hl : d.length = g.es.length := D.len
        rw [List.getD_eq_getElem?_getD, List.getElem?_eq_none (by omega)]
        decide⟩
end Go.Proofs.YteapijoibimfnaaGreat
/-! The least of all shortest ways: the walk. -/
namespace Go.Proofs.YteapijoibimfnaaGreat
open Go Go.Ab
theorem nextN_lt {g : Gra} {e n : Nat} (h : n ∈ nextN g e) : n < g.es.length := (rowOf_mem.1 (List.mem_filter.1 h).1).1
theorem rowL_next {g : Gra} {e : Nat} (he : e < g.es.length) : rowL g true (e : Int) = natL (nextN g e) := rowL_nat he
theorem nextN_len {g : Gra} {e : Nat} : (nextN g e).length ≤ g.es.length := LE_len (g := g) (b := true) (k := e)
/-- the next one of a shortest way -/
def Nxt (g : Gra) (c : List Bool) (d : List Int) (e n : Nat) : Prop := n < g.es.length ∧ shutB c n = false ∧ 0 ≤ d.getD n 0 ∧ d.getD n 0 < d.getD e 0 ∧ d.getD n 0 = d.getD e 0 - (edV g (n : Int)).2.2
def StI (g : Gra) (h : H) (t e : Nat) (d : List Int) (qn qf qc : Option (Nat × Nat)) (c : List Bool) (env : Env) (hh : H) : Prop := ∃ (j : Nat) (z : Int), j ≤ (nextN g e).length ∧ z = j ∧ (∀ i (hi : i < (nextN g e).length), i < j → ¬ Nxt g c d e (nextN g e)[i]) ∧ Ab.Mod none_ h hh ∧
  SlIs hh qn (nextN g e).length true 1 (ints .i64 (natL (nextN g e))) ∧
  env = [(18, i64 z), (17, i64 (nextN g e).length), (16, .sl qn (nextN g e).length), (3, .sl qc c.length), (2, .sl qf d.length), (1, i64 e), (0, .ptr (some (t, 0)))]
set_option maxHeartbeats 4000000 in
theorem step82 {h : H} {B t x : Nat} {g : Gra} (s : TuS h B t x g) (hB : B ≤ h.next) {e : Nat} (he : e < g.es.length) {d : List Int} {qf : Option (Nat × Nat)} {ow : Bool} (sf : SlIs h qf d.length ow 1 (ints .i64 d)) (hd : d.length = g.es.length) (db : ∀ e, d.getD e 0 ≤ 1000000000) {qc : Option (Nat × Nat)} {c : List Bool} (sc : SlIs h qc c.length false 1 (bools c))
    (hg : ∃ n, n ∈ nextN g e ∧ Nxt g c d e n) : ACalls Tryz.prog 82 [.ptr (some (t, 0)), i64 e, .sl qf d.length, .sl qc c.length] h (fun r h' => ∃ n : Nat, r = i64 n ∧ n ∈ nextN g e ∧ Nxt g c d e n ∧ Ab.Mod none_ h h') := by
  have hz := mayG_size s.gr.ok
  have hnl := nextN_len (g := g) (e := e)
  refine call_ Tryz.func82 rfl rfl (by kernel_rfl) ?_
  conv => whnf
  refine (tuNext s e).mono ?_
  rintro _ h1 ⟨qn, rfl, w1, m1⟩
  rw [rowL_next he] at w1 ⊢
  simp only [natL_len] at w1 ⊢
  conv => whnf
  refine ⟨StI g h t e d qn qf qc c, fun env _ => TnMu 18 (nextN g e).length env, ⟨_, Forget.cons rfl (Forget.cons rfl (Forget.cons rfl (Forget.cons rfl (Forget.cons rfl (Forget.cons rfl (Forget.cons rfl (Forget.nil _))))))), 0, 0, Nat.zero_le _, rfl, (fun i _ hi => absurd hi (Nat.not_lt_zero i)), m1, w1.1, rfl⟩, ?_⟩
  clear w1 m1
  rintro _ hh ⟨j, z, hj, rfl, hno, m, wn, rfl⟩
  conv => whnf
  refine br_mk (fun hl => ?_) (fun hl => ?_)
  · conv => whnf
    simp at hl
    obtain ⟨i1, c1, e1, k1⟩ := slo_get wn.weak hl
    refine ⟨i1, c1, j, e1, rfl, hl, ?_⟩
    conv => whnf
    refine ⟨_, k1, ?_⟩
    conv => whnf
    rw [natL_get hl]
    have hn : (nextN g e)[j] < g.es.length := (nextN_lt (List.getElem_mem hl))
    have hmu : (((nextN g e).length : Int) - IntKind.i64.wrap ((j : Int) + 1)).toNat < (((nextN g e).length : Int) - (j : Int)).toNat := mu_lt hl (by omega)
    have hs2 := succ_i64 (j := j) (n := (nextN g e).length) hl (by omega)
    have nx : ∀ {hh' : H}, ¬ Nxt g c d e (nextN g e)[j] → Ab.Mod none_ hh hh' → StI g h t e d qn qf qc c [(18, i64 (IntKind.i64.wrap ((j : Int) + 1))), (17, i64 (nextN g e).length), (16, .sl qn (nextN g e).length), (3, .sl qc c.length), (2, .sl qf d.length), (1, i64 e), (0, .ptr (some (t, 0)))] hh' := fun hb m' => ⟨j + 1, _, hl, hs2, (fun i hi hij => by
      by_cases q : i = j
      · subst q
        exact hb
      · exact hno i hi (by omega)), mod_none m m', SlIs.old wn m' (fun _ _ k => k), rfl⟩
    have gt := s.is
    obtain ⟨o, A, P, gt, -⟩ := gt
    refine ⟨_, Cell.mk (m.get gt (.inl fun k => k)) rfl, ?_⟩
    conv => whnf
    refine (grEdge (s.gr.get m (fun _ _ k => k)) (Nat.le_trans hB m.next) _).mono ?_
    rintro _ h2 ⟨rfl, m2⟩
    conv => whnf
    refine ⟨_, rfl, ?_⟩
    conv => whnf
    refine ⟨_, rfl, ?_⟩
    conv => whnf
    obtain ⟨g0, gx, mx⟩ := lay_row (h := h2) (sz := 3) [i64 0, i64 0, i64 0] (eC (edV g ((nextN g e)[j] : Int)))
    refine ⟨_, _, g0, Nat.le_of_ble_eq_true rfl, ?_⟩
    conv => whnf
    have m3 := mod_none m2 mx
    have m4 := mod_none m m3
    have sf4 := SlIs.old sf m4 (fun _ _ k => k)
    have sc4 := SlIs.old sc m4 (fun _ _ k => k)
    obtain ⟨if1, cf1, ef1, kf1⟩ := slo_get sf4.weak (show (nextN g e)[j] < d.length by omega)
    obtain ⟨if2, cf2, ef2, kf2⟩ := slo_get sf4.weak (show e < d.length by omega)
    have hw : (edV g ((nextN g e)[j] : Int)).2.2 = (edV g ((nextN g e)[j] : Int)).2.2 := rfl
    have hb1 := db (nextN g e)[j]
    have hb2 := db e
    have ok := rdOf_ok s.gr.ok 0 c
    have hw1 : 1 ≤ (edV g ((nextN g e)[j] : Int)).2.2 := ok.w1 _ hn
    have hw2 : (edV g ((nextN g e)[j] : Int)).2.2 ≤ 65535 := ok.w2 _ hn
    refine br_mk (fun hc => ?_) (fun hc => ?_)
    · conv => whnf
      simp at hc
      obtain ⟨ic, cc, ec, kc⟩ := slb_get sc4 rfl hc
      refine ⟨ic, cc, (nextN g e)[j], ec, rfl, hc, ?_⟩
      conv => whnf
      refine ⟨_, kc, ?_⟩
      conv => whnf
      refine ⟨[0, 1, 2, 3, 4, 5, 6, 7, 8, 9, 10, 11, 12, 13, 14, 15, 16, 17, 18, 19, 20, 21, 22, 23, 24, 25, 26, 27, 28, 29, 30, 31, 32, 33, 34, 35, 36, 37, 38, 39], [0, 1, 3, 7, 7, 23, 63, 127, 255, 511, 511, 2047, 4095, 8191, 16383, 32767, 65535, 65535, 262143, 524287, 65535, 65535, 3211263, 7405567, 16777215, 33554431, 67108863, 134217727, 134217727, 536870911, 1073741823, 134217727, 134217727, 6576668671, 15166603263, 134217727, 34493956095, 135425687551, 274877906943, 549755813887], by kernel_rfl, ?_⟩
      conv => whnf
      refine br_mk (fun hs => ?_) (fun hs => ?_)
      rotate_left
      · conv => whnf
        have hs : shutB c (nextN g e)[j] = true := by simpa [shutB] using hs
        exact ⟨_, Forget.cons rfl (Forget.cons rfl (Forget.cons rfl (Forget.cons rfl (Forget.cons rfl (Forget.cons rfl (Forget.cons rfl (Forget.nil _))))))), nx (fun k => by have k2 := k.2.1; rw [hs] at k2; cases k2) m3, hmu⟩
      conv => whnf
      have hs : shutB c (nextN g e)[j] = false := by simpa [shutB] using hs
      refine br_mk (fun hx => ?_) (fun hx => ?_)
      rotate_left
      · conv => whnf
        simp at hx
        omega
      conv => whnf
      refine ⟨if1, cf1, (nextN g e)[j], ef1, rfl, by omega, ?_⟩
      conv => whnf
      refine ⟨_, kf1, ?_⟩
      conv => whnf
      refine br_mk (fun h0 => ?_) (fun h0 => ?_)
      rotate_left
      · conv => whnf
        have h0 : ¬ 0 ≤ d.getD (nextN g e)[j] 0 := by simpa using h0
        exact ⟨_, Forget.cons rfl (Forget.cons rfl (Forget.cons rfl (Forget.cons rfl (Forget.cons rfl (Forget.cons rfl (Forget.cons rfl (Forget.nil _))))))), nx (fun k => h0 k.2.2.1) m3, hmu⟩
      conv => whnf
      have h0 : 0 ≤ d.getD (nextN g e)[j] 0 := by simpa using h0
      refine ⟨if1, cf1, (nextN g e)[j], ef1, rfl, by omega, ?_⟩
      conv => whnf
      refine ⟨_, kf1, ?_⟩
      conv => whnf
      refine ⟨if2, cf2, e, ef2, rfl, by omega, ?_⟩
      conv => whnf
      refine ⟨_, kf2, ?_⟩
      conv => whnf
      refine br_mk (fun h3 => ?_) (fun h3 => ?_)
      rotate_left
      · conv => whnf
        have h3 : ¬ d.getD (nextN g e)[j] 0 < d.getD e 0 := by simpa using h3
        exact ⟨_, Forget.cons rfl (Forget.cons rfl (Forget.cons rfl (Forget.cons rfl (Forget.cons rfl (Forget.cons rfl (Forget.cons rfl (Forget.nil _))))))), nx (fun k => h3 k.2.2.2.1) m3, hmu⟩
      conv => whnf
      have h3 : d.getD (nextN g e)[j] 0 < d.getD e 0 := by simpa using h3
      refine ⟨if1, cf1, (nextN g e)[j], ef1, rfl, by omega, ?_⟩
      conv => whnf
      refine ⟨_, kf1, ?_⟩
      conv => whnf
      refine ⟨if2, cf2, e, ef2, rfl, by omega, ?_⟩
      conv => whnf
      refine ⟨_, kf2, ?_⟩
      conv => whnf
      refine ⟨_, Cell.mk gx rfl, ?_⟩
      conv => whnf
      rw [wrap_i64 (x := d.getD e 0 - (edV g ((nextN g e)[j] : Int)).2.2) (by omega) (by omega)]
      refine br_mk (fun h5 => ?_) (fun h5 => ?_)
      · conv => whnf
        have h5 : d.getD (nextN g e)[j] 0 = d.getD e 0 - (edV g ((nextN g e)[j] : Int)).2.2 := by simpa using h5
        exact ⟨(nextN g e)[j], rfl, List.getElem_mem hl, ⟨hn, hs, h0, h3, h5⟩, m4⟩
      · conv => whnf
        have h5 : ¬ d.getD (nextN g e)[j] 0 = d.getD e 0 - (edV g ((nextN g e)[j] : Int)).2.2 := by simpa using h5
        exact ⟨_, Forget.cons rfl (Forget.cons rfl (Forget.cons rfl (Forget.cons rfl (Forget.cons rfl (Forget.cons rfl (Forget.cons rfl (Forget.nil _))))))), nx (fun k => h5 k.2.2.2.2) m3, hmu⟩
    · conv => whnf
      have hc : ¬ (nextN g e)[j] < c.length := by simpa using hc
      have hs : shutB c (nextN g e)[j] = false := by rw [shutB, List.getD_eq_getElem?_getD, List.getElem?_eq_none (by omega)]; rfl
      refine ⟨[0, 1, 2, 3, 4, 5, 6, 7, 8, 9, 10, 11, 12, 13, 14, 15, 16, 17, 18, 19, 20, 21, 22, 23, 24, 25, 26, 27, 28, 29, 30, 31, 32, 33, 34, 35, 36, 37, 38, 39], [0, 1, 3, 7, 7, 23, 63, 127, 255, 511, 511, 2047, 4095, 8191, 16383, 32767, 65535, 65535, 262143, 524287, 65535, 65535, 3211263, 7405567, 16777215, 33554431, 67108863, 134217727, 134217727, 536870911, 1073741823, 134217727, 134217727, 6576668671, 15166603263, 134217727, 34493956095, 135425687551, 274877906943, 549755813887], by kernel_rfl, ?_⟩
      conv => whnf
      refine br_mk (fun hx => ?_) (fun hx => ?_)
      rotate_left
      · conv => whnf
        simp at hx
        omega
      conv => whnf
      refine ⟨if1, cf1, (nextN g e)[j], ef1, rfl, by omega, ?_⟩
      conv => whnf
      refine ⟨_, kf1, ?_⟩
      conv => whnf
      refine br_mk (fun h0 => ?_) (fun h0 => ?_)
      rotate_left
      · conv => whnf
        have h0 : ¬ 0 ≤ d.getD (nextN g e)[j] 0 := by simpa using h0
        exact ⟨_, Forget.cons rfl (Forget.cons rfl (Forget.cons rfl (Forget.cons rfl (Forget.cons rfl (Forget.cons rfl (Forget.cons rfl (Forget.nil _))))))), nx (fun k => h0 k.2.2.1) m3, hmu⟩
      conv => whnf
      have h0 : 0 ≤ d.getD (nextN g e)[j] 0 := by simpa using h0
      refine ⟨if1, cf1, (nextN g e)[j], ef1, rfl, by omega, ?_⟩
      conv => whnf
      refine ⟨_, kf1, ?_⟩
      conv => whnf
      refine ⟨if2, cf2, e, ef2, rfl, by omega, ?_⟩
      conv => whnf
      refine ⟨_, kf2, ?_⟩
      conv => whnf
      refine br_mk (fun h3 => ?_) (fun h3 => ?_)
      rotate_left
      · conv => whnf
        have h3 : ¬ d.getD (nextN g e)[j] 0 < d.getD e 0 := by simpa using h3
        exact ⟨_, Forget.cons rfl (Forget.cons rfl (Forget.cons rfl (Forget.cons rfl (Forget.cons rfl (Forget.cons rfl (Forget.cons rfl (Forget.nil _))))))), nx (fun k => h3 k.2.2.2.1) m3, hmu⟩
      conv => whnf
      have h3 : d.getD (nextN g e)[j] 0 < d.getD e 0 := by simpa using h3
      refine ⟨if1, cf1, (nextN g e)[j], ef1, rfl, by omega, ?_⟩
      conv => whnf
      refine ⟨_, kf1, ?_⟩
      conv => whnf
      refine ⟨if2, cf2, e, ef2, rfl, by omega, ?_⟩
      conv => whnf
      refine ⟨_, kf2, ?_⟩
      conv => whnf
      refine ⟨_, Cell.mk gx rfl, ?_⟩
      conv => whnf
      rw [wrap_i64 (x := d.getD e 0 - (edV g ((nextN g e)[j] : Int)).2.2) (by omega) (by omega)]
      refine br_mk (fun h5 => ?_) (fun h5 => ?_)
      · conv => whnf
        have h5 : d.getD (nextN g e)[j] 0 = d.getD e 0 - (edV g ((nextN g e)[j] : Int)).2.2 := by simpa using h5
        exact ⟨(nextN g e)[j], rfl, List.getElem_mem hl, ⟨hn, hs, h0, h3, h5⟩, m4⟩
      · conv => whnf
        have h5 : ¬ d.getD (nextN g e)[j] 0 = d.getD e 0 - (edV g ((nextN g e)[j] : Int)).2.2 := by simpa using h5
        exact ⟨_, Forget.cons rfl (Forget.cons rfl (Forget.cons rfl (Forget.cons rfl (Forget.cons rfl (Forget.cons rfl (Forget.cons rfl (Forget.nil _))))))), nx (fun k => h5 k.2.2.2.2) m3, hmu⟩
  conv => whnf
  simp at hl
  obtain ⟨n, n1, n2⟩ := hg
  obtain ⟨i, hi, q⟩ := List.getElem_of_mem n1
  exact absurd (by rw [q]; exact n2) (hno i hi (by omega))
theorem nextN_toK {g : Gra} {e n : Nat} (h : n ∈ nextN g e) : n < g.es.length := nextN_lt h
/-- a walk from one, of edges that are open, to a node -/
inductive Wlk (g : Gra) (k : Nat) (c : List Bool) : Nat → List Nat → Prop
  | nil {e : Nat} : e < g.es.length → toK g e = k → Wlk g k c e []
  | cons {e n : Nat} {w : List Nat} : e < g.es.length → n ∈ nextN g e → shutB c n = false → Wlk g k c n w → Wlk g k c e (n :: w)
def AlI (g : Gra) (h : H) (t k e0 : Nat) (d : List Int) (qf qc : Option (Nat × Nat)) (c : List Bool) (env : Env) (hh : H) : Prop := ∃ (e : Nat) (qo : Option (Nat × Nat)) (w : List Nat), e < g.es.length ∧ 0 ≤ d.getD e 0 ∧ (∀ w', Wlk g k c e w' → Wlk g k c e0 (w ++ w')) ∧ (w.Nodup ∧ ∀ x ∈ w, x < g.es.length ∧ d.getD e 0 ≤ d.getD x 0) ∧ NewSl h hh qo w.length 1 (ints .i64 (natL w)) ∧ Ab.Mod none_ h hh ∧
  env = [(8, .sl qo w.length), (3, .sl qc c.length), (2, .sl qf d.length), (1, i64 e), (0, .ptr (some (t, 0)))]
def muAl (d : List Int) (env : Env) (h : H) : Nat := match get env 1 with
  | .int _ z => (d.getD z.toNat 0).toNat
  | _ => 0
set_option maxHeartbeats 4000000 in
theorem along73 {h : H} {B t x : Nat} {g : Gra} (s : TuS h B t x g) (hB : B ≤ h.next) {e : Nat} (he : e < g.es.length) {d : List Int} {qf : Option (Nat × Nat)} {ow : Bool} (sf : SlIs h qf d.length ow 1 (ints .i64 d)) {k : Nat} {qc : Option (Nat × Nat)} {c : List Bool} (fo : FarOk (rdOf g k c) d) (fx : FarNext (rdOf g k c) d) (db : ∀ e, d.getD e 0 ≤ 100000000) (sc : SlIs h qc c.length false 1 (bools c)) :
    ACalls Tryz.prog 73 [.ptr (some (t, 0)), i64 e, .sl qf d.length, .sl qc c.length] h (fun r h' => (d.getD e 0 < 0 ∧ r = .tup [.sl none 0, .bool false] ∧ Ab.Mod none_ h h') ∨ (0 ≤ d.getD e 0 ∧ ∃ q w, r = .tup [.sl q w.length, .bool true] ∧ Wlk g k c e w ∧ w.length ≤ g.es.length ∧ NewSl h h' q w.length 1 (ints .i64 (natL w)) ∧ Ab.Mod none_ h h')) := by
  have hz := mayG_size s.gr.ok
  have hln : d.length = g.es.length := fo.len
  refine call_ Tryz.func73 rfl rfl (by kernel_rfl) ?_
  conv => whnf
  obtain ⟨o, A, P, gt, -⟩ := s.is
  refine ⟨_, Cell.mk gt rfl, ?_⟩
  conv => whnf
  refine (grEdges s.gr).mono ?_
  rintro _ h1 ⟨eh, rfl⟩
  subst h1
  conv => whnf
  refine br_mk (fun hx => ?_) (fun hx => ?_)
  · conv => whnf
    simp at hx
    omega
  conv => whnf
  obtain ⟨i1, c1, e1, k1⟩ := slo_get sf.weak (show e < d.length by omega)
  refine ⟨i1, c1, e, e1, rfl, by omega, ?_⟩
  conv => whnf
  refine ⟨_, k1, ?_⟩
  conv => whnf
  refine br_mk (fun h0 => ?_) (fun h0 => ?_)
  · conv => whnf
    have h0 : d.getD e 0 < 0 := by simpa using h0
    exact .inl ⟨h0, rfl, Mod.refl _ _⟩
  conv => whnf
  have h0 : 0 ≤ d.getD e 0 := by simpa using h0
  refine ⟨AlI g h t k e d qf qc c, fun env hh => muAl d env hh, ⟨_, Forget.cons rfl (Forget.cons rfl (Forget.cons rfl (Forget.cons rfl (Forget.cons rfl (Forget.nil _))))), e, none, [], he, h0, (fun w' k => k), ⟨List.nodup_nil, (fun x hx => by cases hx)⟩, NewSl.nil _ _ _, Mod.refl _ _, rfl⟩, ?_⟩
  rintro _ hh ⟨e2, qo, w, he2, h2, hw, hl, no, m, rfl⟩
  conv => whnf
  have sf2 := SlIs.old sf m (fun _ _ k => k)
  have sc2 := SlIs.old sc m (fun _ _ k => k)
  obtain ⟨i2, c2, e3, k3⟩ := slo_get sf2.weak (show e2 < d.length by omega)
  refine ⟨i2, c2, e2, e3, rfl, by omega, ?_⟩
  conv => whnf
  refine ⟨_, k3, ?_⟩
  conv => whnf
  refine br_mk (fun hp => ?_) (fun hp => ?_)
  · conv => whnf
    have hp : 0 < d.getD e2 0 := by simpa using hp
    have ok := rdOf_ok s.gr.ok k c
    refine (step82 (s.get m (fun _ _ k => k)) (Nat.le_trans hB m.next) he2 sf2 hln (fun e => Int.le_trans (db e) (by decide)) sc2 ?_).mono ?_
    · obtain ⟨n, n1, n2, n3, n4, n5⟩ := fx e2 he2 hp
      have w1 := ok.w1 n n1
      exact ⟨n, of_decide_eq_true n2, n1, n3, n4, by omega, n5⟩
    rintro _ h3 ⟨n, rfl, n1, ⟨n2, n3, n4, n5, n6⟩, m3⟩
    conv => whnf
    have m4 := mod_none m m3
    have mP := Mod.push none_ h3 (.row true 1 [i64 n])
    have gP : (h3.push (.row true 1 [i64 n])).obj h3.next = some (.row true 1 [i64 n]) := H.obj_push_new _ _
    have nP := NewSl.kept (NewSl.kept no m3) mP
    have hlen := nodup_le g.es.length w hl.1 fun x hx => (hl.2 x hx).1
    refine ⟨_, _, nP.1, (SlIs.row (n := 1) gP rfl).weak, by rw [show (T.at_ 3).bytes = 8 from rfl]; omega, by omega, fun po2 h4 hs hm4 hf => ?_⟩
    have no2 := NewSl.app nP hs hf (Nat.le_trans m4.next mP.next)
    have mo2 := NewSl.mod nP (mod_none m4 mP) hm4
    have e6 : ints .i64 (natL w) ++ [i64 n] = ints .i64 (natL (w ++ [n])) := by rw [natL_app, ints_append]; rfl
    have e7 : w.length + 1 = (w ++ [n]).length := by simp
    rw [e6, e7] at no2
    conv => whnf
    rw [e7]
    refine ⟨_, Forget.cons rfl (Forget.cons rfl (Forget.cons rfl (Forget.cons rfl (Forget.cons rfl (Forget.nil _))))), ⟨n, po2, w ++ [n], n2, n4, fun w' k => by rw [List.append_assoc]; exact hw _ (.cons he2 n1 n3 k), ⟨List.nodup_append.2 ⟨hl.1, List.nodup_cons.2 ⟨List.not_mem_nil, List.nodup_nil⟩, fun a ha b hb e => by
      rw [List.mem_singleton] at hb
      subst hb
      subst e
      have := (hl.2 a ha).2
      omega⟩, fun x hx => (List.mem_append.1 hx).elim (fun k => ⟨(hl.2 x k).1, by have := (hl.2 x k).2; omega⟩) fun k => by
        rw [List.mem_singleton] at k
        subst k
        exact ⟨n2, Int.le_refl _⟩⟩, no2, mo2, rfl⟩, ?_⟩
    show (d.getD n 0).toNat < (d.getD e2 0).toNat
    omega
  conv => whnf
  have hp : ¬ 0 < d.getD e2 0 := by simpa using hp
  have hz2 : d.getD e2 0 = 0 := by omega
  have hk : toK g e2 = k := beq_iff_eq.1 ((fo.zero e2 he2).1 hz2)
  have hwk := hw [] (.nil he2 hk)
  rw [List.append_nil] at hwk
  exact .inr ⟨h0, qo, w, rfl, hwk, nodup_le g.es.length w hl.1 fun x hx => (hl.2 x hx).1, no, m⟩
theorem way59 {h : H} {B t x : Nat} {g : Gra} (s : TuS h B t x g) (hB : B ≤ h.next) {e k : Nat} (he : e < g.es.length) (hk : k < g.ns.length) {qc : Option (Nat × Nat)} {c : List Bool} (sc : SlIs h qc c.length false 1 (bools c)) :
    ACalls Tryz.prog 59 [.ptr (some (t, 0)), i64 e, i64 k, .sl qc c.length] h (fun r h' => (¬ Rch (rdOf g k c) e ∧ r = .tup [.sl none 0, .bool false] ∧ Ab.Mod none_ h h') ∨ (Rch (rdOf g k c) e ∧ ∃ q w, r = .tup [.sl q w.length, .bool true] ∧ Wlk g k c e w ∧ w.length ≤ g.es.length ∧ NewSl h h' q w.length 1 (ints .i64 (natL w)) ∧ Ab.Mod none_ h h')) := by
  refine call_ Tryz.func59 rfl rfl (by kernel_rfl) ?_
  conv => whnf
  refine (distTo s hB (by omega) hk sc).mono ?_
  rintro _ h1 ⟨q, d, rfl, w, m1, fo, fx, db⟩
  have hln : d.length = g.es.length := fo.len
  rw [← hln] at w ⊢
  conv => whnf
  refine (along73 (s.get m1 (fun _ _ k => k)) (Nat.le_trans hB m1.next) he w.1 fo fx db (SlIs.old sc m1 (fun _ _ k => k))).mono ?_
  rintro _ h2 hr
  have hrch := fo.rch e he
  rcases hr with ⟨h0, rfl, m2⟩ | ⟨h0, q2, w2, rfl, hw, hwl, n2, m2⟩
  · conv => whnf
    refine ⟨_, rfl, ?_⟩
    conv => whnf
    refine ⟨_, rfl, ?_⟩
    conv => whnf
    exact .inl ⟨fun k => by have := hrch.2 k; omega, rfl, mod_none m1 m2⟩
  · conv => whnf
    refine ⟨_, rfl, ?_⟩
    conv => whnf
    refine ⟨_, rfl, ?_⟩
    conv => whnf
    exact .inr ⟨hrch.1 h0, q2, w2, rfl, hw, by rw [hln]; exact hwl, ⟨n2.1, fun i o e => Nat.le_trans m1.next (n2.2 i o e)⟩, mod_none m1 m2⟩
def WayR (g : Gra) (k : Nat) (c : List Bool) (e : Nat) (h : H) (r : V) (h' : H) : Prop := Ab.Mod none_ h h' ∧ ((¬ Rch (rdOf g k c) e ∧ r = .tup [.sl none 0, .bool false]) ∨ (Rch (rdOf g k c) e ∧ ∃ q w, r = .tup [.sl q w.length, .bool true] ∧ Wlk g k c e w ∧ w.length ≤ g.es.length ∧ RoSl h' q w.length 1 (ints .i64 (natL w))))
theorem way59r {h : H} {B t x : Nat} {g : Gra} (s : TuS h B t x g) (hB : B ≤ h.next) {e k : Nat} (he : e < g.es.length) (hk : k < g.ns.length) {qc : Option (Nat × Nat)} {c : List Bool} (sc : SlIs h qc c.length false 1 (bools c)) :
    ACalls Tryz.prog 59 [.ptr (some (t, 0)), i64 e, i64 k, .sl qc c.length] h (WayR g k c e h) := (way59 s hB he hk sc).ro fun r h' q => by
  rcases q with ⟨a, rfl, m⟩ | ⟨a, q, w, rfl, b, b2, n, m⟩
  · exact ⟨h'.next, m.ro_new m.next, .inl ⟨a, rfl⟩⟩
  · obtain ⟨i, _, f1, f2⟩ := n.freeze m
    exact ⟨i, f2, .inr ⟨a, q, w, rfl, b, b2, f1⟩⟩
theorem clone24r {h : H} {p : Option (Nat × Nat)} {n : Nat} {cs : List V} (o : SlIs h p n false 1 cs) (hn : n ≤ 1000000) : ACalls Tryz.prog 24 [.sl p n] h (fun v h' => ∃ q, v = .sl q n ∧ RoSl h' q n 1 cs ∧ Ab.Mod none_ h h') := (clone84 o hn).ro fun r h' q => by
  obtain ⟨q, rfl, n, m⟩ := q
  obtain ⟨i, _, f1, f2⟩ := n.freeze m
  exact ⟨i, q, rfl, f1, f2⟩
end Go.Proofs.YteapijoibimfnaaGreat
/-! Which way a turn goes, what a walk weighs, what comes next: the walks. -/
namespace Go.Proofs.YteapijoibimfnaaGreat
open Go Go.Ab
theorem far121 {h : H} (z : Int) : ACalls Tryz.prog 121 [i64 z] h (fun r h' => h' = h ∧ ∃ b, r = .bool b) := by
  refine call_ Tryz.func121 rfl rfl (by kernel_rfl) ?_
  conv => whnf
  repeat' (first | exact ⟨rfl, _, rfl⟩ | (refine br_mk (fun _ => ?_) (fun _ => ?_) <;> conv => whnf))
theorem mirror122 {h : H} (z : Int) : ACalls Tryz.prog 122 [i64 z] h (fun r h' => h' = h ∧ ∃ b, r = i64 b) := by
  refine call_ Tryz.func122 rfl rfl (by kernel_rfl) ?_
  conv => whnf
  repeat' (first | exact ⟨rfl, _, rfl⟩ | (refine br_mk (fun _ => ?_) (fun _ => ?_) <;> conv => whnf))
theorem far_b {h : H} {z : Int} {Q : V → H → Prop} (k : ∀ b, Q (.bool b) h) : ACalls Tryz.prog 121 [i64 z] h Q := (far121 z).mono (by
  rintro _ _ ⟨rfl, b, rfl⟩
  exact k b)
theorem mirror_b {h : H} {z : Int} {Q : V → H → Prop} (k : ∀ b, Q (i64 b) h) : ACalls Tryz.prog 122 [i64 z] h Q := (mirror122 z).mono (by
  rintro _ _ ⟨rfl, b, rfl⟩
  exact k b)
set_option maxRecDepth 20000 in
set_option maxHeartbeats 4000000 in
theorem class111 {h : H} (a b c d : Int) : ACalls Tryz.prog 111 [i64 a, i64 b, i64 c, i64 d] h (fun r h' => h' = h ∧ ∃ z, r = i64 z) := by
  refine call_ Tryz.func111 rfl rfl (by kernel_rfl) ?_
  conv => whnf
  repeat' (first | exact ⟨rfl, _, rfl⟩ | (refine br_mk (fun _ => ?_) (fun _ => ?_) <;> conv => whnf) | (refine far_b fun _ => ?_; conv => whnf) | (refine mirror_b fun _ => ?_; conv => whnf))
def wayV (g : Gra) (i : Int) : Int × Int := (IntKind.i64.wrap ((ndV g (edV g i).2.1).1 - (ndV g (edV g i).1).1), IntKind.i64.wrap ((ndV g (edV g i).2.1).2 - (ndV g (edV g i).1).2))
theorem way110 {h : H} {B x : Nat} {g : Gra} (s : GrS h B x g) (hB : B ≤ h.next) (i : Int) : ACalls Tryz.prog 110 [.ptr (some (x, 0)), i64 i] h (fun r h' => r = .tup [i64 (wayV g i).1, i64 (wayV g i).2, .bool (edIn g i)] ∧ Ab.Mod none_ h h') := by
  refine call_ Tryz.func110 rfl rfl (by kernel_rfl) ?_
  conv => whnf
  refine (grEdge s hB i).mono ?_
  rintro _ h1 ⟨rfl, m1⟩
  conv => whnf
  refine ⟨_, rfl, ?_⟩
  conv => whnf
  refine ⟨_, rfl, ?_⟩
  conv => whnf
  obtain ⟨g0, gx, mx⟩ := lay_row (h := h1) (sz := 3) [i64 0, i64 0, i64 0] (eC (edV g i))
  refine ⟨_, _, g0, Nat.le_of_ble_eq_true rfl, ?_⟩
  conv => whnf
  have m2 := mod_none m1 mx
  refine ⟨_, Cell.mk gx rfl, ?_⟩
  conv => whnf
  refine (grNode (s.get m2 (fun _ _ k => k)) (Nat.le_trans hB m2.next) _).mono ?_
  rintro _ h3 ⟨rfl, m3⟩
  conv => whnf
  refine ⟨_, rfl, ?_⟩
  conv => whnf
  refine ⟨_, rfl, ?_⟩
  conv => whnf
  obtain ⟨g1, gy, my⟩ := lay_row (h := h3) (sz := 2) [i64 0, i64 0] (pC (ndV g (edV g i).1))
  refine ⟨_, _, g1, Nat.le_of_ble_eq_true rfl, ?_⟩
  conv => whnf
  have m4 := mod_none m3 my
  have m5 := mod_none m2 m4
  refine ⟨_, Cell.mk (m4.get gx (.inl fun k => k)) rfl, ?_⟩
  conv => whnf
  refine (grNode (s.get m5 (fun _ _ k => k)) (Nat.le_trans hB m5.next) _).mono ?_
  rintro _ h6 ⟨rfl, m6⟩
  conv => whnf
  refine ⟨_, rfl, ?_⟩
  conv => whnf
  refine ⟨_, rfl, ?_⟩
  conv => whnf
  obtain ⟨g2, gz, mz⟩ := lay_row (h := h6) (sz := 2) [i64 0, i64 0] (pC (ndV g (edV g i).2.1))
  refine ⟨_, _, g2, Nat.le_of_ble_eq_true rfl, ?_⟩
  conv => whnf
  have m7 := mod_none m6 mz
  have gy2 := m7.get gy (.inl fun k => k)
  refine ⟨[0, 1, 2, 3, 4, 5, 6, 7, 8, 9, 10, 11, 12, 13], [0, 1, 0, 4, 15, 0, 32, 0, 128, 480, 0, 31, 3071, 8191], by kernel_rfl, ?_⟩
  conv => whnf
  refine ⟨_, Cell.mk gz rfl, ?_⟩
  conv => whnf
  refine ⟨_, Cell.mk gy2 rfl, ?_⟩
  conv => whnf
  refine ⟨_, Cell.mk gz rfl, ?_⟩
  conv => whnf
  refine ⟨_, Cell.mk gy2 rfl, ?_⟩
  conv => whnf
  exact ⟨rfl, mod_none m5 m7⟩
theorem bend93 {h : H} {B x : Nat} {g : Gra} (s : GrS h B x g) (hB : B ≤ h.next) (a b : Int) : ACalls Tryz.prog 93 [.ptr (some (x, 0)), i64 a, i64 b] h (fun r h' => (∃ z, r = i64 z) ∧ Ab.Mod none_ h h') := by
  refine call_ Tryz.func93 rfl rfl (by kernel_rfl) ?_
  conv => whnf
  refine (way110 s hB a).mono ?_
  rintro _ h1 ⟨rfl, m1⟩
  conv => whnf
  iterate 3
    refine ⟨_, rfl, ?_⟩
    conv => whnf
  refine (way110 (s.get m1 (fun _ _ k => k)) (Nat.le_trans hB m1.next) b).mono ?_
  rintro _ h2 ⟨rfl, m2⟩
  conv => whnf
  iterate 3
    refine ⟨_, rfl, ?_⟩
    conv => whnf
  have m3 := mod_none m1 m2
  refine br_mk (fun _ => ?_) (fun _ => ?_)
  · conv => whnf
    exact ⟨⟨_, rfl⟩, m3⟩
  conv => whnf
  refine br_mk (fun _ => ?_) (fun _ => ?_)
  · conv => whnf
    exact ⟨⟨_, rfl⟩, m3⟩
  conv => whnf
  refine (class111 _ _ _ _).mono ?_
  rintro _ h4 ⟨eh, z, rfl⟩
  subst h4
  conv => whnf
  exact ⟨⟨_, rfl⟩, m3⟩
def wgt (g : Gra) (l : List Int) : Int := l.foldl (fun a e => IntKind.i64.wrap (a + (edV g e).2.2)) 0
def wgtB (g : Gra) (l : List Int) : Bool := l.all fun e => edIn g e
theorem wgt_snoc (g : Gra) (l : List Int) (e : Int) : wgt g (l ++ [e]) = IntKind.i64.wrap (wgt g l + (edV g e).2.2) := by rw [wgt, List.foldl_append]; rfl
theorem take_snocI {l : List Int} {j : Nat} (h : j < l.length) : l.take (j + 1) = l.take j ++ [l.getD j 0] := by
  rw [List.take_add_one, List.getElem?_eq_getElem h, List.getD_eq_getElem?_getD, List.getElem?_eq_getElem h]
  rfl
def WgI (g : Gra) (h : H) (t : Nat) (q : Option (Nat × Nat)) (l : List Int) (env : Env) (hh : H) : Prop := ∃ (j : Nat) (z : Int), j ≤ l.length ∧ z = j ∧ (∀ i, i < j → edIn g (l.getD i 0) = true) ∧ Ab.Mod none_ h hh ∧
  env = [(12, i64 z), (11, i64 l.length), (10, .sl q l.length), (4, i64 (wgt g (l.take j))), (0, .ptr (some (t, 0)))]
theorem weight61 {h : H} {B t x : Nat} {g : Gra} (s : TuS h B t x g) (hB : B ≤ h.next) {q : Option (Nat × Nat)} {l : List Int} {ow : Bool} (sl : SlIs h q l.length ow 1 (ints .i64 l)) (hl : l.length ≤ 1000000) :
    ACalls Tryz.prog 61 [.ptr (some (t, 0)), .sl q l.length] h (fun r h' => r = .tup [i64 (if wgtB g l = true then wgt g l else 0), .bool (wgtB g l)] ∧ Ab.Mod none_ h h') := by
  refine call_ Tryz.func61 rfl rfl (by kernel_rfl) ?_
  conv => whnf
  refine ⟨WgI g h t q l, fun env _ => TnMu 12 l.length env, ⟨_, Forget.cons rfl (Forget.cons rfl (Forget.cons rfl (Forget.cons rfl (Forget.cons rfl (Forget.nil _))))), 0, 0, Nat.zero_le _, rfl, (fun i hi => absurd hi (Nat.not_lt_zero i)), Mod.refl _ _, rfl⟩, ?_⟩
  rintro _ hh ⟨j, z, hj, rfl, hin, m, rfl⟩
  conv => whnf
  refine br_mk (fun hd => ?_) (fun hd => ?_)
  · conv => whnf
    simp at hd
    obtain ⟨i1, c1, e1, k1⟩ := slo_get (SlIs.old sl m (fun _ _ k => k)).weak hd
    refine ⟨i1, c1, j, e1, rfl, hd, ?_⟩
    conv => whnf
    refine ⟨_, k1, ?_⟩
    conv => whnf
    obtain ⟨o, A, P, gt, -⟩ := s.is
    refine ⟨_, Cell.mk (m.get gt (.inl fun k => k)) rfl, ?_⟩
    conv => whnf
    refine (grEdge (s.gr.get m (fun _ _ k => k)) (Nat.le_trans hB m.next) _).mono ?_
    rintro _ h2 ⟨rfl, m2⟩
    conv => whnf
    refine ⟨_, rfl, ?_⟩
    conv => whnf
    refine ⟨_, rfl, ?_⟩
    conv => whnf
    obtain ⟨g0, gx, mx⟩ := lay_row (h := h2) (sz := 3) [i64 0, i64 0, i64 0] (eC (edV g (l.getD j 0)))
    refine ⟨_, _, g0, Nat.le_of_ble_eq_true rfl, ?_⟩
    conv => whnf
    have m3 := mod_none m (mod_none m2 mx)
    refine br_mk (fun hx => ?_) (fun hx => ?_)
    · conv => whnf
      have hx : edIn g (l.getD j 0) = false := by simpa using hx
      have hf : wgtB g l = false := by
        rw [wgtB, List.all_eq_false]
        refine ⟨l[j], List.getElem_mem hd, ?_⟩
        rw [List.getD_eq_getElem?_getD, List.getElem?_eq_getElem hd] at hx
        simpa using hx
      exact ⟨by rw [hf]; rfl, m3⟩
    conv => whnf
    have hx : edIn g (l.getD j 0) = true := by simpa using hx
    refine ⟨_, Cell.mk gx rfl, ?_⟩
    conv => whnf
    refine ⟨_, Forget.cons rfl (Forget.cons rfl (Forget.cons rfl (Forget.cons rfl (Forget.cons rfl (Forget.nil _))))), ⟨j + 1, _, hd, succ_i64 hd (by omega), (fun i hi => by
      by_cases q : i = j
      · subst q
        exact hx
      · exact hin i (by omega)), m3, by rw [take_snocI hd, wgt_snoc]; rfl⟩, ?_⟩
    exact mu_lt hd hl
  · conv => whnf
    simp at hd
    obtain rfl : j = l.length := by omega
    have hf : wgtB g l = true := by
      rw [wgtB, List.all_eq_true]
      intro e he
      obtain ⟨i, hi, rfl⟩ := List.getElem_of_mem he
      have := hin i hi
      rw [List.getD_eq_getElem?_getD, List.getElem?_eq_getElem hi] at this
      exact this
    exact ⟨by rw [hf, List.take_length]; rfl, m⟩
def walkB (g : Gra) : Int → List Int → Bool
  | _, [] => true
  | f, e :: l => mayT g f e && walkB g e l
def VaI (g : Gra) (h : H) (t : Nat) (q : Option (Nat × Nat)) (f0 : Int) (l : List Int) (env : Env) (hh : H) : Prop := ∃ (j : Nat) (z f : Int), j ≤ l.length ∧ z = j ∧ walkB g f0 l = walkB g f (l.drop j) ∧ Ab.Mod none_ h hh ∧
  env = [(26, i64 z), (25, i64 l.length), (24, .sl q l.length), (1, i64 f), (0, .ptr (some (t, 0)))]
theorem valid76 {h : H} {B t x : Nat} {g : Gra} (s : TuS h B t x g) (hB : B ≤ h.next) {e : Nat} (he : e < g.es.length) {q : Option (Nat × Nat)} {l : List Int} {ow : Bool} (sl : SlIs h q l.length ow 1 (ints .i64 l)) (hl : l.length ≤ 1000000) :
    ACalls Tryz.prog 76 [.ptr (some (t, 0)), i64 e, .sl q l.length] h (fun r h' => r = .bool (walkB g e l) ∧ Ab.Mod none_ h h') := by
  refine call_ Tryz.func76 rfl rfl (by kernel_rfl) ?_
  conv => whnf
  obtain ⟨o, A, P, gt, -⟩ := s.is
  refine ⟨_, Cell.mk gt rfl, ?_⟩
  conv => whnf
  refine (grEdges s.gr).mono ?_
  rintro _ h1 ⟨eh, rfl⟩
  subst h1
  conv => whnf
  refine br_mk (fun hx => ?_) (fun hx => ?_)
  · conv => whnf
    simp at hx
    omega
  conv => whnf
  refine ⟨VaI g h t q e l, fun env _ => TnMu 26 l.length env, ⟨_, Forget.cons rfl (Forget.cons rfl (Forget.cons rfl (Forget.cons rfl (Forget.cons rfl (Forget.nil _))))), 0, 0, e, Nat.zero_le _, rfl, rfl, Mod.refl _ _, rfl⟩, ?_⟩
  rintro _ hh ⟨j, z, f, hj, rfl, hw, m, rfl⟩
  conv => whnf
  refine br_mk (fun hd => ?_) (fun hd => ?_)
  · conv => whnf
    simp at hd
    obtain ⟨i1, c1, e1, k1⟩ := slo_get (SlIs.old sl m (fun _ _ k => k)).weak hd
    refine ⟨i1, c1, j, e1, rfl, hd, ?_⟩
    conv => whnf
    refine ⟨_, k1, ?_⟩
    conv => whnf
    refine (tuMay (s.get m (fun _ _ k => k)) (Nat.le_trans hB m.next) f _).mono ?_
    rintro _ h2 ⟨rfl, m2⟩
    conv => whnf
    have hw2 : walkB g f (l.drop j) = (mayT g f (l.getD j 0) && walkB g (l.getD j 0) (l.drop (j + 1))) := by
      rw [List.drop_eq_getElem_cons hd, List.getD_eq_getElem?_getD, List.getElem?_eq_getElem hd]
      rfl
    refine br_mk (fun hx => ?_) (fun hx => ?_)
    · conv => whnf
      have hx : mayT g f (l.getD j 0) = false := by simpa using hx
      exact ⟨by rw [hw, hw2, hx]; rfl, mod_none m m2⟩
    conv => whnf
    have hx : mayT g f (l.getD j 0) = true := by simpa using hx
    exact ⟨_, Forget.cons rfl (Forget.cons rfl (Forget.cons rfl (Forget.cons rfl (Forget.cons rfl (Forget.nil _))))), ⟨j + 1, _, _, hd, succ_i64 hd (by omega), by rw [hw, hw2, hx]; rfl, mod_none m m2, rfl⟩, mu_lt hd hl⟩
  · conv => whnf
    simp at hd
    obtain rfl : j = l.length := by omega
    exact ⟨by rw [hw, List.drop_length]; rfl, m⟩
theorem new_set {h hh : H} {i sz : Nat} {cs cs' : List V} (m : Ab.Mod none_ h hh) (hi : h.next ≤ i) (e : hh.obj i = some (.row true sz cs)) : Ab.Mod none_ h (hh.set i (.row true sz cs')) := by
  have ms := Mod.set (S := one i) (ob := .row true sz cs') rfl e rfl
  refine m.trans' ms (fun _ _ k => k) fun j hj k => ?_
  have k : j = i := k
  omega
def HnI (g : Gra) (h : H) (t b : Nat) (q : Option (Nat × Nat)) (l : List Int) (env : Env) (hh : H) : Prop := ∃ (j : Nat) (z f a1 a2 a3 a4 : Int), j ≤ l.length ∧ z = j ∧ Ab.Mod none_ h hh ∧ hh.obj b = some (.row true 4 [i64 a1, i64 a2, i64 a3, i64 a4]) ∧
  env = [(21, i64 z), (20, i64 l.length), (19, .sl q l.length), (6, .ptr (some (b, 0))), (2, .sl q l.length), (1, i64 f), (0, .ptr (some (t, 0)))]
def HnQ (h : H) (r : V) (h' : H) : Prop := (∃ a1 a2 a3 a4 n, r = .tup [.agg [i64 a1, i64 a2, i64 a3, i64 a4], i64 n]) ∧ Ab.Mod none_ h h'
set_option maxHeartbeats 4000000 in
theorem hint77 {h : H} {B t x : Nat} {g : Gra} (s : TuS h B t x g) (hB : B ≤ h.next) (e : Int) {q : Option (Nat × Nat)} {l : List Int} {ow : Bool} (sl : SlIs h q l.length ow 1 (ints .i64 l)) (hl : l.length ≤ 1000000) :
    ACalls Tryz.prog 77 [.ptr (some (t, 0)), i64 e, .sl q l.length] h (HnQ h) := by
  refine call_ Tryz.func77 rfl rfl (by kernel_rfl) ?_
  conv => whnf
  have m0 := Mod.push none_ h (.row true 4 [i64 0, i64 0, i64 0, i64 0])
  have g0 : (h.push (.row true 4 [i64 0, i64 0, i64 0, i64 0])).obj h.next = some (.row true 4 [i64 0, i64 0, i64 0, i64 0]) := H.obj_push_new _ _
  refine (weight61 (s.get m0 (fun _ _ k => k)) (Nat.le_trans hB m0.next) (SlIs.old sl m0 (fun _ _ k => k)) hl).mono ?_
  rintro _ h1 ⟨rfl, m1⟩
  have g1 := m1.get g0 (.inl fun k => k)
  conv => whnf
  refine ⟨_, rfl, ?_⟩
  conv => whnf
  refine ⟨_, rfl, ?_⟩
  conv => whnf
  refine ⟨_, _, g1, Nat.le_of_ble_eq_true rfl, ?_⟩
  conv => whnf
  have m2 := mod_none m0 m1
  refine ⟨HnI g h t h.next q l, fun env _ => TnMu 21 l.length env, ⟨_, Forget.cons rfl (Forget.cons rfl (Forget.cons rfl (Forget.cons rfl (Forget.cons rfl (Forget.cons rfl (Forget.cons rfl (Forget.nil _))))))), 0, 0, e, _, _, _, _, Nat.zero_le _, rfl, new_set m2 (Nat.le_refl _) g1, H.obj_set_same g1, rfl⟩, ?_⟩
  clear m2 g1 m1 m0 g0
  rintro _ hh ⟨j, z, f, a1, a2, a3, a4, hj, rfl, m, gb, rfl⟩
  conv => whnf
  refine br_mk (fun hd => ?_) (fun hd => ?_)
  · conv => whnf
    simp at hd
    obtain ⟨i1, c1, e1, k1⟩ := slo_get (SlIs.old sl m (fun _ _ k => k)).weak hd
    refine ⟨i1, c1, j, e1, rfl, hd, ?_⟩
    conv => whnf
    refine ⟨_, k1, ?_⟩
    conv => whnf
    refine (tuNext (s.get m (fun _ _ k => k)) f).mono ?_
    rintro _ h2 ⟨qn, rfl, w2, m2⟩
    conv => whnf
    have m3 := mod_none m m2
    have gb3 := m2.get gb (.inl fun k => k)
    have s3 := s.get m3 (fun _ _ k => k)
    obtain ⟨o, A, P, gt, -⟩ := s3.is
    refine br_mk (fun hx => ?_) (fun hx => ?_)
    · conv => whnf
      refine ⟨_, Cell.mk gt rfl, ?_⟩
      conv => whnf
      refine (bend93 s3.gr (Nat.le_trans hB m3.next) f _).mono ?_
      rintro _ h4 ⟨⟨y, rfl⟩, m4⟩
      have gb4 := m4.get gb3 (.inl fun k => k)
      have m5 := mod_none m3 m4
      conv => whnf
      refine ⟨_, _, gb4, Nat.le_of_ble_eq_true rfl, ?_⟩
      conv => whnf
      have gb5 := H.obj_set_same gb4 (ob' := .row true 4 [i64 y, i64 a2, i64 a3, i64 a4])
      have m6 := new_set (cs' := [i64 y, i64 a2, i64 a3, i64 a4]) m5 (Nat.le_refl _) gb4
      refine ⟨_, _, gb5, Nat.le_of_ble_eq_true rfl, ?_⟩
      conv => whnf
      have gb6 := H.obj_set_same gb5 (ob' := .row true 4 [i64 y, i64 (l.getD j 0), i64 a3, i64 a4])
      have m7 := new_set (cs' := [i64 y, i64 (l.getD j 0), i64 a3, i64 a4]) m6 (Nat.le_refl _) gb5
      refine ⟨_, Cells.mk gb6 (Nat.le_of_ble_eq_true rfl) rfl, ?_⟩
      conv => whnf
      refine ⟨_, _, gb6, Nat.le_of_ble_eq_true rfl, ?_⟩
      conv => whnf
      have gb7 := H.obj_set_same gb6 (ob' := .row true 4 [i64 y, i64 (l.getD j 0), i64 a3, i64 a4])
      have m8 := new_set (cs' := [i64 y, i64 (l.getD j 0), i64 a3, i64 a4]) m7 (Nat.le_refl _) gb6
      refine ⟨_, Cells.mk gb7 (Nat.le_of_ble_eq_true rfl) rfl, ?_⟩
      conv => whnf
      exact ⟨⟨_, _, _, _, _, rfl⟩, m8⟩
    conv => whnf
    refine ⟨_, Cell.mk gt rfl, ?_⟩
    conv => whnf
    refine (grEdge s3.gr (Nat.le_trans hB m3.next) _).mono ?_
    rintro _ h4 ⟨rfl, m4⟩
    conv => whnf
    refine ⟨_, rfl, ?_⟩
    conv => whnf
    refine ⟨_, rfl, ?_⟩
    conv => whnf
    obtain ⟨gz, gx, mx⟩ := lay_row (h := h4) (sz := 3) [i64 0, i64 0, i64 0] (eC (edV g (l.getD j 0)))
    refine ⟨_, _, gz, Nat.le_of_ble_eq_true rfl, ?_⟩
    conv => whnf
    have m5 := mod_none m4 mx
    have gb5 := m5.get gb3 (.inl fun k => k)
    have m6 := mod_none m3 m5
    refine ⟨_, Cell.mk gb5 rfl, ?_⟩
    conv => whnf
    refine ⟨_, Cell.mk gx rfl, ?_⟩
    conv => whnf
    refine ⟨_, _, gb5, Nat.le_of_ble_eq_true rfl, ?_⟩
    conv => whnf
    exact ⟨_, Forget.cons rfl (Forget.cons rfl (Forget.cons rfl (Forget.cons rfl (Forget.cons rfl (Forget.cons rfl (Forget.cons rfl (Forget.nil _))))))), ⟨j + 1, _, _, _, _, _, _, hd, succ_i64 hd (by omega), new_set m6 (Nat.le_refl _) gb5, H.obj_set_same gb5, rfl⟩, mu_lt hd hl⟩
  · conv => whnf
    refine ⟨_, _, gb, Nat.le_of_ble_eq_true rfl, ?_⟩
    conv => whnf
    have gb5 := H.obj_set_same gb (ob' := .row true 4 [i64 9, i64 a2, i64 a3, i64 a4])
    have m6 := new_set (cs' := [i64 9, i64 a2, i64 a3, i64 a4]) m (Nat.le_refl _) gb
    refine ⟨_, _, gb5, Nat.le_of_ble_eq_true rfl, ?_⟩
    conv => whnf
    have gb6 := H.obj_set_same gb5 (ob' := .row true 4 [i64 9, i64 (-1), i64 a3, i64 a4])
    have m7 := new_set (cs' := [i64 9, i64 (-1), i64 a3, i64 a4]) m6 (Nat.le_refl _) gb5
    refine ⟨_, Cells.mk gb6 (Nat.le_of_ble_eq_true rfl) rfl, ?_⟩
    conv => whnf
    refine ⟨_, _, gb6, Nat.le_of_ble_eq_true rfl, ?_⟩
    conv => whnf
    have gb7 := H.obj_set_same gb6 (ob' := .row true 4 [i64 9, i64 (-1), i64 a3, i64 a4])
    have m8 := new_set (cs' := [i64 9, i64 (-1), i64 a3, i64 a4]) m7 (Nat.le_refl _) gb6
    refine ⟨_, Cells.mk gb7 (Nat.le_of_ble_eq_true rfl) rfl, ?_⟩
    conv => whnf
    exact ⟨⟨_, _, _, _, _, rfl⟩, m8⟩
def HtQ (h : H) (r : V) (h' : H) : Prop := (∃ a1 a2 a3 a4 b, r = .tup [.agg [i64 a1, i64 a2, i64 a3, i64 a4], .bool b]) ∧ Ab.Mod none_ h h'
set_option maxHeartbeats 4000000 in
theorem hint62 {h : H} {B t x : Nat} {g : Gra} (s : TuS h B t x g) (hB : B ≤ h.next) {e : Nat} (he : e < g.es.length) {q : Option (Nat × Nat)} {l : List Int} {ow : Bool} (sl : SlIs h q l.length ow 1 (ints .i64 l)) (hl : l.length ≤ 1000000) :
    ACalls Tryz.prog 62 [.ptr (some (t, 0)), i64 e, .sl q l.length] h (HtQ h) := by
  refine call_ Tryz.func62 rfl rfl (by kernel_rfl) ?_
  conv => whnf
  have m0 := Mod.push none_ h (.row true 4 [i64 0, i64 0, i64 0, i64 0])
  have g0 : (h.push (.row true 4 [i64 0, i64 0, i64 0, i64 0])).obj h.next = some (.row true 4 [i64 0, i64 0, i64 0, i64 0]) := H.obj_push_new _ _
  refine (valid76 (s.get m0 (fun _ _ k => k)) (Nat.le_trans hB m0.next) he (SlIs.old sl m0 (fun _ _ k => k)) hl).mono ?_
  rintro _ h1 ⟨rfl, m1⟩
  have g1 := m1.get g0 (.inl fun k => k)
  have m2 := mod_none m0 m1
  conv => whnf
  refine br_mk (fun hx => ?_) (fun hx => ?_)
  · conv => whnf
    refine ⟨_, _, g1, Nat.le_of_ble_eq_true rfl, ?_⟩
    conv => whnf
    have gb7 := H.obj_set_same g1 (ob' := .row true 4 [i64 0, i64 0, i64 0, i64 0])
    have m8 := new_set (cs' := [i64 0, i64 0, i64 0, i64 0]) m2 (Nat.le_refl _) g1
    refine ⟨_, Cells.mk gb7 (Nat.le_of_ble_eq_true rfl) rfl, ?_⟩
    conv => whnf
    exact ⟨⟨_, _, _, _, _, rfl⟩, m8⟩
  conv => whnf
  refine (hint77 (s.get m2 (fun _ _ k => k)) (Nat.le_trans hB m2.next) e (SlIs.old sl m2 (fun _ _ k => k)) hl).mono ?_
  rintro _ h3 ⟨⟨a1, a2, a3, a4, n, rfl⟩, m3⟩
  conv => whnf
  refine ⟨_, rfl, ?_⟩
  conv => whnf
  refine ⟨_, rfl, ?_⟩
  conv => whnf
  obtain ⟨gz, gx, mx⟩ := lay_row (h := h3) (sz := 4) [i64 0, i64 0, i64 0, i64 0] [i64 a1, i64 a2, i64 a3, i64 a4]
  refine ⟨_, _, gz, Nat.le_of_ble_eq_true rfl, ?_⟩
  conv => whnf
  have m4 := mod_none m3 mx
  have g4 := m4.get g1 (.inl fun k => k)
  have m5 := mod_none m2 m4
  refine ⟨_, Cells.mk gx (Nat.le_of_ble_eq_true rfl) rfl, ?_⟩
  conv => whnf
  refine ⟨_, _, g4, Nat.le_of_ble_eq_true rfl, ?_⟩
  conv => whnf
  have gb7 := H.obj_set_same g4 (ob' := .row true 4 [i64 a1, i64 a2, i64 a3, i64 a4])
  have m8 := new_set (cs' := [i64 a1, i64 a2, i64 a3, i64 a4]) m5 (Nat.le_refl _) g4
  refine ⟨_, Cells.mk gb7 (Nat.le_of_ble_eq_true rfl) rfl, ?_⟩
  conv => whnf
  exact ⟨⟨_, _, _, _, _, rfl⟩, m8⟩
theorem hint62n {h : H} {B t x : Nat} {g : Gra} (s : TuS h B t x g) (hB : B ≤ h.next) {e : Nat} (he : e < g.es.length) {q : Option (Nat × Nat)} {l : List Nat} {ow : Bool} (sl : SlIs h q l.length ow 1 (ints .i64 (natL l))) (hl : l.length ≤ 1000000) :
    ACalls Tryz.prog 62 [.ptr (some (t, 0)), i64 e, .sl q l.length] h (HtQ h) := by
  have := hint62 s hB he (q := q) (l := natL l) (ow := ow) (by rw [natL_len]; exact sl) (by rw [natL_len]; exact hl)
  rw [natL_len] at this
  exact this
theorem weight61n {h : H} {B t x : Nat} {g : Gra} (s : TuS h B t x g) (hB : B ≤ h.next) {q : Option (Nat × Nat)} {l : List Nat} {ow : Bool} (sl : SlIs h q l.length ow 1 (ints .i64 (natL l))) (hl : l.length ≤ 1000000) :
    ACalls Tryz.prog 61 [.ptr (some (t, 0)), .sl q l.length] h (fun r h' => (∃ z b, r = .tup [i64 z, .bool b]) ∧ Ab.Mod none_ h h') := by
  have := weight61 s hB (q := q) (l := natL l) (ow := ow) (by rw [natL_len]; exact sl) (by rw [natL_len]; exact hl)
  rw [natL_len] at this
  exact this.mono fun r h' ⟨e, m⟩ => ⟨⟨_, _, e⟩, m⟩
end Go.Proofs.YteapijoibimfnaaGreat
