/- Towns: Town of the reference. -/
import Derived.Test.YtjjcalkeodfokaaR16
set_option linter.unusedVariables false
namespace Go.Proofs.Ytjjcalkeodfokaa
open Go Go.Ab
theorem round43 {m : Int} (hm : 0 < m) (hm2 : m ≤ 72057594037927936) (x : Int) (h : H) : ACalls Try.prog 43 [i64 x, i64 m] h (fun r h' => h' = h ∧ r = i64 (x % m)) := by
  have hr := tmod_round (x := x) hm
  have h1 := Int.emod_nonneg x (show m ≠ 0 by omega)
  have h2 := Int.emod_lt_of_pos x hm
  refine call_ Try.func43 rfl rfl (by kernel_rfl) ?_
  conv => whnf
  refine ⟨by omega, ?_⟩
  conv => whnf
  refine br_mk (fun hb => ?_) (fun hb => ?_)
  · conv => whnf
    simp at hb
    rw [if_pos hb] at hr
    refine ⟨rfl, congrArg i64 ?_⟩
    rw [hr]
    exact wrap_i64 (by omega) (by omega)
  · conv => whnf
    simp at hb
    rw [if_neg (by omega)] at hr
    exact ⟨rfl, congrArg i64 hr⟩
theorem at32 {h : H} {p : Option (Nat × Nat)} {n : Nat} {vs : List Int} (o : SlIs h p n false 1 (ints .i64 vs)) (hn : n ≤ 1000000) (i k : Int) (hi : 0 ≤ i ∧ i ≤ 1000000) (h0 : 0 < k) (hk : k ≤ 72057594037927936) :
    ACalls Try.prog 32 [.sl p n, i64 i, i64 k] h (fun r h' => h' = h ∧ ∃ v : Nat, r = i64 (v : Int) ∧ (v : Int) < k) := by
  refine call_ Try.func32 rfl rfl (by kernel_rfl) ?_
  conv => whnf
  refine br_mk (fun hb => ?_) (fun hb => ?_)
  · conv => whnf
    exact ⟨rfl, 0, rfl, h0⟩
  conv => whnf
  simp at hb
  obtain ⟨j, rfl⟩ : ∃ j : Nat, i = j := ⟨i.toNat, by omega⟩
  have hm := Nat.mod_lt j (show 0 < n by omega)
  obtain ⟨a, c, e, kc⟩ := slo_get o hm
  refine ⟨[0, 1, 2, 3, 4, 5, 6, 7, 8, 9, 10, 11, 12, 13, 14, 15], [0, 0, 0, 4, 14, 31, 63, 127, 0, 0, 512, 1792, 4095, 0, 16383, 32767], by kernel_rfl, ?_⟩
  conv => whnf
  refine ⟨by omega, ?_⟩
  conv => whnf
  refine ⟨a, c, j % n, e, rfl, hm, ?_⟩
  conv => whnf
  refine ⟨_, kc, ?_⟩
  conv => whnf
  refine ⟨by decide, ?_⟩
  conv => whnf
  refine ⟨by omega, ?_⟩
  conv => whnf
  refine (round43 h0 hk _ _).mono ?_
  rintro _ h' ⟨eh, rfl⟩
  subst h'
  conv => whnf
  refine ⟨rfl, (Int.toNat (_ % k)), congrArg i64 (Int.toNat_of_nonneg (Int.emod_nonneg _ (by omega))).symm, ?_⟩
  rw [Int.toNat_of_nonneg (Int.emod_nonneg _ (by omega))]
  exact Int.emod_lt_of_pos _ h0
/-- a graph that is built up, with no reader -/
structure Tb (hb hh : H) (gc : Nat) (row : List V) (p : Option (Nat × Nat)) (n sz : Nat) (cs : List V) : Prop where
  ob : hh.obj gc = some (.row true 3 row)
  sl : SlIs hh p n true sz cs
  fr : ∀ i o, p = some (i, o) → hb.next ≤ i
  m : Ab.Mod (one gc) hb hh
  l1 : gc < hb.next
theorem Tb.keep {hb hh h' : H} {gc : Nat} {row : List V} {p : Option (Nat × Nat)} {n sz : Nat} {cs : List V} (w : Tb hb hh gc row p n sz cs) (m : Ab.Mod none_ hh h') : Tb hb h' gc row p n sz cs :=
  ⟨m.get w.ob (.inl (fun k => k)), SlIs.old w.sl m (fun _ _ k => k), w.fr, w.m.trans' m (fun _ _ k => k) (fun _ _ k => k.elim), w.l1⟩
theorem Tb.app {hb hh h' : H} {gc : Nat} {row : List V} {p p' : Option (Nat × Nat)} {n k sz : Nat} {cs ys : List V} (w : Tb hb hh gc row p n sz cs) (s : SlIs h' p' (n + k) true sz (cs ++ ys)) (m : Ab.Mod (inSl p) hh h') (f : isFresh hh p p') : Tb hb h' gc row p' (n + k) sz (cs ++ ys) := by
  have hs : ∀ i, i < hb.next → ¬ inSl p i := fun i hi ⟨o, e⟩ => by
    have := w.fr i o e
    omega
  refine ⟨m.get w.ob (.inl (hs _ w.l1)), s, fun i o e => ?_, w.m.trans' m (fun _ _ k => k) (fun i hi k => absurd k (hs i hi)), w.l1⟩
  rcases f i o e with k | k
  · exact w.fr i o (by rw [← k, e])
  · exact Nat.le_trans w.m.next k
theorem Tb.put {hb hh : H} {gc : Nat} {row : List V} {p : Option (Nat × Nat)} {n sz : Nat} {cs : List V} (w : Tb hb hh gc row p n sz cs) (row' : List V) : Tb hb (hh.set gc (.row true 3 row')) gc row' p n sz cs := by
  have ms : Ab.Mod (one gc) hh (hh.set gc (.row true 3 row')) := Mod.set rfl w.ob rfl
  exact ⟨H.obj_set_same w.ob, w.sl.get ms (fun i o e => .inl (fun k => by
    have := w.fr i o e
    have := w.l1
    unfold one at k
    omega)), w.fr, w.m.trans' ms (fun _ _ k => k) (fun _ _ k => k), w.l1⟩
theorem Tb.cast {hb hh : H} {gc : Nat} {row row' : List V} {p : Option (Nat × Nat)} {n n' sz : Nat} {cs cs' : List V} (w : Tb hb hh gc row p n sz cs) (h1 : row' = row) (h2 : n' = n) (h3 : cs' = cs) : Tb hb hh gc row' p n' sz cs' := by
  subst h1 h2 h3
  exact w
theorem Tb.next {hb hh : H} {gc : Nat} {row : List V} {p : Option (Nat × Nat)} {n sz : Nat} {cs : List V} (w : Tb hb hh gc row p n sz cs) (sz' : Nat) : Tb hh hh gc row none 0 sz' [] :=
  ⟨w.ob, SlIs.nil _ _ _, fun _ _ e => (by cases e), ⟨Nat.le_refl _, fun _ _ _ => rfl⟩, hh.lt _ _ w.ob⟩
theorem Tb.lt {hb hh : H} {gc : Nat} {row : List V} {p : Option (Nat × Nat)} {n sz : Nat} {cs : List V} (w : Tb hb hh gc row p n sz cs) (o : Nat) (e : p = some (hh.next, o)) : False :=
  Nat.lt_irrefl _ (SlIs.own_lt w.sl ⟨o, e⟩)
theorem Tb.other {hb hh h' : H} {gc ar : Nat} {row : List V} {p : Option (Nat × Nat)} {n sz : Nat} {cs : List V} (w : Tb hb hh gc row p n sz cs) (m : Ab.Mod (one ar) hh h') (h1 : ar ≠ gc) (h2 : ∀ o, p = some (ar, o) → False) (h3 : hb.next ≤ ar) : Tb hb h' gc row p n sz cs :=
  ⟨m.get w.ob (.inl (fun k => h1 k.symm)), w.sl.get m (fun i o e => .inl (fun k => h2 o (by rw [e, k]))), w.fr, w.m.trans' m (fun _ _ k => k) (fun i hi k => by
    unfold one at k
    omega), w.l1⟩
theorem Tb.sep {h hb hh : H} {gc : Nat} {row : List V} {p : Option (Nat × Nat)} {n sz : Nat} {cs : List V} (w : Tb hb hh gc row p n sz cs) (hg : h.next < gc) : ∀ i o, p = some (i, o) → ¬ one gc i ∧ h.next < i := fun i o e => by
  have := w.fr i o e
  have := w.l1
  refine ⟨fun k => ?_, by omega⟩
  unfold one at k
  omega
theorem town_right {W Hh i : Nat} (hW : 1 ≤ W) (hi : i < W * Hh) (h : i % W + 1 < W) : i + 1 < W * Hh := by
  have h1 := Nat.div_add_mod i W
  have h2 : i / W < Hh := Nat.div_lt_of_lt_mul hi
  have h3 : W * (i / W + 1) ≤ W * Hh := Nat.mul_le_mul_left W h2
  rw [Nat.mul_succ] at h3
  omega
theorem town_down {W Hh i : Nat} (hW : 1 ≤ W) (hi : i < W * Hh) (h : i / W + 1 < Hh) : i + W < W * Hh := by
  have h1 := Nat.div_add_mod i W
  have h0 := Nat.mod_lt i hW
  have h3 : W * (i / W + 2) ≤ W * Hh := Nat.mul_le_mul_left W h
  rw [Nat.mul_add] at h3
  omega
theorem Tb.renew {hb hh : H} {gc : Nat} {row : List V} {p : Option (Nat × Nat)} {n sz : Nat} {cs : List V} (w : Tb hb hh gc row p n sz cs) (n' : Nat) {sz' : Nat} {cs' : List V} (hl : cs'.length = n' * sz') : Tb hb (hh.push (.row true sz' cs')) gc row (some (hh.next, 0)) n' sz' cs' := by
  have m := Mod.push none_ hh (.row true sz' cs')
  exact ⟨m.get w.ob (.inl (fun k => k)), SlIs.row (H.obj_push_new _ _) hl, fun i o e => by
    injection e with e
    injection e with e
    have := w.m.next
    omega, w.m.trans' m (fun _ _ k => k) (fun _ _ k => k.elim), w.l1⟩
theorem Tb.base {hb hh : H} {gc : Nat} {row : List V} {p : Option (Nat × Nat)} {n sz : Nat} {cs : List V} (w : Tb hb hh gc row p n sz cs) (sz' : Nat) : ∃ hB, Tb hB hh gc row none 0 sz' [] ∧ SlIs hB p n true sz cs ∧ Ab.Mod (one gc) hb hB :=
  ⟨hh, w.next sz', w.sl, w.m⟩
set_option maxHeartbeats 8000000 in
theorem town14 {h : H} {p : Option (Nat × Nat)} {n : Nat} {vs : List Int} (o : SlIs h p n false 1 (ints .i64 vs)) (hn : n ≤ 1000000) : ACalls Try.prog 14 [.sl p n] h (fun r h' => ∃ g : Gra, r = .agg g.cells ∧ g.ok h' ∧ Ab.Mod none_ h h' ∧ mayG g = true) := by
  refine call_ Try.func14 rfl rfl (by kernel_rfl) ?_
  conv => whnf
  have mp := Mod.push none_ h (.row true 3 gra0.cells)
  have mp2 := Mod.push none_ (h.push (.row true 3 gra0.cells)) (.row true 3 gra0.cells)
  have g2 : ((h.push (.row true 3 gra0.cells)).push (.row true 3 gra0.cells)).obj h.next = some (.row true 3 gra0.cells) := mp2.get (H.obj_push_new _ _) (.inl (fun k => k))
  have mm := mod_none mp mp2
  have w : Tb ((h.push (.row true 3 gra0.cells)).push (.row true 3 gra0.cells)) ((h.push (.row true 3 gra0.cells)).push (.row true 3 gra0.cells)) (h.next + 1) gra0.cells none 0 2 [] := ⟨H.obj_push_new (h.push (.row true 3 gra0.cells)) _, SlIs.nil _ _ _, fun _ _ e => (by cases e), ⟨Nat.le_refl _, fun _ _ _ => rfl⟩, Nat.lt_succ_self _⟩
  have hgc : h.next < (h.next + 1) := Nat.lt_succ_self _
  have hgn : ¬ one (h.next + 1) h.next := fun k => by
    unfold one at k
    omega
  have hgo : ∀ i, i < h.next → one (h.next + 1) i → none_ i := fun i hi k => absurd hi (by unfold one at k; omega)
  clear mp mp2
  refine (at32 (SlIs.old o (mm.trans' w.m (S2 := none_) (fun _ _ k => k) hgo) (fun _ _ k => k)) hn 0 4 ⟨by decide, by decide⟩ (by decide) (by decide)).mono ?_
  rintro _ h' ⟨eh, v0, rfl, hv0⟩
  subst h'
  conv => whnf
  refine (at32 (SlIs.old o (mm.trans' w.m (S2 := none_) (fun _ _ k => k) hgo) (fun _ _ k => k)) hn 1 4 ⟨by decide, by decide⟩ (by decide) (by decide)).mono ?_
  rintro _ h' ⟨eh, v1, rfl, hv1⟩
  subst h'
  conv => whnf
  have hw1 : IntKind.i64.wrap (1 + (v0 : Int)) = ((v0 + 1 : Nat) : Int) := by
    rw [wrap_i64 (by omega) (by omega)]
    omega
  have hw2 : IntKind.i64.wrap (1 + (v1 : Int)) = ((v1 + 1 : Nat) : Int) := by
    rw [wrap_i64 (by omega) (by omega)]
    omega
  rw [hw1, hw2]
  clear hw1 hw2
  obtain ⟨W, hWd⟩ : ∃ W, W = v0 + 1 := ⟨_, rfl⟩
  obtain ⟨Hh, hHd⟩ : ∃ Hh, Hh = v1 + 1 := ⟨_, rfl⟩
  rw [← hWd, ← hHd]
  have hW0 : 1 ≤ W := by omega
  have hW4 : W ≤ 4 := by omega
  have hH0 : 1 ≤ Hh := by omega
  have hH4 : Hh ≤ 4 := by omega
  clear hWd hHd hv0 hv1
  obtain ⟨N, hNd⟩ : ∃ N, N = W * Hh := ⟨_, rfl⟩
  have hN16 : N ≤ 16 := by
    rw [hNd]
    exact Nat.mul_le_mul hW4 hH4
  have hN1 : 1 ≤ N := by
    rw [hNd]
    exact Nat.mul_pos hW0 hH0
  have hN : IntKind.i64.wrap ((W : Int) * (Hh : Int)) = (N : Int) := by
    have e : (W : Int) * (Hh : Int) = (N : Int) := by
      rw [hNd, Int.natCast_mul]
    rw [e, wrap_i64 (by omega) (by omega)]
  have hW1 : IntKind.i64.wrap ((W : Int) - 1) = (W : Int) - 1 := wrap_i64 (by omega) (by omega)
  have hH1 : IntKind.i64.wrap ((Hh : Int) - 1) = (Hh : Int) - 1 := wrap_i64 (by omega) (by omega)
  refine ⟨fun env hh => ∃ (z : Int) (ns : List (Int × Int)) (pn : Option (Nat × Nat)), ns.length ≤ N ∧ z = ns.length ∧ Tb ((h.push (.row true 3 gra0.cells)).push (.row true 3 gra0.cells)) hh (h.next + 1) [.sl pn (ns.length), .sl none 0, .sl none 0] pn ns.length 2 (ns.flatMap pC) ∧ (∀ x ∈ ns, nodeOk x = true) ∧ env = [(6, i64 z), (4, i64 W), (5, i64 Hh), (0, .sl p n), (2, .ptr (some (h.next, 0))), (3, .ptr (some ((h.next + 1), 0)))],
    fun env _ => match get env 6 with
      | .int _ z => (N - z).toNat
      | _ => 0, ⟨_, Forget.cons rfl (Forget.cons rfl (Forget.cons rfl (Forget.cons rfl (Forget.cons rfl (Forget.cons rfl (Forget.nil _)))))), 0, [], none, Nat.zero_le _, rfl, w, fun x k => (by cases k), rfl⟩, ?_⟩
  clear w
  rintro _ h1 ⟨z, ns, pn, hle, rfl, w, hall, rfl⟩
  conv => whnf
  rw [hN]
  refine br_mk (fun ha => ?_) (fun ha => ?_)
  · conv => whnf
    simp at ha
    refine ⟨[0, 1, 2, 3, 4, 5, 6, 7, 8, 9, 10, 11, 12, 13, 14, 15, 16, 17, 18, 19], [0, 1, 0, 0, 12, 28, 0, 0, 192, 448, 0, 0, 2048, 7168, 16320, 32764, 65532, 131071, 262143, 524287], by kernel_rfl, ?_⟩
    conv => whnf
    refine ⟨_, Cell.mk w.ob rfl, ?_⟩
    conv => whnf
    refine ⟨by omega, ?_⟩
    conv => whnf
    refine ⟨by omega, ?_⟩
    conv => whnf
    refine (at32 (SlIs.old o (mm.trans' w.m (S2 := none_) (fun _ _ k => k) hgo) (fun _ _ k => k)) hn (IntKind.i64.wrap (2 + (ns.length : Int))) 30 (by rw [wrap_i64 (by omega) (by omega)]; omega) (by omega) (by omega)).mono ?_
    rintro _ h' ⟨eh, v, rfl, hv⟩
    subst h'
    conv => whnf
    refine ⟨?_, ?_⟩
    · conv => whnf
      exact ⟨_, Cell.mk w.ob rfl, rfl⟩
    conv => whnf
    have w := w.keep (Mod.push none_ _ (.row true 2 (pC (IntKind.i64.wrap (100 * (ns.length : Int).tmod (W : Int)), IntKind.i64.wrap (IntKind.i64.wrap (100 * IntKind.i64.wrap ((ns.length : Int).tdiv (W : Int))) + (v : Int))))))
    refine ⟨ns.flatMap pC, pC (IntKind.i64.wrap (100 * (ns.length : Int).tmod (W : Int)), IntKind.i64.wrap (IntKind.i64.wrap (100 * IntKind.i64.wrap ((ns.length : Int).tdiv (W : Int))) + (v : Int))), w.sl, (SlIs.row (n := 1) (cs := pC (IntKind.i64.wrap (100 * (ns.length : Int).tmod (W : Int)), IntKind.i64.wrap (IntKind.i64.wrap (100 * IntKind.i64.wrap ((ns.length : Int).tdiv (W : Int))) + (v : Int)))) (H.obj_push_new _ _) rfl).weak, by
      rw [show (T.at_ 50).bytes = 16 from rfl]
      omega, by omega, fun p' h' hs hm hf => ?_⟩
    have w := w.app hs hm hf
    conv => whnf
    refine ⟨_, _, w.ob, Nat.le_of_ble_eq_true rfl, ?_⟩
    have e1 : (ns ++ [(IntKind.i64.wrap (100 * (ns.length : Int).tmod (W : Int)), IntKind.i64.wrap (IntKind.i64.wrap (100 * IntKind.i64.wrap ((ns.length : Int).tdiv (W : Int))) + (v : Int)))]).length = ns.length + 1 := by simp
    have e2 : (ns ++ [(IntKind.i64.wrap (100 * (ns.length : Int).tmod (W : Int)), IntKind.i64.wrap (IntKind.i64.wrap (100 * IntKind.i64.wrap ((ns.length : Int).tdiv (W : Int))) + (v : Int)))]).flatMap pC = ns.flatMap pC ++ pC (IntKind.i64.wrap (100 * (ns.length : Int).tmod (W : Int)), IntKind.i64.wrap (IntKind.i64.wrap (100 * IntKind.i64.wrap ((ns.length : Int).tdiv (W : Int))) + (v : Int))) := by simp
    have w := w.put [.sl p' (ns.length + 1), .sl none 0, .sl none 0]
    have w := w.cast (row' := [.sl p' ((ns ++ [(IntKind.i64.wrap (100 * (ns.length : Int).tmod (W : Int)), IntKind.i64.wrap (IntKind.i64.wrap (100 * IntKind.i64.wrap ((ns.length : Int).tdiv (W : Int))) + (v : Int)))]).length), .sl none 0, .sl none 0]) (n' := (ns ++ [(IntKind.i64.wrap (100 * (ns.length : Int).tmod (W : Int)), IntKind.i64.wrap (IntKind.i64.wrap (100 * IntKind.i64.wrap ((ns.length : Int).tdiv (W : Int))) + (v : Int)))]).length) (cs' := (ns ++ [(IntKind.i64.wrap (100 * (ns.length : Int).tmod (W : Int)), IntKind.i64.wrap (IntKind.i64.wrap (100 * IntKind.i64.wrap ((ns.length : Int).tdiv (W : Int))) + (v : Int)))]).flatMap pC) (by rw [e1]) e1 e2
    conv => whnf
    have hz : IntKind.i64.wrap ((ns.length : Int) + 1) = ((ns ++ [(IntKind.i64.wrap (100 * (ns.length : Int).tmod (W : Int)), IntKind.i64.wrap (IntKind.i64.wrap (100 * IntKind.i64.wrap ((ns.length : Int).tdiv (W : Int))) + (v : Int)))]).length : Int) := by
      rw [wrap_i64 (by omega) (by omega), e1]
      omega
    refine ⟨_, Forget.cons rfl (Forget.cons rfl (Forget.cons rfl (Forget.cons rfl (Forget.cons rfl (Forget.cons rfl (Forget.nil _)))))), ⟨_, ns ++ [(IntKind.i64.wrap (100 * (ns.length : Int).tmod (W : Int)), IntKind.i64.wrap (IntKind.i64.wrap (100 * IntKind.i64.wrap ((ns.length : Int).tdiv (W : Int))) + (v : Int)))], p', by omega, hz, w, fun x hx => ?_, rfl⟩, ?_⟩
    · rcases List.mem_append.1 hx with hx | hx
      · exact hall x hx
      · obtain rfl := List.mem_singleton.1 hx
        exact town_node (Hh := Hh) hW0 hW4 hH4 (by rw [← hNd]; omega) (by omega)
    · show ((N : Int) - IntKind.i64.wrap ((ns.length : Int) + 1)).toNat < ((N : Int) - (ns.length : Int)).toNat
      rw [hz, e1]
      omega
  conv => whnf
  simp at ha
  have hnl : ns.length = N := by omega
  clear ha hle
  have hpn : ∀ i o, pn = some (i, o) → ¬ one (h.next + 1) i ∧ h.next < i := w.sep hgc
  have sn := w.sl
  have g2 := w.m.get g2 (.inl hgn)
  have mm := mm.trans' w.m (S2 := none_) (fun _ _ k => k) hgo
  have w := w.next 3
  refine ⟨fun env hh => ∃ (i : Nat) (z : Int) (es : List (Int × Int × Int)) (pe : Option (Nat × Nat)), i ≤ N ∧ z = i ∧ Tb h1 hh (h.next + 1) [.sl pn ns.length, .sl pe (es.length), .sl none 0] pe es.length 3 (es.flatMap eC) ∧ Eo N W i 0 es ∧ env = [(7, i64 z), (4, i64 W), (5, i64 Hh), (0, .sl p n), (2, .ptr (some (h.next, 0))), (3, .ptr (some ((h.next + 1), 0)))],
    fun env _ => match get env 7 with
      | .int _ z => ((N : Int) - z).toNat
      | _ => 0, ⟨_, Forget.cons rfl (Forget.cons rfl (Forget.cons rfl (Forget.cons rfl (Forget.cons rfl (Forget.cons rfl (Forget.nil _)))))), 0, _, [], none, Nat.zero_le _, rfl, w, ⟨fun e k => (by cases k), fun v => Nat.zero_le _, Nat.zero_le _⟩, rfl⟩, ?_⟩
  clear w
  rintro _ h2 ⟨i, z, es, pe, hi0, rfl, w, ei, rfl⟩
  conv => whnf
  rw [hN]
  refine br_mk (fun ha => ?_) (fun ha => ?_)
  · conv => whnf
    simp at ha
    have hi : i < N := by omega
    obtain ⟨g0, ga, mx⟩ := lay_row (h := h2) (sz := 2) [i64 0, i64 0] [i64 (-1), i64 (-1)]
    refine ⟨_, _, g0, Nat.le_of_ble_eq_true rfl, ?_⟩
    have hpa : ∀ o, pe = some (h2.next, o) → False := fun o e => w.lt o e
    have hgar : h2.next ≠ (h.next + 1) := fun e => by
      have h1 := w.l1
      have h2 := w.m.next
      omega
    have hnar : h1.next ≤ h2.next := w.m.next
    have w := w.keep mx
    clear g0 mx
    conv => whnf
    refine ⟨by omega, ?_⟩
    conv => whnf
    rw [hW1]
    refine br_mk (fun hb => ?_) (fun hb => ?_)
    conv => whnf
    refine ⟨0, rfl, by omega, ?_⟩
    conv => whnf
    obtain ⟨x, hxe⟩ : ∃ x : Int, x = IntKind.i64.wrap ((i : Int) + 1) := ⟨_, rfl⟩
    rw [← hxe]
    refine ⟨_, _, ga, Nat.le_of_ble_eq_true rfl, ?_⟩
    have ms := Mod.set (S := one h2.next) (ob := .row true 2 [i64 x, i64 (-1)]) rfl ga rfl
    have ga := H.obj_set_same ga (ob' := .row true 2 [i64 x, i64 (-1)])
    have w := w.other ms hgar hpa hnar
    clear ms
    have hx0 : x = -1 ∨ (x = nxt W i 0 ∧ nxt W i 0 < N) := .inr (by
      have e1 : (i : Int).tmod (W : Int) = ((i % W : Nat) : Int) := rfl
      rw [e1] at hb
      simp only [decide_eq_true_eq] at hb
      have := town_right (W := W) (Hh := Hh) (i := i) hW0 (by rw [← hNd]; omega) (by omega)
      rw [← hNd] at this
      have e2 : nxt W i 0 = i + 1 := rfl
      rw [hxe, wrap_i64 (by omega) (by omega), e2]
      omega)
    clear hxe
    rotate_left
    obtain ⟨x, hxe⟩ : ∃ x : Int, x = -1 := ⟨_, rfl⟩
    have hx0 : x = -1 ∨ (x = nxt W i 0 ∧ nxt W i 0 < N) := .inl hxe
    have ga := ga.trans (show some (Obj.row true 2 [i64 (-1), i64 (-1)]) = some (Obj.row true 2 [i64 x, i64 (-1)]) by rw [hxe])
    rotate_left
    all_goals
      clear hb
      conv => whnf
      refine ⟨by omega, ?_⟩
      conv => whnf
      rw [hH1]
      refine br_mk (fun hb => ?_) (fun hb => ?_)
      conv => whnf
      refine ⟨1, rfl, by omega, ?_⟩
      conv => whnf
      obtain ⟨y, hye⟩ : ∃ y : Int, y = IntKind.i64.wrap ((i : Int) + (W : Int)) := ⟨_, rfl⟩
      rw [← hye]
      refine ⟨_, _, ga, Nat.le_of_ble_eq_true rfl, ?_⟩
      have ms := Mod.set (S := one h2.next) (ob := .row true 2 [i64 x, i64 y]) rfl ga rfl
      have ga := H.obj_set_same ga (ob' := .row true 2 [i64 x, i64 y])
      have w := w.other ms hgar hpa hnar
      clear ms
      have hy0 : y = -1 ∨ (y = nxt W i 1 ∧ nxt W i 1 < N) := .inr (by
        have e1 : IntKind.i64.wrap ((i : Int).tdiv (W : Int)) = ((i / W : Nat) : Int) := by
          have e : (i : Int).tdiv (W : Int) = ((i / W : Nat) : Int) := rfl
          have hle := Nat.div_le_self i W
          rw [e]
          generalize i / W = q at *
          exact wrap_i64 (by omega) (by omega)
        rw [e1] at hb
        simp only [decide_eq_true_eq] at hb
        have := town_down (W := W) (Hh := Hh) (i := i) hW0 (by rw [← hNd]; omega) (by generalize i / W = q at *; omega)
        rw [← hNd] at this
        have e2 : nxt W i 1 = i + W := rfl
        rw [hye, wrap_i64 (by omega) (by omega), e2]
        omega)
      clear hye
      rotate_left
      obtain ⟨y, hye⟩ : ∃ y : Int, y = -1 := ⟨_, rfl⟩
      have hy0 : y = -1 ∨ (y = nxt W i 1 ∧ nxt W i 1 < N) := .inl hye
      have ga := ga.trans (show some (Obj.row true 2 [i64 x, i64 (-1)]) = some (Obj.row true 2 [i64 x, i64 y]) by rw [hye])
      rotate_left
      all_goals
        clear hb
        conv => whnf
        refine ⟨fun env hh => ∃ (k : Nat) (z : Int) (es : List (Int × Int × Int)) (pe : Option (Nat × Nat)), k ≤ 2 ∧ z = k ∧ Tb h1 hh (h.next + 1) [.sl pn ns.length, .sl pe (es.length), .sl none 0] pe es.length 3 (es.flatMap eC) ∧ hh.obj h2.next = some (.row true 2 [i64 x, i64 y]) ∧ (∀ o, pe = some (h2.next, o) → False) ∧ Eo N W i k es ∧ env = [(9, i64 z), (8, .ptr (some (h2.next, 0))), (7, i64 i), (4, i64 W), (5, i64 Hh), (0, .sl p n), (2, .ptr (some (h.next, 0))), (3, .ptr (some ((h.next + 1), 0)))],
          fun env _ => match get env 9 with
            | .int _ z => ((2 : Int) - z).toNat
            | _ => 0, ⟨_, Forget.cons rfl (Forget.cons rfl (Forget.cons rfl (Forget.cons rfl (Forget.cons rfl (Forget.cons rfl (Forget.cons rfl (Forget.cons rfl (Forget.nil _)))))))), 0, _, es, pe, by omega, rfl, w, ga, hpa, ei, rfl⟩, ?_⟩
        clear w ga hpa ei
        rintro _ h3 ⟨k, z, es, pe, hk2, rfl, w, ga, hpa, ei, rfl⟩
        conv => whnf
        refine br_mk (fun hb => ?_) (fun hb => ?_)
        rotate_left
        · conv => whnf
          simp at hb
          obtain rfl : k = 2 := by omega
          have hs2 := succ_i64 (j := i) (n := N) hi (by omega)
          refine ⟨_, Forget.cons rfl (Forget.cons rfl (Forget.cons rfl (Forget.cons rfl (Forget.cons rfl (Forget.cons rfl (Forget.nil _)))))), ⟨i + 1, _, _, _, by omega, hs2, w, ei.next, rfl⟩, ?_⟩
          show ((N : Int) - IntKind.i64.wrap ((i : Int) + 1)).toNat < ((N : Int) - (i : Int)).toNat
          rw [hs2]
          omega
        conv => whnf
        simp at hb
        have hk : k < 2 := by omega
        have hz : IntKind.i64.wrap ((k : Int) + 1) = ((k + 1 : Nat) : Int) := by
          rw [wrap_i64 (by omega) (by omega)]
          omega
        have hel := ei.len
        refine ⟨k, rfl, by omega, ?_⟩
        conv => whnf
        obtain ⟨u, hu, hcell⟩ : ∃ u : Int, (u = -1 ∨ (u = nxt W i k ∧ nxt W i k < N)) ∧ ∀ {hh : H}, hh.obj h2.next = some (.row true 2 [i64 x, i64 y]) → Cell hh h2.next (0 + k * 1) (i64 u) := by
          obtain rfl | rfl : k = 0 ∨ k = 1 := by omega
          · exact ⟨x, hx0, fun g => Cell.mk g rfl⟩
          · exact ⟨y, hy0, fun g => Cell.mk g rfl⟩
        refine ⟨_, hcell ga, ?_⟩
        conv => whnf
        refine br_mk (fun hc => ?_) (fun hc => ?_)
        · conv => whnf
          refine ⟨_, Forget.cons rfl (Forget.cons rfl (Forget.cons rfl (Forget.cons rfl (Forget.cons rfl (Forget.cons rfl (Forget.cons rfl (Forget.cons rfl (Forget.nil _)))))))), ⟨k + 1, _, _, _, by omega, hz, w, ga, hpa, ei.skip hk, rfl⟩, ?_⟩
          show ((2 : Int) - IntKind.i64.wrap ((k : Int) + 1)).toNat < ((2 : Int) - (k : Int)).toNat
          rw [hz]
          omega
        conv => whnf
        simp at hc
        have hx : nxt W i k < N := by
          rcases hu with hu | hu
          · omega
          · exact hu.2
        obtain rfl : u = nxt W i k := by
          rcases hu with hu | hu
          · omega
          · exact hu.1
        clear hu hc
        refine (at32 (SlIs.old o (mm.trans' w.m (S2 := none_) (fun _ _ k => k) hgo) (fun _ _ k => k)) hn (IntKind.i64.wrap (IntKind.i64.wrap (20 + IntKind.i64.wrap (3 * (i : Int))) + (k : Int))) 8 (by rw [wrap_i64 (x := 3 * (i : Int)) (by omega) (by omega), wrap_i64 (x := 20 + 3 * (i : Int)) (by omega) (by omega), wrap_i64 (by omega) (by omega)]; omega) (by omega) (by omega)).mono ?_
        rintro _ h' ⟨eh, v, rfl, hv⟩
        subst h'
        conv => whnf
        refine br_mk (fun he => ?_) (fun he => ?_)
        rotate_left
        · conv => whnf
          refine br_mk (fun hd => ?_) (fun hd => ?_)
          rotate_left
          · conv => whnf
            have hs : Eo N W i (k + 1) (es) := by
              have := ei.step hk hi hx 0 0 (by omega) (by omega) false false
              simpa [List.append_assoc] using this
            refine ⟨_, Forget.cons rfl (Forget.cons rfl (Forget.cons rfl (Forget.cons rfl (Forget.cons rfl (Forget.cons rfl (Forget.cons rfl (Forget.cons rfl (Forget.nil _)))))))), ⟨k + 1, _, _, _, by omega, hz, w, ga, hpa, hs, rfl⟩, ?_⟩
            show ((2 : Int) - IntKind.i64.wrap ((k : Int) + 1)).toNat < ((2 : Int) - (k : Int)).toNat
            rw [hz]
            omega
          conv => whnf
          refine ⟨[0, 1, 2, 3, 4, 5, 6, 7, 8, 9, 10, 11, 12, 13, 14, 15, 16, 17], [0, 1, 0, 4, 12, 0, 0, 0, 128, 0, 896, 1984, 4032, 8188, 16380, 32767, 65535, 131071], by kernel_rfl, ?_⟩
          conv => whnf
          refine ⟨_, Cell.mk w.ob rfl, ?_⟩
          conv => whnf
          refine ⟨k, rfl, by omega, ?_⟩
          conv => whnf
          refine ⟨_, hcell ga, ?_⟩
          conv => whnf
          refine (at32 (SlIs.old o (mm.trans' w.m (S2 := none_) (fun _ _ k => k) hgo) (fun _ _ k => k)) hn (IntKind.i64.wrap (IntKind.i64.wrap (90 + (i : Int)) + (k : Int))) 9 (by rw [wrap_i64 (x := 90 + (i : Int)) (by omega) (by omega), wrap_i64 (by omega) (by omega)]; omega) (by omega) (by omega)).mono ?_
          rintro _ h' ⟨eh, v2, rfl, hv2⟩
          subst h'
          conv => whnf
          refine ⟨?_, ?_⟩
          · conv => whnf
            exact ⟨_, hcell ga, rfl⟩
          refine ⟨?_, ?_⟩
          · conv => whnf
            exact ⟨_, Cell.mk w.ob rfl, rfl⟩
          conv => whnf
          have hv : IntKind.i64.wrap (1 + (v2 : Int)) = 1 + (v2 : Int) := wrap_i64 (by omega) (by omega)
          rw [hv]
          have hpa0 := hpa
          have hal := H.lt _ _ _ ga
          have w := w.keep (Mod.push none_ _ (.row true 3 (eC ((nxt W i k : Int), (i : Int), 1 + (v2 : Int)))))
          refine ⟨es.flatMap eC, eC ((nxt W i k : Int), (i : Int), 1 + (v2 : Int)), w.sl, (SlIs.row (n := 1) (cs := eC ((nxt W i k : Int), (i : Int), 1 + (v2 : Int))) (H.obj_push_new _ _) rfl).weak, by
            rw [show (T.at_ 52).bytes = 24 from rfl]
            omega, by omega, fun p' h' hs hm hf => ?_⟩
          have w := w.app hs hm hf
          have hpa : ∀ o, p' = some (h2.next, o) → False := fun o e => by
            rcases hf h2.next o e with q | q
            · exact hpa0 o (by rw [← q, e])
            · exact absurd hal (Nat.not_lt.2 (Nat.le_trans (Nat.le_succ _) q))
          have ga := hm.get ((Mod.push none_ _ _).get ga (.inl (fun k => k))) (.inl (fun ⟨o, e⟩ => hpa0 o e))
          conv => whnf
          refine ⟨_, _, w.ob, Nat.le_of_ble_eq_true rfl, ?_⟩
          have e1 : (es ++ [((nxt W i k : Int), (i : Int), 1 + (v2 : Int))]).length = es.length + 1 := by simp
          have e2 : (es ++ [((nxt W i k : Int), (i : Int), 1 + (v2 : Int))]).flatMap eC = es.flatMap eC ++ eC ((nxt W i k : Int), (i : Int), 1 + (v2 : Int)) := by simp
          have ga := (Mod.set (S := one (h.next + 1)) (ob := .row true 3 [.sl pn ns.length, .sl p' (es.length + 1), .sl none 0]) rfl w.ob rfl).get ga (.inl hgar)
          have w := w.put [.sl pn ns.length, .sl p' (es.length + 1), .sl none 0]
          have w := w.cast (row' := [.sl pn ns.length, .sl p' ((es ++ [((nxt W i k : Int), (i : Int), 1 + (v2 : Int))]).length), .sl none 0]) (n' := (es ++ [((nxt W i k : Int), (i : Int), 1 + (v2 : Int))]).length) (cs' := (es ++ [((nxt W i k : Int), (i : Int), 1 + (v2 : Int))]).flatMap eC) (by rw [e1]) e1 e2
          conv => whnf
          have hs : Eo N W i (k + 1) (es ++ [((nxt W i k : Int), (i : Int), 1 + (v2 : Int))]) := by
            have := ei.step hk hi hx 0 v2 (by omega) (by omega) false true
            simpa [List.append_assoc] using this
          refine ⟨_, Forget.cons rfl (Forget.cons rfl (Forget.cons rfl (Forget.cons rfl (Forget.cons rfl (Forget.cons rfl (Forget.cons rfl (Forget.cons rfl (Forget.nil _)))))))), ⟨k + 1, _, _, _, by omega, hz, w, ga, hpa, hs, rfl⟩, ?_⟩
          show ((2 : Int) - IntKind.i64.wrap ((k : Int) + 1)).toNat < ((2 : Int) - (k : Int)).toNat
          rw [hz]
          omega
        conv => whnf
        refine ⟨[0, 1, 2, 3, 4, 5, 6, 7, 8, 9, 10, 11, 12, 13, 14, 15, 16, 17], [0, 1, 0, 0, 8, 24, 0, 0, 128, 0, 896, 1984, 4032, 8188, 16380, 32767, 65535, 131071], by kernel_rfl, ?_⟩
        conv => whnf
        refine ⟨_, Cell.mk w.ob rfl, ?_⟩
        conv => whnf
        refine ⟨k, rfl, by omega, ?_⟩
        conv => whnf
        refine ⟨_, hcell ga, ?_⟩
        conv => whnf
        refine (at32 (SlIs.old o (mm.trans' w.m (S2 := none_) (fun _ _ k => k) hgo) (fun _ _ k => k)) hn (IntKind.i64.wrap (IntKind.i64.wrap (60 + (i : Int)) + (k : Int))) 9 (by rw [wrap_i64 (x := 60 + (i : Int)) (by omega) (by omega), wrap_i64 (by omega) (by omega)]; omega) (by omega) (by omega)).mono ?_
        rintro _ h' ⟨eh, v1, rfl, hv1⟩
        subst h'
        conv => whnf
        refine ⟨?_, ?_⟩
        · conv => whnf
          exact ⟨_, hcell ga, rfl⟩
        refine ⟨?_, ?_⟩
        · conv => whnf
          exact ⟨_, Cell.mk w.ob rfl, rfl⟩
        conv => whnf
        have hv : IntKind.i64.wrap (1 + (v1 : Int)) = 1 + (v1 : Int) := wrap_i64 (by omega) (by omega)
        rw [hv]
        have hpa0 := hpa
        have hal := H.lt _ _ _ ga
        have w := w.keep (Mod.push none_ _ (.row true 3 (eC ((i : Int), (nxt W i k : Int), 1 + (v1 : Int)))))
        refine ⟨es.flatMap eC, eC ((i : Int), (nxt W i k : Int), 1 + (v1 : Int)), w.sl, (SlIs.row (n := 1) (cs := eC ((i : Int), (nxt W i k : Int), 1 + (v1 : Int))) (H.obj_push_new _ _) rfl).weak, by
          rw [show (T.at_ 52).bytes = 24 from rfl]
          omega, by omega, fun p' h' hs hm hf => ?_⟩
        have w := w.app hs hm hf
        have hpa : ∀ o, p' = some (h2.next, o) → False := fun o e => by
          rcases hf h2.next o e with q | q
          · exact hpa0 o (by rw [← q, e])
          · exact absurd hal (Nat.not_lt.2 (Nat.le_trans (Nat.le_succ _) q))
        have ga := hm.get ((Mod.push none_ _ _).get ga (.inl (fun k => k))) (.inl (fun ⟨o, e⟩ => hpa0 o e))
        conv => whnf
        refine ⟨_, _, w.ob, Nat.le_of_ble_eq_true rfl, ?_⟩
        have e1 : (es ++ [((i : Int), (nxt W i k : Int), 1 + (v1 : Int))]).length = es.length + 1 := by simp
        have e2 : (es ++ [((i : Int), (nxt W i k : Int), 1 + (v1 : Int))]).flatMap eC = es.flatMap eC ++ eC ((i : Int), (nxt W i k : Int), 1 + (v1 : Int)) := by simp
        have ga := (Mod.set (S := one (h.next + 1)) (ob := .row true 3 [.sl pn ns.length, .sl p' (es.length + 1), .sl none 0]) rfl w.ob rfl).get ga (.inl hgar)
        have w := w.put [.sl pn ns.length, .sl p' (es.length + 1), .sl none 0]
        have w := w.cast (row' := [.sl pn ns.length, .sl p' ((es ++ [((i : Int), (nxt W i k : Int), 1 + (v1 : Int))]).length), .sl none 0]) (n' := (es ++ [((i : Int), (nxt W i k : Int), 1 + (v1 : Int))]).length) (cs' := (es ++ [((i : Int), (nxt W i k : Int), 1 + (v1 : Int))]).flatMap eC) (by rw [e1]) e1 e2
        conv => whnf
        refine br_mk (fun hd => ?_) (fun hd => ?_)
        rotate_left
        · conv => whnf
          have hs : Eo N W i (k + 1) (es ++ [((i : Int), (nxt W i k : Int), 1 + (v1 : Int))]) := by
            have := ei.step hk hi hx v1 0 (by omega) (by omega) true false
            simpa [List.append_assoc] using this
          refine ⟨_, Forget.cons rfl (Forget.cons rfl (Forget.cons rfl (Forget.cons rfl (Forget.cons rfl (Forget.cons rfl (Forget.cons rfl (Forget.cons rfl (Forget.nil _)))))))), ⟨k + 1, _, _, _, by omega, hz, w, ga, hpa, hs, rfl⟩, ?_⟩
          show ((2 : Int) - IntKind.i64.wrap ((k : Int) + 1)).toNat < ((2 : Int) - (k : Int)).toNat
          rw [hz]
          omega
        conv => whnf
        have ese : (es ++ [((i : Int), (nxt W i k : Int), 1 + (v1 : Int))]).length ≤ 200 := by rw [e1]; omega
        generalize hes2 : es ++ [((i : Int), (nxt W i k : Int), 1 + (v1 : Int))] = es2 at w ese
        refine ⟨[0, 1, 2, 3, 4, 5, 6, 7, 8, 9, 10, 11, 12, 13, 14, 15, 16, 17], [0, 1, 0, 4, 12, 0, 0, 0, 128, 0, 896, 1984, 4032, 8188, 16380, 32767, 65535, 131071], by kernel_rfl, ?_⟩
        conv => whnf
        refine ⟨_, Cell.mk w.ob rfl, ?_⟩
        conv => whnf
        refine ⟨k, rfl, by omega, ?_⟩
        conv => whnf
        refine ⟨_, hcell ga, ?_⟩
        conv => whnf
        refine (at32 (SlIs.old o (mm.trans' w.m (S2 := none_) (fun _ _ k => k) hgo) (fun _ _ k => k)) hn (IntKind.i64.wrap (IntKind.i64.wrap (90 + (i : Int)) + (k : Int))) 9 (by rw [wrap_i64 (x := 90 + (i : Int)) (by omega) (by omega), wrap_i64 (by omega) (by omega)]; omega) (by omega) (by omega)).mono ?_
        rintro _ h' ⟨eh, v2, rfl, hv2⟩
        subst h'
        conv => whnf
        refine ⟨?_, ?_⟩
        · conv => whnf
          exact ⟨_, hcell ga, rfl⟩
        refine ⟨?_, ?_⟩
        · conv => whnf
          exact ⟨_, Cell.mk w.ob rfl, rfl⟩
        conv => whnf
        have hv : IntKind.i64.wrap (1 + (v2 : Int)) = 1 + (v2 : Int) := wrap_i64 (by omega) (by omega)
        rw [hv]
        have hpa0 := hpa
        have hal := H.lt _ _ _ ga
        have w := w.keep (Mod.push none_ _ (.row true 3 (eC ((nxt W i k : Int), (i : Int), 1 + (v2 : Int)))))
        refine ⟨es2.flatMap eC, eC ((nxt W i k : Int), (i : Int), 1 + (v2 : Int)), w.sl, (SlIs.row (n := 1) (cs := eC ((nxt W i k : Int), (i : Int), 1 + (v2 : Int))) (H.obj_push_new _ _) rfl).weak, by
          rw [show (T.at_ 52).bytes = 24 from rfl]
          omega, by omega, fun p' h' hs hm hf => ?_⟩
        have w := w.app hs hm hf
        have hpa : ∀ o, p' = some (h2.next, o) → False := fun o e => by
          rcases hf h2.next o e with q | q
          · exact hpa0 o (by rw [← q, e])
          · exact absurd hal (Nat.not_lt.2 (Nat.le_trans (Nat.le_succ _) q))
        have ga := hm.get ((Mod.push none_ _ _).get ga (.inl (fun k => k))) (.inl (fun ⟨o, e⟩ => hpa0 o e))
        conv => whnf
        refine ⟨_, _, w.ob, Nat.le_of_ble_eq_true rfl, ?_⟩
        have e1 : (es2 ++ [((nxt W i k : Int), (i : Int), 1 + (v2 : Int))]).length = es2.length + 1 := by simp
        have e2 : (es2 ++ [((nxt W i k : Int), (i : Int), 1 + (v2 : Int))]).flatMap eC = es2.flatMap eC ++ eC ((nxt W i k : Int), (i : Int), 1 + (v2 : Int)) := by simp
        have ga := (Mod.set (S := one (h.next + 1)) (ob := .row true 3 [.sl pn ns.length, .sl p' (es2.length + 1), .sl none 0]) rfl w.ob rfl).get ga (.inl hgar)
        have w := w.put [.sl pn ns.length, .sl p' (es2.length + 1), .sl none 0]
        have w := w.cast (row' := [.sl pn ns.length, .sl p' ((es2 ++ [((nxt W i k : Int), (i : Int), 1 + (v2 : Int))]).length), .sl none 0]) (n' := (es2 ++ [((nxt W i k : Int), (i : Int), 1 + (v2 : Int))]).length) (cs' := (es2 ++ [((nxt W i k : Int), (i : Int), 1 + (v2 : Int))]).flatMap eC) (by rw [e1]) e1 e2
        conv => whnf
        have hes3 : es2 ++ [((nxt W i k : Int), (i : Int), 1 + (v2 : Int))] = es ++ [((i : Int), (nxt W i k : Int), 1 + (v1 : Int))] ++ [((nxt W i k : Int), (i : Int), 1 + (v2 : Int))] := by rw [hes2]
        rw [hes3] at w
        have hs : Eo N W i (k + 1) (es ++ [((i : Int), (nxt W i k : Int), 1 + (v1 : Int))] ++ [((nxt W i k : Int), (i : Int), 1 + (v2 : Int))]) := by
          have := ei.step hk hi hx v1 v2 (by omega) (by omega) true true
          simpa [List.append_assoc] using this
        refine ⟨_, Forget.cons rfl (Forget.cons rfl (Forget.cons rfl (Forget.cons rfl (Forget.cons rfl (Forget.cons rfl (Forget.cons rfl (Forget.cons rfl (Forget.nil _)))))))), ⟨k + 1, _, _, _, by omega, hz, w, ga, hpa, hs, rfl⟩, ?_⟩
        show ((2 : Int) - IntKind.i64.wrap ((k : Int) + 1)).toNat < ((2 : Int) - (k : Int)).toNat
        rw [hz]
        omega
  conv => whnf
  simp at ha
  obtain rfl : i = N := by omega
  have ex := ei.ex hN16
  clear ei ha hi0
  refine ⟨fun env hh => ∃ (j : Nat) (z : Int) (es : List (Int × Int × Int)) (pe : Option (Nat × Nat)), j ≤ 3 ∧ z = j ∧ Tb h1 hh (h.next + 1) [.sl pn ns.length, .sl pe (es.length), .sl none 0] pe es.length 3 (es.flatMap eC) ∧ Ex i j es ∧ env = [(11, i64 z), (4, i64 W), (5, i64 Hh), (0, .sl p n), (2, .ptr (some (h.next, 0))), (3, .ptr (some ((h.next + 1), 0)))],
    fun env _ => match get env 11 with
      | .int _ z => ((4 : Int) - z).toNat
      | _ => 0, ⟨_, Forget.cons rfl (Forget.cons rfl (Forget.cons rfl (Forget.cons rfl (Forget.cons rfl (Forget.cons rfl (Forget.nil _)))))), 0, _, es, pe, Nat.zero_le _, rfl, w, ex, rfl⟩, ?_⟩
  clear w ex
  rintro _ h3 ⟨j, z, es, pe, hj3, rfl, w, ex, rfl⟩
  conv => whnf
  refine (at32 (SlIs.old o (mm.trans' w.m (S2 := none_) (fun _ _ k => k) hgo) (fun _ _ k => k)) hn 3 4 ⟨by decide, by decide⟩ (by decide) (by decide)).mono ?_
  rintro _ h' ⟨eh, v, rfl, hv⟩
  subst h'
  conv => whnf
  refine br_mk (fun ha => ?_) (fun ha => ?_)
  · conv => whnf
    simp at ha
    have hel := ex.len
    refine ⟨[0, 1, 2, 3, 4, 5, 6, 7, 9, 10, 11, 12, 13, 14, 16, 17, 18, 8, 15, 19, 20, 21, 22, 23, 24, 25], [0, 1, 0, 0, 8, 0, 0, 96, 252, 0, 0, 1024, 0, 0, 12288, 32764, 0, 0, 131072, 524284, 1048572, 2097148, 4194300, 8388607, 16777215, 33554431], by kernel_rfl, ?_⟩
    conv => whnf
    refine ⟨_, Cell.mk w.ob rfl, ?_⟩
    conv => whnf
    rw [hN]
    refine (at32 (SlIs.old o (mm.trans' w.m (S2 := none_) (fun _ _ k => k) hgo) (fun _ _ k => k)) hn (IntKind.i64.wrap (4 + (j : Int))) (i : Int) (by rw [wrap_i64 (by omega) (by omega)]; omega) (by omega) (by omega)).mono ?_
    rintro _ h' ⟨eh, va, rfl, hva⟩
    subst h'
    conv => whnf
    refine ⟨?_, ?_⟩
    · conv => whnf
      exact ⟨_, Cell.mk w.ob rfl, rfl⟩
    conv => whnf
    refine (at32 (SlIs.old o (mm.trans' w.m (S2 := none_) (fun _ _ k => k) hgo) (fun _ _ k => k)) hn (IntKind.i64.wrap (8 + (j : Int))) (i : Int) (by rw [wrap_i64 (by omega) (by omega)]; omega) (by omega) (by omega)).mono ?_
    rintro _ h' ⟨eh, vb, rfl, hvb⟩
    subst h'
    conv => whnf
    refine ⟨?_, ?_⟩
    · conv => whnf
      exact ⟨_, Cell.mk w.ob rfl, rfl⟩
    conv => whnf
    refine (at32 (SlIs.old o (mm.trans' w.m (S2 := none_) (fun _ _ k => k) hgo) (fun _ _ k => k)) hn (IntKind.i64.wrap (12 + (j : Int))) 40 (by rw [wrap_i64 (by omega) (by omega)]; omega) (by omega) (by omega)).mono ?_
    rintro _ h' ⟨eh, vc, rfl, hvc⟩
    subst h'
    conv => whnf
    refine ⟨?_, ?_⟩
    · conv => whnf
      exact ⟨_, Cell.mk w.ob rfl, rfl⟩
    conv => whnf
    have hv : IntKind.i64.wrap (1 + (vc : Int)) = 1 + (vc : Int) := wrap_i64 (by omega) (by omega)
    rw [hv]
    have w := w.keep (Mod.push none_ _ (.row true 3 (eC ((va : Int), (vb : Int), 1 + (vc : Int)))))
    refine ⟨es.flatMap eC, eC ((va : Int), (vb : Int), 1 + (vc : Int)), w.sl, (SlIs.row (n := 1) (cs := eC ((va : Int), (vb : Int), 1 + (vc : Int))) (H.obj_push_new _ _) rfl).weak, by
      rw [show (T.at_ 52).bytes = 24 from rfl]
      omega, by omega, fun p' h' hs hm hf => ?_⟩
    have w := w.app hs hm hf
    conv => whnf
    refine ⟨_, _, w.ob, Nat.le_of_ble_eq_true rfl, ?_⟩
    have e1 : (es ++ [((va : Int), (vb : Int), 1 + (vc : Int))]).length = es.length + 1 := by simp
    have e2 : (es ++ [((va : Int), (vb : Int), 1 + (vc : Int))]).flatMap eC = es.flatMap eC ++ eC ((va : Int), (vb : Int), 1 + (vc : Int)) := by simp

    have w := w.put [.sl pn ns.length, .sl p' (es.length + 1), .sl none 0]
    have w := w.cast (row' := [.sl pn ns.length, .sl p' ((es ++ [((va : Int), (vb : Int), 1 + (vc : Int))]).length), .sl none 0]) (n' := (es ++ [((va : Int), (vb : Int), 1 + (vc : Int))]).length) (cs' := (es ++ [((va : Int), (vb : Int), 1 + (vc : Int))]).flatMap eC) (by rw [e1]) e1 e2
    conv => whnf
    have hz : IntKind.i64.wrap ((j : Int) + 1) = ((j + 1 : Nat) : Int) := by
      rw [wrap_i64 (by omega) (by omega)]
      omega
    refine ⟨_, Forget.cons rfl (Forget.cons rfl (Forget.cons rfl (Forget.cons rfl (Forget.cons rfl (Forget.cons rfl (Forget.nil _)))))), ⟨j + 1, _, _, p', by omega, hz, w, ex.add (by omega) (by omega) (by omega), rfl⟩, ?_⟩
    show ((4 : Int) - IntKind.i64.wrap ((j : Int) + 1)).toNat < ((4 : Int) - (j : Int)).toNat
    rw [hz]
    omega
  conv => whnf
  clear ha
  have ex := ex.mono (j := 3) hj3
  refine ⟨_, Cell.mk w.ob rfl, ?_⟩
  conv => whnf
  refine br_mk (fun ha => ?_) (fun ha => ?_)
  conv => whnf
  have w := w.renew 1 (sz' := 3) (cs' := eC (0, 0, 3)) rfl
  refine ⟨_, _, w.ob, Nat.le_of_ble_eq_true rfl, ?_⟩
  have w := w.put [.sl pn ns.length, .sl (some (h3.next, 0)) 1, .sl none 0]
  obtain ⟨es, hese⟩ : ∃ es : List (Int × Int × Int), es = [(0, 0, 3)] := ⟨_, rfl⟩
  have w := w.cast (row' := [.sl pn ns.length, .sl (some (h3.next, 0)) es.length, .sl none 0]) (n' := es.length) (cs' := es.flatMap eC) (by rw [hese]; rfl) (by rw [hese]; rfl) (by rw [hese]; rfl)
  have ex : Ex i 3 es := by
    rw [hese]
    exact Ex.one (by omega)
  clear hese
  generalize some (h3.next, 0) = pe at w ⊢
  rotate_left
  all_goals
    clear ha
    conv => whnf
    have hpe : ∀ i o, pe = some (i, o) → ¬ one (h.next + 1) i ∧ h.next < i := w.sep hgc
    obtain ⟨hB, wB, se, mB⟩ := w.base 2
    have sn := sn.get mB (fun i o e => .inl (hpn i o e).1)
    have g2 := mB.get g2 (.inl hgn)
    have mm := mm.trans' mB (S2 := none_) (fun _ _ k => k) hgo
    have w := wB
    clear wB mB
    have hel := ex.len
    refine ⟨fun env hh => ∃ (a : Nat) (z : Int) (bs : List (Int × Int)) (pb : Option (Nat × Nat)), a ≤ es.length ∧ z = a ∧ Tb hB hh (h.next + 1) [.sl pn ns.length, .sl pe es.length, .sl pb (bs.length)] pb bs.length 2 (bs.flatMap pC) ∧ Bo es a 0 bs ∧ env = [(12, i64 z), (4, i64 W), (5, i64 Hh), (0, .sl p n), (2, .ptr (some (h.next, 0))), (3, .ptr (some ((h.next + 1), 0)))],
      fun env _ => match get env 12 with
        | .int _ z => ((es.length : Int) - z).toNat
        | _ => 0, ⟨_, Forget.cons rfl (Forget.cons rfl (Forget.cons rfl (Forget.cons rfl (Forget.cons rfl (Forget.cons rfl (Forget.nil _)))))), 0, _, [], none, Nat.zero_le _, rfl, w, Bo.nil es, rfl⟩, ?_⟩
    clear w
    rintro _ h5 ⟨a, z, bs, pb, hae, rfl, w, bo, rfl⟩
    conv => whnf
    refine ⟨_, Cell.mk w.ob rfl, ?_⟩
    conv => whnf
    refine br_mk (fun ha => ?_) (fun ha => ?_)
    · conv => whnf
      simp at ha
      have hal : a < es.length := by omega
      refine ⟨fun env hh => ∃ (b : Nat) (z : Int) (bs : List (Int × Int)) (pb : Option (Nat × Nat)), b ≤ es.length ∧ z = b ∧ Tb hB hh (h.next + 1) [.sl pn ns.length, .sl pe es.length, .sl pb (bs.length)] pb bs.length 2 (bs.flatMap pC) ∧ Bo es a b bs ∧ env = [(13, i64 z), (12, i64 a), (4, i64 W), (5, i64 Hh), (0, .sl p n), (2, .ptr (some (h.next, 0))), (3, .ptr (some ((h.next + 1), 0)))],
        fun env _ => match get env 13 with
          | .int _ z => ((es.length : Int) - z).toNat
          | _ => 0, ⟨_, Forget.cons rfl (Forget.cons rfl (Forget.cons rfl (Forget.cons rfl (Forget.cons rfl (Forget.cons rfl (Forget.cons rfl (Forget.nil _))))))), 0, _, bs, pb, Nat.zero_le _, rfl, w, bo, rfl⟩, ?_⟩
      clear w bo
      rintro _ h6 ⟨b, z, bs, pb, hbe, rfl, w, bo, rfl⟩
      conv => whnf
      refine ⟨_, Cell.mk w.ob rfl, ?_⟩
      conv => whnf
      refine br_mk (fun hb => ?_) (fun hb => ?_)
      rotate_left
      · conv => whnf
        simp at hb
        obtain rfl : b = es.length := by omega
        have hs2 := succ_i64 (j := a) (n := es.length) hal (by omega)
        refine ⟨_, Forget.cons rfl (Forget.cons rfl (Forget.cons rfl (Forget.cons rfl (Forget.cons rfl (Forget.cons rfl (Forget.nil _)))))), ⟨a + 1, _, bs, pb, by omega, hs2, w, bo.next ex.cnt, rfl⟩, ?_⟩
        show ((es.length : Int) - IntKind.i64.wrap ((a : Int) + 1)).toNat < ((es.length : Int) - (a : Int)).toNat
        rw [hs2]
        omega
      conv => whnf
      simp at hb
      have hbl : b < es.length := by omega
      have hs2 := succ_i64 (j := b) (n := es.length) hbl (by omega)
      have hmu : ((es.length : Int) - IntKind.i64.wrap ((b : Int) + 1)).toNat < ((es.length : Int) - (b : Int)).toNat := by
        rw [hs2]
        omega
      have seh := se.get w.m (fun i o e => .inl (hpe i o e).1)
      obtain ⟨i1, c1, e1, _, k1⟩ := sls_get eC_len seh rfl hal
      obtain ⟨i2, c2, e2, _, k2⟩ := sls_get eC_len seh rfl hbl
      refine ⟨[0, 1, 2, 3, 4, 5, 6, 7, 8, 9, 10, 11, 12, 13, 14, 15, 16, 17, 18, 19, 20, 21], [0, 1, 0, 7, 15, 31, 0, 64, 0, 448, 960, 1984, 4095, 8191, 16383, 16383, 49151, 16383, 245759, 524287, 1048575, 2097151], by kernel_rfl, ?_⟩
      conv => whnf
      refine ⟨_, Cell.mk w.ob rfl, ?_⟩
      conv => whnf
      refine ⟨i1, c1, a, e1, rfl, hal, ?_⟩
      conv => whnf
      refine ⟨_, k1 1 (i64 es[a].2.1) rfl, ?_⟩
      conv => whnf
      refine ⟨_, Cell.mk w.ob rfl, ?_⟩
      conv => whnf
      refine ⟨i2, c2, b, e2, rfl, hbl, ?_⟩
      conv => whnf
      refine ⟨_, k2 0 (i64 es[b].1) rfl, ?_⟩
      conv => whnf
      refine br_mk (fun hq => ?_) (fun hq => ?_)
      rotate_left
      · conv => whnf
        exact ⟨_, Forget.cons rfl (Forget.cons rfl (Forget.cons rfl (Forget.cons rfl (Forget.cons rfl (Forget.cons rfl (Forget.cons rfl (Forget.nil _))))))), ⟨b + 1, _, bs, pb, by omega, hs2, w, bo.skip hbl, rfl⟩, hmu⟩
      conv => whnf
      have hq : es[a].2.1 = es[b].1 := by simpa using hq
      refine (at32 (SlIs.old o (mm.trans' w.m (S2 := none_) (fun _ _ k => k) hgo) (fun _ _ k => k)) hn (IntKind.i64.wrap (IntKind.i64.wrap (7 * (a : Int)) + (b : Int))) 9 (by rw [wrap_i64 (x := 7 * (a : Int)) (by omega) (by omega), wrap_i64 (by omega) (by omega)]; omega) (by decide) (by decide)).mono ?_
      rintro _ h' ⟨eh, v, rfl, hv⟩
      subst h'
      conv => whnf
      refine br_mk (fun hr => ?_) (fun hr => ?_)
      rotate_left
      · conv => whnf
        exact ⟨_, Forget.cons rfl (Forget.cons rfl (Forget.cons rfl (Forget.cons rfl (Forget.cons rfl (Forget.cons rfl (Forget.cons rfl (Forget.nil _))))))), ⟨b + 1, _, bs, pb, by omega, hs2, w, bo.skip hbl, rfl⟩, hmu⟩
      conv => whnf
      clear e1 e2 k1 k2
      have hbl2 : bs.length ≤ 2000 := by
        have h1 := bo.len
        have h2 := List.countP_le_length (p := fun e : Int × Int × Int => e.1 == toOf es a) (l := es.take b)
        have h3 : (es.take b).length ≤ es.length := by
          rw [List.length_take]
          omega
        unfold cf at h1
        omega
      refine ⟨_, Cell.mk w.ob rfl, ?_⟩
      conv => whnf
      have w := w.keep (Mod.push none_ _ (.row true 2 (pC ((a : Int), (b : Int)))))
      refine ⟨bs.flatMap pC, pC ((a : Int), (b : Int)), w.sl, (SlIs.row (n := 1) (cs := pC ((a : Int), (b : Int))) (H.obj_push_new _ _) rfl).weak, by
        rw [show (T.at_ 63).bytes = 16 from rfl]
        omega, by omega, fun p' h' hs hm hf => ?_⟩
      have w := w.app hs hm hf
      conv => whnf
      refine ⟨_, _, w.ob, Nat.le_of_ble_eq_true rfl, ?_⟩
      have e1 : (bs ++ [((a : Int), (b : Int))]).length = bs.length + 1 := by simp
      have e2 : (bs ++ [((a : Int), (b : Int))]).flatMap pC = bs.flatMap pC ++ pC ((a : Int), (b : Int)) := by simp

      have w := w.put [.sl pn ns.length, .sl pe es.length, .sl p' (bs.length + 1)]
      have w := w.cast (row' := [.sl pn ns.length, .sl pe es.length, .sl p' ((bs ++ [((a : Int), (b : Int))]).length)]) (n' := (bs ++ [((a : Int), (b : Int))]).length) (cs' := (bs ++ [((a : Int), (b : Int))]).flatMap pC) (by rw [e1]) e1 e2
      conv => whnf
      exact ⟨_, Forget.cons rfl (Forget.cons rfl (Forget.cons rfl (Forget.cons rfl (Forget.cons rfl (Forget.cons rfl (Forget.cons rfl (Forget.nil _))))))), ⟨b + 1, _, _, p', by omega, hs2, w, bo.add hal hbl hq, rfl⟩, hmu⟩
    conv => whnf
    simp at ha
    obtain rfl : a = es.length := by omega
    have hpb := w.sep hgc
    have se := se.get w.m (fun i o e => .inl (hpe i o e).1)
    have sn := sn.get w.m (fun i o e => .inl (hpn i o e).1)
    have g2 := w.m.get g2 (.inl hgn)
    have mm := mm.trans' w.m (S2 := none_) (fun _ _ k => k) hgo
    have hbl2 : bs.length ≤ 2000 := by
      have h1 := bo.len
      have h2 : cf (toOf es es.length) (es.take 0) = 0 := rfl
      omega
    have hmay : mayG ⟨pn, ns, pe, es, pb, bs⟩ = true := may_town (by show 1 ≤ ns.length; omega) (by show ns.length ≤ 16; omega) hall (by show Ex ns.length 3 es; rw [hnl]; exact ex) bo
    have okm : (⟨pn, ns, pe, es, pb, bs⟩ : Gra).ok h5 := ⟨sn.weak, se.weak, w.sl.weak, by show ns.length ≤ 100000; omega, by show es.length ≤ 100000; omega, by show bs.length ≤ 100000; omega⟩
    refine ⟨_, Cells.mk (vs := (⟨pn, ns, pe, es, pb, bs⟩ : Gra).cells) w.ob (Nat.le_of_ble_eq_true rfl) rfl, ?_⟩
    conv => whnf
    refine ⟨_, _, g2, Nat.le_of_ble_eq_true rfl, ?_⟩
    conv => whnf
    have ms := Mod.set (S := one h.next) (ob := .row true 3 (⟨pn, ns, pe, es, pb, bs⟩ : Gra).cells) rfl g2 rfl
    have g3 := H.obj_set_same (ob' := .row true 3 (⟨pn, ns, pe, es, pb, bs⟩ : Gra).cells) g2
    refine ⟨(⟨pn, ns, pe, es, pb, bs⟩ : Gra).cells, Cells.mk g3 (Nat.le_of_ble_eq_true rfl) rfl, ?_⟩
    conv => whnf
    have hne : ∀ (q : Option (Nat × Nat)), (∀ i o, q = some (i, o) → ¬ one (h.next + 1) i ∧ h.next < i) → ∀ i o, q = some (i, o) → ¬ one h.next i := fun q hq i o e k => by
      have := (hq i o e).2
      unfold one at k
      omega
    exact ⟨⟨pn, ns, pe, es, pb, bs⟩, rfl, okm.but ms (hne _ hpn) (hne _ hpe) (hne _ hpb), mm.trans' ms (S2 := none_) (fun _ _ k => k) (fun i hi k => absurd hi (by unfold one at k; omega)), hmay⟩
end Go.Proofs.Ytjjcalkeodfokaa
