/- G3: texts of another seat, turned to this one. -/
import Derived.Test.YtmififfaljihgaaGreatG2
set_option linter.unusedVariables false
set_option linter.unusedSimpArgs false
namespace Go.Proofs.YtmififfaljihgaaGreat
open Go Go.Ab Go.Shelf
/-- one's wait: till when, how many tries -/
def wV (x : Int × Int) : V := .agg [i64 x.1, i64 x.2]
abbrev Wt := Int × Int × Int
structure TSt (h : H) (g mi : Nat) (B M R : Int) (S : List Wt) : Prop where
  box : h.obj g = some (.row true 4 [i64 B, i64 M, i64 R, .mp (some mi)])
  map : ∃ ms, h.obj mi = some (.map true (mpE .i64 (encM wV ms))) ∧ Same ms S
  asc : AscS S
  rng : ∀ k ∈ keys S, inI k
  sep : mi ≠ g
theorem TSt.get {Z : Nat → Prop} {h h' : H} {g mi : Nat} {B M R : Int} {S : List Wt} (s : TSt h g mi B M R S) (m : Ab.Mod Z h h') (hg : ¬ Z g) (hm : ¬ Z mi) : TSt h' g mi B M R S := by
  obtain ⟨ms, h1, h2⟩ := s.map
  exact ⟨m.get s.box (.inl hg), ⟨ms, m.get h1 (.inl hm), h2⟩, s.asc, s.rng, s.sep⟩
theorem TSt.old {h h' : H} {g mi : Nat} {B M R : Int} {S : List Wt} (s : TSt h g mi B M R S) (m : Ab.Mod none_ h h') : TSt h' g mi B M R S := s.get m (fun k => k) (fun k => k)
theorem TSt.lt {h : H} {g mi : Nat} {B M R : Int} {S : List Wt} (s : TSt h g mi B M R S) : g < h.next ∧ mi < h.next := by
  obtain ⟨ms, h1, _⟩ := s.map
  exact ⟨h.lt _ _ s.box, h.lt _ _ h1⟩
/-- the map turns -/
theorem TSt.turn {h : H} {g mi : Nat} {B M R : Int} {S S' : List Wt} (s : TSt h g mi B M R S) {ms' : List Wt} (hs : Same ms' S') (ha : AscS S') (hr : ∀ k ∈ keys S', inI k) :
    TSt (h.set mi (.map true (mpE .i64 (encM wV ms')))) g mi B M R S' ∧ Ab.Mod (one mi) h (h.set mi (.map true (mpE .i64 (encM wV ms')))) := by
  obtain ⟨ms, h1, _⟩ := s.map
  exact ⟨⟨by rw [H.obj_set_ne h _ s.sep.symm, s.box], ⟨ms', H.obj_set_same h1, hs⟩, ha, hr, s.sep⟩, Mod.set rfl h1 rfl⟩
def waitW (M : Int) : Int → Nat → Int
  | B, 0 => B
  | B, n + 1 => if B < M then waitW M (2 * B) n else B
def waitV (B M n : Int) : Int := if M < waitW M B n.toNat then M else waitW M B n.toNat
theorem waitW_stop {M B : Int} (h : ¬ B < M) (n : Nat) : waitW M B n = B := by
  cases n with
  | zero => rfl
  | succ n => rw [waitW, if_neg h]
theorem wait37 {h : H} {g mi : Nat} {B M R : Int} (hb : h.obj g = some (.row true 4 [i64 B, i64 M, i64 R, .mp (some mi)])) (h1 : 1 ≤ B) (h2 : B ≤ M) (h3 : M ≤ 1000) {n : Int} (hn : n ≤ 9223372036854775807) :
    ACalls Tryz.prog 113 [.ptr (some (g, 0)), i64 n] h (fun r h' => h' = h ∧ r = i64 (waitV B M n)) := by
  refine call_ Tryz.func113 rfl rfl (by kernel_rfl) ?_
  conv => whnf
  refine ⟨_, Cell.mk hb rfl, ?_⟩
  conv => whnf
  refine ⟨fun env hh => ∃ (w z : Int), hh = h ∧ 1 ≤ w ∧ w ≤ 2000 ∧ waitW M w z.toNat = waitW M B n.toNat ∧ z ≤ n ∧ (z = n ∨ 0 ≤ z) ∧ env = [(1, i64 z), (5, i64 w), (0, .ptr (some (g, 0)))],
    fun env _ => match get env 1 with
      | .int _ z => z.toNat
      | _ => 0, ⟨_, Forget.cons rfl (Forget.cons rfl (Forget.cons rfl (Forget.nil _))), B, n, rfl, h1, by omega, rfl, Int.le_refl _, .inl rfl, rfl⟩, ?_⟩
  rintro _ hh ⟨w, z, eh, w1, w2, w3, z1, z2, rfl⟩
  subst eh
  conv => whnf
  have fin : waitW M w z.toNat = w → ∀ x, x = w → (if M < x then M else x) = waitV B M n := fun e x hx => by
    rw [waitV, ← w3, e, hx]
  refine br_mk (fun ha => ?_) (fun ha => ?_)
  · conv => whnf
    have ha : 0 < z := by simpa using ha
    refine ⟨_, Cell.mk hb rfl, ?_⟩
    conv => whnf
    refine br_mk (fun hc => ?_) (fun hc => ?_)
    · conv => whnf
      have hc : w < M := by simpa using hc
      have e1 : IntKind.i64.wrap (w * 2) = 2 * w := by rw [wrap_i64 (by omega) (by omega)]; omega
      have e2 : z.toNat = (z - 1).toNat + 1 := by omega
      have e3 : IntKind.i64.wrap (z - 1) = z - 1 := wrap_i64 (by omega) (by omega)
      rw [e1, e3]
      refine ⟨_, Forget.cons rfl (Forget.cons rfl (Forget.cons rfl (Forget.nil _))), ⟨2 * w, z - 1, rfl, by omega, by omega, ?_, by omega, .inr (by omega), rfl⟩, ?_⟩
      · rw [← w3, e2, waitW, if_pos hc]
      · show (z - 1).toNat < z.toNat
        omega
    · conv => whnf
      have hc : ¬ w < M := by simpa using hc
      refine ⟨_, Cell.mk hb rfl, ?_⟩
      conv => whnf
      exact ⟨rfl, congrArg i64 (fin (waitW_stop hc _) w rfl)⟩
  · conv => whnf
    have ha : ¬ 0 < z := by simpa using ha
    refine ⟨_, Cell.mk hb rfl, ?_⟩
    conv => whnf
    refine ⟨rfl, congrArg i64 (fin ?_ w rfl)⟩
    rw [show z.toNat = 0 by omega]
    rfl
def okT (B M R : Int) : Bool := decide (1 ≤ B) && decide (B ≤ 1000) && decide (B ≤ M) && decide (M ≤ 1000) && decide (0 ≤ R) && decide (R ≤ 20)
theorem okT_iff {B M R : Int} : okT B M R = true ↔ 1 ≤ B ∧ B ≤ 1000 ∧ B ≤ M ∧ M ≤ 1000 ∧ 0 ≤ R ∧ R ≤ 20 := by
  simp [okT, and_assoc]
def NewTQ (B M R : Int) (h : H) (r : V) (h' : H) : Prop :=
  (okT B M R = false ∧ r = .tup [.ptr none, i64 1] ∧ h' = h) ∨ (okT B M R = true ∧ ∃ g mi, r = .tup [.ptr (some (g, 0)), i64 0] ∧ TSt h' g mi B M R [] ∧ h.next ≤ g ∧ h.next ≤ mi ∧ Ab.Mod none_ h h')
theorem new22 (h : H) (B M R : Int) : ACalls Tryz.prog 56 [i64 B, i64 M, i64 R] h (fun r h' => NewTQ B M R h r h') := by
  refine call_ Tryz.func56 rfl rfl (by kernel_rfl) ?_
  conv => whnf
  have no : ¬ (1 ≤ B ∧ B ≤ 1000 ∧ B ≤ M ∧ M ≤ 1000 ∧ 0 ≤ R ∧ R ≤ 20) → NewTQ B M R h (.tup [.ptr none, i64 1]) h := fun hn => .inl ⟨by
    cases hh : okT B M R with
    | false => rfl
    | true => exact absurd (okT_iff.1 hh) hn, rfl, rfl⟩
  refine br_mk (fun ha => ?_) (fun ha => ?_)
  · conv => whnf
    have ha : B < 1 := by simpa using ha
    exact no (by omega)
  conv => whnf
  have ha : ¬ B < 1 := by simpa using ha
  refine br_mk (fun hb => ?_) (fun hb => ?_)
  · conv => whnf
    have hb : B > 1000 := by simpa using hb
    exact no (by omega)
  conv => whnf
  have hb : ¬ B > 1000 := by simpa using hb
  refine br_mk (fun hc => ?_) (fun hc => ?_)
  · conv => whnf
    have hc : M < B := by simpa using hc
    exact no (by omega)
  conv => whnf
  have hc : ¬ M < B := by simpa using hc
  refine br_mk (fun hd => ?_) (fun hd => ?_)
  · conv => whnf
    have hd : M > 1000 := by simpa using hd
    exact no (by omega)
  conv => whnf
  have hd : ¬ M > 1000 := by simpa using hd
  refine br_mk (fun he => ?_) (fun he => ?_)
  · conv => whnf
    have he : R < 0 := by simpa using he
    exact no (by omega)
  conv => whnf
  have he : ¬ R < 0 := by simpa using he
  refine br_mk (fun hf => ?_) (fun hf => ?_)
  · conv => whnf
    have hf : R > 20 := by simpa using hf
    exact no (by omega)
  conv => whnf
  have hf : ¬ R > 20 := by simpa using hf
  refine .inr ⟨okT_iff.2 (by omega), h.next + 1, h.next, rfl, ⟨H.obj_push_new _ _, ⟨[], H.obj_push _ (H.obj_push_new _ _), List.Pairwise.nil, fun _ => rfl⟩, List.Pairwise.nil, (fun k hk => absurd hk (by simp [keys])), by omega⟩, by omega, Nat.le_refl _, mod_none (Mod.push none_ h _) (Mod.push none_ _ _)⟩
theorem newT_yes {B M R : Int} {h h' : H} {r : V} (q : NewTQ B M R h r h') (ok : okT B M R = true) : ∃ g mi, r = .tup [.ptr (some (g, 0)), i64 0] ∧ TSt h' g mi B M R [] ∧ h.next ≤ g ∧ h.next ≤ mi ∧ Ab.Mod none_ h h' := by
  rcases q with ⟨e, _⟩ | ⟨_, q⟩
  · rw [ok] at e
    cases e
  · exact q
theorem insS_rng {S : List Wt} (hr : ∀ k ∈ keys S, inI k) {id : Int} (hid : inI id) (v : Int × Int) : ∀ k ∈ keys (insS S id v), inI k := fun k hk => by
  obtain ⟨p, hp, rfl⟩ := List.mem_map.1 hk
  rw [insS, List.mem_append, List.mem_cons] at hp
  rcases hp with hp | rfl | hp
  · exact hr _ (List.mem_map.2 ⟨p, (List.mem_filter.1 hp).1, rfl⟩)
  · exact hid
  · exact hr _ (List.mem_map.2 ⟨p, (List.mem_filter.1 hp).1, rfl⟩)
theorem waitW_ge {M : Int} : ∀ (n : Nat) {B : Int}, 1 ≤ B → B ≤ waitW M B n
  | 0, B, _ => Int.le_refl _
  | n + 1, B, h => by
    rw [waitW]
    split
    · have := waitW_ge (M := M) n (B := 2 * B) (by omega)
      omega
    · exact Int.le_refl _
theorem waitV_rng {B M : Int} (h1 : 1 ≤ B) (h2 : B ≤ M) (n : Int) : B ≤ waitV B M n ∧ waitV B M n ≤ M := by
  have := waitW_ge (M := M) n.toNat h1
  unfold waitV
  split <;> omega
theorem start23 {h : H} {g mi : Nat} {B M R : Int} {S : List Wt} (s : TSt h g mi B M R S) (ok : okT B M R = true) {id now : Int} (hid : inI id) (h0 : -1000000000 ≤ now) (h1 : now ≤ 1000000000) :
    ACalls Tryz.prog 114 [.ptr (some (g, 0)), i64 id, i64 now] h (fun r h' => TSt h' g mi B M R (insS S id (now + waitV B M 0, 0)) ∧ Ab.Mod (one mi) h h') := by
  obtain ⟨b1, b2, b3, b4, b5, b6⟩ := okT_iff.1 ok
  obtain ⟨w1, w2⟩ := waitV_rng b1 b3 0
  refine call_ Tryz.func114 rfl rfl (by kernel_rfl) ?_
  conv => whnf
  refine ⟨[0, 1, 2, 3, 4, 5, 6, 7, 8, 9, 10], [0, 1, 3, 7, 0, 0, 0, 64, 224, 480, 1023], by kernel_rfl, ?_⟩
  conv => whnf
  refine ⟨_, Cell.mk s.box rfl, ?_⟩
  conv => whnf
  refine (wait37 s.box b1 b3 b4 (n := 0) (by decide)).mono ?_
  rintro _ h2 ⟨eh, rfl⟩
  subst eh
  conv => whnf
  refine ⟨⟨_, Cell.mk s.box rfl, rfl⟩, ?_⟩
  conv => whnf
  rw [wrap_i64 (x := now + waitV B M 0) (by omega) (by omega)]
  obtain ⟨ms, g1, g2⟩ := s.map
  refine ⟨encM wV ms, g1, ?_⟩
  conv => whnf
  have e1 := mput_enc wV id (now + waitV B M 0, 0) ms
  have key := s.turn (g2.put id (now + waitV B M 0, 0) (insS_get s.asc id _)) (insS_asc s.asc id _) (insS_rng s.rng hid _)
  rw [← e1] at key
  exact key
theorem delS_rng {S : List Wt} (hr : ∀ k ∈ keys S, inI k) (id : Int) : ∀ k ∈ keys (delS S id), inI k := fun k hk => by
  obtain ⟨p, hp, rfl⟩ := List.mem_map.1 hk
  exact hr _ (List.mem_map.2 ⟨p, (List.mem_filter.1 hp).1, rfl⟩)
theorem stop40 {h : H} {g mi : Nat} {B M R : Int} {S : List Wt} (s : TSt h g mi B M R S) {q : Option (Nat × Nat)} {m : Nat} {E : List Int} (nm : SlIs h q m false 1 (ints .i64 E)) (hq : ∀ i o, q = some (i, o) → i ≠ mi) (hm : m ≤ 1000000) :
    ACalls Tryz.prog 109 [.ptr (some (g, 0)), .sl q m] h (fun r h' => TSt h' g mi B M R (E.foldl delS S) ∧ Ab.Mod (one mi) h h') := by
  have hl := slo_len nm
  refine call_ Tryz.func109 rfl rfl (by kernel_rfl) ?_
  conv => whnf
  refine ⟨fun env hh => ∃ (j : Nat) (z : Int), j ≤ m ∧ z = j ∧ TSt hh g mi B M R ((E.take j).foldl delS S) ∧ Ab.Mod (one mi) h hh ∧ env = [(10, i64 z), (9, i64 m), (8, .sl q m), (0, .ptr (some (g, 0)))],
    fun env _ => match get env 10 with
      | .int _ z => (m - z).toNat
      | _ => 0, ⟨_, Forget.cons rfl (Forget.cons rfl (Forget.cons rfl (Forget.cons rfl (Forget.nil _)))), 0, _, Nat.zero_le _, rfl, s, ⟨Nat.le_refl _, fun _ _ _ => rfl⟩, rfl⟩, ?_⟩
  rintro _ hh ⟨j, z, hj, rfl, st, mo, rfl⟩
  conv => whnf
  refine br_mk (fun hd => ?_) (fun hd => ?_)
  · conv => whnf
    have hd : j < m := by simpa using hd
    obtain ⟨i1, c1, f1, f2⟩ := slo_get (nm.get mo (fun i o e => .inl (hq i o e))) hd
    refine ⟨i1, c1, j, f1, rfl, hd, ?_⟩
    conv => whnf
    refine ⟨_, f2, ?_⟩
    conv => whnf
    refine ⟨_, Cell.mk st.box rfl, ?_⟩
    conv => whnf
    obtain ⟨ms, g1, g2⟩ := st.map
    refine .inl ⟨encM wV ms, g1, ?_⟩
    conv => whnf
    have e1 := mdel_enc wV (E.getD j 0) ms
    obtain ⟨k1, k2⟩ := st.turn (g2.del (E.getD j 0) (delS_get st.asc (E.getD j 0))) (delS_asc st.asc (E.getD j 0)) (delS_rng st.rng (E.getD j 0))
    rw [← e1] at k1 k2
    have e2 : (E.take (j + 1)).foldl delS S = delS ((E.take j).foldl delS S) (E.getD j 0) := by
      rw [take_snoc_ (by omega), List.foldl_append]
      rfl
    rw [← e2] at k1
    exact ⟨_, Forget.cons rfl (Forget.cons rfl (Forget.cons rfl (Forget.cons rfl (Forget.nil _)))), ⟨j + 1, _, hd, succ_i64 hd (by omega), k1, mo.trans' k2 (fun _ _ k => k) (fun _ _ k => k), rfl⟩, mu_lt hd hm⟩
  · conv => whnf
    have hd : ¬ j < m := by simpa using hd
    rw [List.take_of_length_le (by omega)] at st
    exact ⟨st, mo⟩
def dueF (B M R now : Int) (x : Wt) : Option Wt := if x.2.1 > now then some x else if x.2.2 < R then some (x.1, now + waitV B M (x.2.2 + 1), x.2.2 + 1) else none
def agB (R now : Int) (x : Wt) : Bool := !decide (x.2.1 > now) && decide (x.2.2 < R)
def ovB (R now : Int) (x : Wt) : Bool := !decide (x.2.1 > now) && !decide (x.2.2 < R)
def agS (R now : Int) (S : List Wt) : List Int := keys (S.filter (agB R now))
def ovS (R now : Int) (S : List Wt) : List Int := keys (S.filter (ovB R now))
def rsS (B M R now : Int) (S : List Wt) : List Wt := S.filterMap (dueF B M R now)
theorem agS_snoc (R now : Int) (S : List Wt) (x : Wt) : agS R now (S ++ [x]) = agS R now S ++ (if agB R now x then [x.1] else []) := by
  rw [agS, filter_snoc, keys_append, agS]
  congr 1
  by_cases h : agB R now x = true
  · rw [if_pos h, if_pos h]
    rfl
  · rw [if_neg h, if_neg h]
    rfl
theorem ovS_snoc (R now : Int) (S : List Wt) (x : Wt) : ovS R now (S ++ [x]) = ovS R now S ++ (if ovB R now x then [x.1] else []) := by
  rw [ovS, filter_snoc, keys_append, ovS]
  congr 1
  by_cases h : ovB R now x = true
  · rw [if_pos h, if_pos h]
    rfl
  · rw [if_neg h, if_neg h]
    rfl
theorem rsS_snoc (B M R now : Int) (S : List Wt) (x : Wt) : rsS B M R now (S ++ [x]) = rsS B M R now S ++ (dueF B M R now x).toList := by
  rw [rsS, List.filterMap_append, rsS, List.filterMap_cons, List.filterMap_nil]
  cases h : dueF B M R now x <;> rfl
theorem agS_le (R now : Int) (S : List Wt) : (agS R now S).length ≤ S.length := by
  rw [agS, keys, List.length_map]
  exact List.length_filter_le _ _
theorem ovS_le (R now : Int) (S : List Wt) : (ovS R now S).length ≤ S.length := by
  rw [ovS, keys, List.length_map]
  exact List.length_filter_le _ _
theorem keys_get {S : List Wt} {j : Nat} (h : j < S.length) : (keys S).getD j 0 = S[j].1 := by
  simp [keys, List.getD_eq_getElem?_getD, h]
def DueQ (h : H) (g mi : Nat) (B M R : Int) (S : List Wt) (now : Int) (r : V) (h' : H) : Prop :=
  ∃ qa qo, r = .tup [.sl qa (agS R now S).length, .sl qo (ovS R now S).length] ∧ NewSl h h' qa (agS R now S).length 1 (ints .i64 (agS R now S)) ∧ NewSl h h' qo (ovS R now S).length 1 (ints .i64 (ovS R now S)) ∧ TSt h' g mi B M R (rsS B M R now S) ∧ Ab.Mod (one mi) h h'
set_option maxHeartbeats 1000000 in
theorem due24 {h : H} {g mi : Nat} {B M R : Int} {S : List Wt} (s : TSt h g mi B M R S) (ok : okT B M R = true) (hS : S.length ≤ 100000) (hN : ∀ x ∈ S, 0 ≤ x.2.2) {now : Int} (hn0 : -1000000000 ≤ now) (hn1 : now ≤ 1000000000) :
    ACalls Tryz.prog 96 [.ptr (some (g, 0)), i64 now] h (DueQ h g mi B M R S now) := by
  obtain ⟨b1, b2, b3, b4, b5, b6⟩ := okT_iff.1 ok
  refine call_ Tryz.func96 rfl rfl (by kernel_rfl) ?_
  conv => whnf
  refine ⟨_, Cell.mk s.box rfl, ?_⟩
  conv => whnf
  refine (keys67 h mi).mono ?_
  rintro _ h1 ⟨rfl, e1⟩
  subst e1
  conv => whnf
  obtain ⟨ms, g1, g2⟩ := s.map
  have mP := Mod.push none_ h (.row true 1 [.mp (some mi)])
  have gP := mP.get g1 (.inl (fun k => k))
  have hkm : ∀ p ∈ encM wV ms, inI p.1 := fun p hp => by
    obtain ⟨x, hx, rfl⟩ := List.mem_map.1 hp
    refine s.rng x.1 ?_
    rw [← sget_some, ← g2.2, sget_some]
    exact List.mem_map.2 ⟨x, hx, rfl⟩
  refine (sorted66 (.inl rfl) (H.obj_push_new h _) gP (by rw [encM_keys]; exact g2.1) hkm (by rw [encM_length, g2.length s.asc]; omega)).mono ?_
  rintro _ h2 ⟨q, rfl, nq, m2⟩
  rw [encM_keys, encM_length, g2.keys s.asc, g2.length s.asc] at nq
  rw [encM_length, g2.length s.asc]
  have mA := mod_none mP m2
  have s2 := s.old mA
  have hlt := s.lt
  have hqi : ∀ i o, q = some (i, o) → h.next ≤ i := fun i o e => Nat.le_of_succ_le (nq.2 i o e)
  conv => whnf
  refine ⟨fun env hh => ∃ (j : Nat) (z : Int) (pa po : Option (Nat × Nat)), j ≤ S.length ∧ z = j ∧ NewSl h2 hh pa (agS R now (S.take j)).length 1 (ints .i64 (agS R now (S.take j))) ∧ NewSl h2 hh po (ovS R now (S.take j)).length 1 (ints .i64 (ovS R now (S.take j))) ∧
      (∀ i, inSl pa i → inSl po i → False) ∧ TSt hh g mi B M R (rsS B M R now (S.take j) ++ S.drop j) ∧ Ab.Mod (one mi) h2 hh ∧
      env = [(18, i64 z), (4, .sl pa (agS R now (S.take j)).length), (5, .sl po (ovS R now (S.take j)).length), (17, i64 S.length), (16, .sl q S.length), (0, .ptr (some (g, 0))), (1, i64 now)],
    fun env _ => match get env 18 with
      | .int _ z => (S.length - z).toNat
      | _ => 0, ⟨_, Forget.cons rfl (Forget.cons rfl (Forget.cons rfl (Forget.cons rfl (Forget.cons rfl (Forget.cons rfl (Forget.cons rfl (Forget.nil _))))))), 0, _, none, none, Nat.zero_le _, rfl, NewSl.nil _ _ _, NewSl.nil _ _ _, (fun i a => by
        obtain ⟨o, a⟩ := a
        cases a), s2, ⟨Nat.le_refl _, fun _ _ _ => rfl⟩, rfl⟩, ?_⟩
  rintro _ hh ⟨j, z, pa, po, hj, rfl, na, no, dis, st, mo, rfl⟩
  conv => whnf
  refine br_mk (fun hd => ?_) (fun hd => ?_)
  rotate_left
  · conv => whnf
    have hd : ¬ j < S.length := by simpa using hd
    obtain rfl : j = S.length := by omega
    rw [List.take_length] at na no st ⊢
    rw [List.drop_length, List.append_nil] at st
    exact ⟨pa, po, rfl, ⟨na.1, fun i o e => Nat.le_trans mA.next (na.2 i o e)⟩, ⟨no.1, fun i o e => Nat.le_trans mA.next (no.2 i o e)⟩, st, mA.trans' mo (fun _ _ k => k.elim) (fun _ _ k => k)⟩
  conv => whnf
  have hd : j < S.length := by simpa using hd
  have sq : SlIs hh q S.length true 1 (ints .i64 (keys S)) := nq.1.get mo (fun i o e => .inl (fun k => by
    have := hqi i o e
    have : i = mi := k
    omega))
  obtain ⟨i1, c1, f1, f2⟩ := slo_get sq hd
  rw [keys_get hd] at f2
  refine ⟨i1, c1, j, f1, rfl, hd, ?_⟩
  conv => whnf
  refine ⟨_, f2, ?_⟩
  conv => whnf
  refine ⟨_, Cell.mk st.box rfl, ?_⟩
  conv => whnf
  have hdr : S.drop j = S[j] :: S.drop (j + 1) := List.drop_eq_getElem_cons hd
  have htk : S.take (j + 1) = S.take j ++ [S[j]] := List.take_succ_eq_append_getElem hd
  have hx0 := hN _ (getElem_in hd)
  have hjl : (agS R now (S.take j)).length ≤ S.length ∧ (ovS R now (S.take j)).length ≤ S.length := by
    have h1 := agS_le R now (S.take j)
    have h2 := ovS_le R now (S.take j)
    rw [List.length_take] at h1 h2
    omega
  rw [hdr] at st
  generalize S[j] = x at f2 hdr htk hx0 st ⊢
  have hm1 := sget_mid st.asc
  obtain ⟨ms1, k1, k2⟩ := st.map
  have e2 : mget (encM wV ms1) x.1 = some (wV x.2) := by rw [mget_enc, k2.2, hm1]; rfl
  refine ⟨true, encM wV ms1, k1, ?_⟩
  rw [e2]
  conv => whnf
  obtain ⟨gm, gn, ml⟩ := lay_row (h := hh) (sz := 2) [i64 0, i64 0] [i64 x.2.1, i64 x.2.2]
  refine ⟨_, _, gm, Nat.le_of_ble_eq_true rfl, ?_⟩
  conv => whnf
  refine ⟨_, Cell.mk gn rfl, ?_⟩
  conv => whnf
  have na1 := NewSl.kept na ml
  have no1 := NewSl.kept no ml
  have st1 := st.old ml
  have mo1 := mo.trans' ml (fun _ _ k => k) (fun _ _ k => k.elim)
  refine br_mk (fun hb => ?_) (fun hb => ?_)
  · conv => whnf
    have hF : dueF B M R now x = some x := by rw [dueF, if_pos (by simpa using hb)]
    have hA : agB R now x = false := by rw [agB, show decide (x.2.1 > now) = true from hb]; rfl
    have hO : ovB R now x = false := by rw [ovB, show decide (x.2.1 > now) = true from hb]; rfl
    have ea : agS R now (S.take (j + 1)) = agS R now (S.take j) := by rw [htk, agS_snoc, hA]; simp
    have eo : ovS R now (S.take (j + 1)) = ovS R now (S.take j) := by rw [htk, ovS_snoc, hO]; simp
    have er : rsS B M R now (S.take j) ++ x :: S.drop (j + 1) = rsS B M R now (S.take (j + 1)) ++ S.drop (j + 1) := by rw [htk, rsS_snoc, hF]; simp
    rw [er] at st1
    rw [← ea] at na1
    rw [← eo] at no1
    rw [← ea, ← eo]
    exact ⟨_, Forget.cons rfl (Forget.cons rfl (Forget.cons rfl (Forget.cons rfl (Forget.cons rfl (Forget.cons rfl (Forget.cons rfl (Forget.nil _))))))), ⟨j + 1, _, pa, po, hd, succ_i64 hd (by omega), na1, no1, dis, st1, mo1, rfl⟩, mu_lt hd (by omega)⟩
  conv => whnf
  refine ⟨[0, 1, 2, 3, 4, 5, 6, 7], [0, 1, 0, 4, 12, 28, 63, 127], by kernel_rfl, ?_⟩
  conv => whnf
  refine ⟨_, Cell.mk gn rfl, ?_⟩
  conv => whnf
  refine ⟨_, Cell.mk st1.box rfl, ?_⟩
  conv => whnf
  refine br_mk (fun hc => ?_) (fun hc => ?_)
  · conv => whnf
    have hc' : x.2.2 < R := by simpa using hc
    have hF : dueF B M R now x = some (x.1, now + waitV B M (x.2.2 + 1), x.2.2 + 1) := by rw [dueF, if_neg (by simpa using hb), if_pos hc']
    have hA : agB R now x = true := by rw [agB, show decide (x.2.1 > now) = false from hb, hc]; rfl
    have hO : ovB R now x = false := by rw [ovB, show decide (x.2.1 > now) = false from hb, hc]; rfl
    have ea : agS R now (S.take (j + 1)) = agS R now (S.take j) ++ [x.1] := by rw [htk, agS_snoc, hA]; simp
    have eo : ovS R now (S.take (j + 1)) = ovS R now (S.take j) := by rw [htk, ovS_snoc, hO]; simp
    have er : rsS B M R now (S.take j) ++ (x.1, now + waitV B M (x.2.2 + 1), x.2.2 + 1) :: S.drop (j + 1) = rsS B M R now (S.take (j + 1)) ++ S.drop (j + 1) := by rw [htk, rsS_snoc, hF]; simp
    refine ⟨[0, 1, 2, 3, 4, 5, 6, 7, 8, 9, 12, 13, 14, 10, 11, 15, 16], [0, 1, 3, 7, 0, 0, 0, 0, 128, 384, 960, 2016, 0, 4096, 12288, 32736, 65535], by kernel_rfl, ?_⟩
    conv => whnf
    refine ⟨_, Cell.mk st1.box rfl, ?_⟩
    conv => whnf
    refine ⟨_, Cell.mk gn rfl, ?_⟩
    conv => whnf
    refine ⟨_, Cell.mk gn rfl, ?_⟩
    conv => whnf
    have ew : IntKind.i64.wrap (x.2.2 + 1) = x.2.2 + 1 := wrap_i64 (by omega) (by omega)
    rw [ew]
    refine (wait37 st1.box b1 b3 b4 (n := x.2.2 + 1) (by omega)).mono ?_
    rintro _ h4 ⟨eh, rfl⟩
    subst eh
    conv => whnf
    refine ⟨⟨_, Cell.mk gn rfl, rfl⟩, ?_⟩
    conv => whnf
    refine ⟨⟨_, Cell.mk st1.box rfl, rfl⟩, ?_⟩
    conv => whnf
    rw [wrap_i64 (x := now + waitV B M (x.2.2 + 1)) (by have := waitV_rng b1 b3 (x.2.2 + 1); omega) (by have := waitV_rng b1 b3 (x.2.2 + 1); omega)]
    have k1N := ml.get k1 (.inl (fun k => k))
    refine ⟨encM wV ms1, k1N, ?_⟩
    conv => whnf
    have em := mput_enc wV x.1 (now + waitV B M (x.2.2 + 1), x.2.2 + 1) ms1
    have hasc : AscS (rsS B M R now (S.take j) ++ (x.1, now + waitV B M (x.2.2 + 1), x.2.2 + 1) :: S.drop (j + 1)) := asc_upd st.asc _
    obtain ⟨t1, t2⟩ := st1.turn (k2.put x.1 (now + waitV B M (x.2.2 + 1), x.2.2 + 1) (sget_upd st.asc _)) hasc (fun k hk => st.rng k (by
      rw [keys_append] at hk ⊢
      exact hk))
    rw [← em] at t1 t2
    rw [er] at t1
    have na1 := NewSl.keep na1 t2 (fun i hi => by
      have := mA.next
      have : i = mi := hi
      omega)
    have no1 := NewSl.keep no1 t2 (fun i hi => by
      have := mA.next
      have : i = mi := hi
      omega)
    have mo2 := mo1.trans' t2 (fun _ _ k => k) (fun _ _ k => k)
    obtain ⟨y1, y2, y3⟩ := app1 na1 mo2 [i64 x.1] rfl
    refine ⟨_, _, y1, y2, by rw [show (T.at_ 3).bytes = 8 from rfl]; omega, by omega, fun pa2 hY hs hm hf => ?_⟩
    obtain ⟨na2, mo3, my⟩ := y3 pa2 hY hs hm hf
    obtain ⟨no2, dis2⟩ := app1d no1 dis my hf
    have st3 := t1.get my (fun k => by
      obtain ⟨o, k⟩ := k
      have := na1.2 g o k
      have := mA.next
      omega) (fun k => by
      obtain ⟨o, k⟩ := k
      have := na1.2 mi o k
      have := mA.next
      omega)
    have e6 : ints .i64 (agS R now (S.take j)) ++ [i64 x.1] = ints .i64 (agS R now (S.take (j + 1))) := by rw [ea, ints_append]; rfl
    have e7 : (agS R now (S.take j)).length + 1 = (agS R now (S.take (j + 1))).length := by rw [ea]; simp
    have e8 : ovS R now (S.take j) = ovS R now (S.take (j + 1)) := by rw [htk, ovS_snoc, hO]; simp
    rw [e6, e7] at na2
    rw [e8] at no2
    conv => whnf
    rw [e7, e8]
    exact ⟨_, Forget.cons rfl (Forget.cons rfl (Forget.cons rfl (Forget.cons rfl (Forget.cons rfl (Forget.cons rfl (Forget.cons rfl (Forget.nil _))))))), ⟨j + 1, _, pa2, po, hd, succ_i64 hd (by omega), na2, no2, dis2, st3, mo3, rfl⟩, mu_lt hd (by omega)⟩
  · conv => whnf
    have hF : dueF B M R now x = none := by rw [dueF, if_neg (by simpa using hb), if_neg (by simpa using hc)]
    have hA : agB R now x = false := by rw [agB, hc, Bool.and_false]
    have hO : ovB R now x = true := by rw [ovB, show decide (x.2.1 > now) = false from hb, hc]; rfl
    have ea : agS R now (S.take j) = agS R now (S.take (j + 1)) := by rw [htk, agS_snoc, hA]; simp
    have eo : ovS R now (S.take (j + 1)) = ovS R now (S.take j) ++ [x.1] := by rw [htk, ovS_snoc, hO]; simp
    have er : rsS B M R now (S.take j) ++ S.drop (j + 1) = rsS B M R now (S.take (j + 1)) ++ S.drop (j + 1) := by rw [htk, rsS_snoc, hF]; simp
    refine ⟨_, Cell.mk st1.box rfl, ?_⟩
    conv => whnf
    have k1N := ml.get k1 (.inl (fun k => k))
    refine .inl ⟨encM wV ms1, k1N, ?_⟩
    conv => whnf
    have em := mdel_enc wV x.1 ms1
    obtain ⟨t1, t2⟩ := st1.turn (k2.del x.1 (sget_del st.asc)) (asc_del st.asc) (fun k hk => st.rng k (by
      rw [keys_append, List.mem_append] at hk ⊢
      rcases hk with hk | hk
      · exact .inl hk
      · exact .inr (List.mem_cons_of_mem _ hk)))
    rw [← em] at t1 t2
    rw [er] at t1
    have na1 := NewSl.keep na1 t2 (fun i hi => by
      have := mA.next
      have : i = mi := hi
      omega)
    have no1 := NewSl.keep no1 t2 (fun i hi => by
      have := mA.next
      have : i = mi := hi
      omega)
    have mo2 := mo1.trans' t2 (fun _ _ k => k) (fun _ _ k => k)
    obtain ⟨y1, y2, y3⟩ := app1 no1 mo2 [i64 x.1] rfl
    refine ⟨_, _, y1, y2, by rw [show (T.at_ 3).bytes = 8 from rfl]; omega, by omega, fun po2 hY hs hm hf => ?_⟩
    obtain ⟨no2, mo3, my⟩ := y3 po2 hY hs hm hf
    obtain ⟨na2, dis2'⟩ := app1d na1 (fun i a b => dis i b a) my hf
    have dis2 : ∀ i, inSl pa i → inSl po2 i → False := fun i a b => dis2' i b a
    have st3 := t1.get my (fun k => by
      obtain ⟨o, k⟩ := k
      have := no1.2 g o k
      have := mA.next
      omega) (fun k => by
      obtain ⟨o, k⟩ := k
      have := no1.2 mi o k
      have := mA.next
      omega)
    have e6 : ints .i64 (ovS R now (S.take j)) ++ [i64 x.1] = ints .i64 (ovS R now (S.take (j + 1))) := by rw [eo, ints_append]; rfl
    have e7 : (ovS R now (S.take j)).length + 1 = (ovS R now (S.take (j + 1))).length := by rw [eo]; simp
    rw [e6, e7] at no2
    rw [ea] at na2
    conv => whnf
    rw [e7, ea]
    exact ⟨_, Forget.cons rfl (Forget.cons rfl (Forget.cons rfl (Forget.cons rfl (Forget.cons rfl (Forget.cons rfl (Forget.cons rfl (Forget.nil _))))))), ⟨j + 1, _, pa, po2, hd, succ_i64 hd (by omega), na2, no2, dis2, st3, mo3, rfl⟩, mu_lt hd (by omega)⟩
theorem TSt.ro {h : H} {g mi : Nat} {B M R : Int} {S : List Wt} (s : TSt h g mi B M R S) {i : Nat} (hg : g ≠ i) (hm : mi ≠ i) : TSt (h.ro i) g mi B M R S := by
  obtain ⟨ms, h1, h2⟩ := s.map
  exact ⟨by rw [H.ro_ne _ hg, s.box], ⟨ms, by rw [H.ro_ne _ hm, h1], h2⟩, s.asc, s.rng, s.sep⟩
def DueR (h : H) (g mi : Nat) (B M R : Int) (ag ov : List Int) (S' : List Wt) (r : V) (h' : H) : Prop :=
  ∃ qa qo, r = .tup [.sl qa ag.length, .sl qo ov.length] ∧ RoSl h' qa ag.length 1 (ints .i64 ag) ∧ RoSl h' qo ov.length 1 (ints .i64 ov) ∧ TSt h' g mi B M R S' ∧ Ab.Mod (one mi) h h'
theorem due24r {h : H} {g mi : Nat} {B M R : Int} {S : List Wt} (s : TSt h g mi B M R S) (ok : okT B M R = true) (hS : S.length ≤ 100000) (hN : ∀ x ∈ S, 0 ≤ x.2.2) {now : Int} (hn0 : -1000000000 ≤ now) (hn1 : now ≤ 1000000000)
    (ag ov : List Int) (S' : List Wt) (ha : agS R now S = ag) (ho : ovS R now S = ov) (hr : rsS B M R now S = S') :
    ACalls Tryz.prog 96 [.ptr (some (g, 0)), i64 now] h (DueR h g mi B M R ag ov S') := by
  subst ha ho hr
  have hlt := s.lt
  refine ACalls.ro (Q := fun r h' => ∃ qa qo, r = .tup [.sl qa (agS R now S).length, .sl qo (ovS R now S).length] ∧ RoSl h' qa (agS R now S).length 1 (ints .i64 (agS R now S)) ∧ (SlIs h' qo (ovS R now S).length false 1 (ints .i64 (ovS R now S)) ∧ ∀ i o, qo = some (i, o) → h.next ≤ i) ∧ TSt h' g mi B M R (rsS B M R now S) ∧ Ab.Mod (one mi) h h') ?_ ?_
  · refine (due24 s ok hS hN hn0 hn1).ro ?_
    rintro r h' ⟨qa, qo, rfl, na, no, st, m⟩
    obtain ⟨i, h1, h2, h3⟩ := na.freeze m
    exact ⟨i, qa, qo, rfl, h2, ⟨SlIs.ro_weak no.1.weak i, no.2⟩, st.ro (by omega) (by omega), h3⟩
  · rintro r h' ⟨qa, qo, rfl, na, ⟨no, hno⟩, st, m⟩
    obtain ⟨i, h1, h2⟩ := SlIs.freeze no
    have hi : h.next ≤ i := by
      rcases h1 with ⟨o, h1⟩ | h1
      · exact hno i o h1
      · exact Nat.le_trans m.next h1
    exact ⟨i, qa, qo, rfl, na.ro i, h2, st.ro (by omega) (by omega), m.ro_new hi⟩
/-- a body: where it lies, and its octets -/
abbrev Bd := Option (Nat × Nat) × List Int
def slV (x : Bd) : V := .sl x.1 x.2.length
def slC (x : Bd) : List V := [slV x]
theorem slC_len (x : Bd) : (slC x).length = 1 := rfl
def bOk (h : H) (x : Bd) : Prop := RoSl h x.1 x.2.length 1 (ints .u8 x.2)
abbrev Ent := List (Int × Bd)
structure TkSt (h : H) (g mi : Nat) (W N : Int) (S : Ent) : Prop where
  box : h.obj g = some (.row true 3 [i64 W, i64 N, .mp (some mi)])
  map : ∃ ms, h.obj mi = some (.map true (mpE .i64 (encM slV ms))) ∧ Same ms S
  asc : AscS S
  ent : ∀ x ∈ S, bOk h x.2
  sep : mi ≠ g
theorem TkSt.lt {h : H} {g mi : Nat} {W N : Int} {S : Ent} (s : TkSt h g mi W N S) : g < h.next ∧ mi < h.next := by
  obtain ⟨ms, h1, _⟩ := s.map
  exact ⟨h.lt _ _ s.box, h.lt _ _ h1⟩
theorem TkSt.get {Z : Nat → Prop} {h h' : H} {g mi : Nat} {W N : Int} {S : Ent} (s : TkSt h g mi W N S) (m : Ab.Mod Z h h') (hg : ¬ Z g) (hm : ¬ Z mi) : TkSt h' g mi W N S := by
  obtain ⟨ms, h1, h2⟩ := s.map
  exact ⟨m.get s.box (.inl hg), ⟨ms, m.get h1 (.inl hm), h2⟩, s.asc, fun x hx => (s.ent x hx).get m, s.sep⟩
theorem TkSt.old {h h' : H} {g mi : Nat} {W N : Int} {S : Ent} (s : TkSt h g mi W N S) (m : Ab.Mod none_ h h') : TkSt h' g mi W N S := s.get m (fun k => k) (fun k => k)
theorem TkSt.ro {h : H} {g mi : Nat} {W N : Int} {S : Ent} (s : TkSt h g mi W N S) {i : Nat} (hg : g ≠ i) (hm : mi ≠ i) : TkSt (h.ro i) g mi W N S := by
  obtain ⟨ms, h1, h2⟩ := s.map
  exact ⟨by rw [H.ro_ne _ hg, s.box], ⟨ms, by rw [H.ro_ne _ hm, h1], h2⟩, s.asc, fun x hx => (s.ent x hx).ro i, s.sep⟩
theorem TkSt.turn {h : H} {g mi : Nat} {W N : Int} {S S' : Ent} (s : TkSt h g mi W N S) {ms' : Ent} (hs : Same ms' S') (ha : AscS S') (he : ∀ x ∈ S', bOk h x.2) :
    TkSt (h.set mi (.map true (mpE .i64 (encM slV ms')))) g mi W N S' ∧ Ab.Mod (one mi) h (h.set mi (.map true (mpE .i64 (encM slV ms')))) := by
  obtain ⟨ms, h1, _⟩ := s.map
  have m : Ab.Mod (one mi) h (h.set mi (.map true (mpE .i64 (encM slV ms')))) := Mod.set rfl h1 rfl
  exact ⟨⟨by rw [H.obj_set_ne h _ s.sep.symm, s.box], ⟨ms', H.obj_set_same h1, hs⟩, ha, fun x hx => (he x hx).get m, s.sep⟩, m⟩
theorem TkSt.next {h : H} {g mi : Nat} {W N : Int} {S : Ent} (s : TkSt h g mi W N S) (N' : Int) :
    TkSt (h.set g (.row true 3 [i64 W, i64 N', .mp (some mi)])) g mi W N' S ∧ Ab.Mod (one g) h (h.set g (.row true 3 [i64 W, i64 N', .mp (some mi)])) := by
  obtain ⟨ms, h1, h2⟩ := s.map
  have m : Ab.Mod (one g) h (h.set g (.row true 3 [i64 W, i64 N', .mp (some mi)])) := Mod.set rfl s.box rfl
  exact ⟨⟨H.obj_set_same s.box, ⟨ms, by rw [H.obj_set_ne h _ s.sep, h1], h2⟩, s.asc, fun x hx => (s.ent x hx).get m, s.sep⟩, m⟩
/-- what is got, how far one is, what is left -/
def chn {β : Type} : Int → List (Int × β) → List β × Int × List (Int × β)
  | N, [] => ([], N, [])
  | N, p :: C => if p.1 = N then (p.2 :: (chn (N + 1) C).1, (chn (N + 1) C).2) else ([], N, p :: C)
theorem chn_yes {β : Type} (N : Int) (v : β) (C : List (Int × β)) : chn N ((N, v) :: C) = (v :: (chn (N + 1) C).1, (chn (N + 1) C).2) := by
  rw [chn, if_pos rfl]
theorem head_yes {β : Type} {S : List (Int × β)} (ha : AscS S) {N : Int} (hk : ∀ k ∈ keys S, N ≤ k) {v : β} (h : sget S N = some v) : ∃ R, S = (N, v) :: R := by
  have hm := (sget_mem ha.nodup).1 h
  cases S with
  | nil => cases hm
  | cons p S =>
    rcases List.mem_cons.1 hm with e | e
    · exact ⟨S, by rw [← e]⟩
    · have h1 : p.1 < N := by
        rw [AscS, keys, List.map_cons, List.pairwise_cons] at ha
        exact ha.1 _ (List.mem_map.2 ⟨_, e, rfl⟩)
      have := hk p.1 (by simp [keys])
      omega
theorem head_no {β : Type} {S : List (Int × β)} {N : Int} (h : sget S N = none) : chn N S = ([], N, S) := by
  cases S with
  | nil => rfl
  | cons p S =>
    rw [chn, if_neg]
    intro e
    rw [sget_cons, if_pos e] at h
    cases h
theorem chn_map {β γ : Type} (f : β → γ) : ∀ (N : Int) (C : List (Int × β)), chn N (encM f C) = ((chn N C).1.map f, (chn N C).2.1, encM f (chn N C).2.2)
  | N, [] => rfl
  | N, p :: C => by
    have e : encM f (p :: C) = (p.1, f p.2) :: encM f C := rfl
    rw [e, chn, chn]
    by_cases h : p.1 = N
    · rw [if_pos h, if_pos h, chn_map f (N + 1) C]
      rfl
    · rw [if_neg h, if_neg h]
      rfl
theorem chn_len {β : Type} : ∀ (N : Int) (C : List (Int × β)), (chn N C).1.length ≤ C.length ∧ (chn N C).2.1 = N + (chn N C).1.length ∧ (chn N C).2.2.length ≤ C.length
  | N, [] => ⟨Nat.le_refl _, by simp [chn], Nat.le_refl _⟩
  | N, p :: C => by
    rw [chn]
    by_cases h : p.1 = N
    · rw [if_pos h]
      obtain ⟨h1, h2, h3⟩ := chn_len (N + 1) C
      refine ⟨Nat.succ_le_succ h1, ?_, Nat.le_succ_of_le h3⟩
      show (chn (N + 1) C).2.1 = N + (((chn (N + 1) C).1.length + 1 : Nat) : Int)
      omega
    · rw [if_neg h]
      exact ⟨Nat.zero_le _, by simp, Nat.le_refl _⟩
theorem chn_keys {β : Type} : ∀ (N : Int) (C : List (Int × β)), AscS C → (∀ k ∈ keys C, N ≤ k) → AscS (chn N C).2.2 ∧ (∀ k ∈ keys (chn N C).2.2, (chn N C).2.1 < k) ∧ (∀ x ∈ (chn N C).2.2, x ∈ C)
  | N, [], _, _ => ⟨List.Pairwise.nil, fun k hk => by simp [chn, keys] at hk, fun x hx => by simp [chn] at hx⟩
  | N, p :: C, ha, hk => by
    have ha2 := ha
    rw [AscS, keys, List.map_cons, List.pairwise_cons] at ha2
    rw [chn]
    by_cases h : p.1 = N
    · rw [if_pos h]
      obtain ⟨h1, h2, h3⟩ := chn_keys (N + 1) C ha2.2 (fun k hk => by have := ha2.1 k hk; omega)
      exact ⟨h1, h2, fun x hx => List.mem_cons_of_mem _ (h3 x hx)⟩
    · rw [if_neg h]
      refine ⟨ha, fun k hk2 => ?_, fun x hx => hx⟩
      have h0 := hk p.1 (by simp [keys])
      show N < k
      have hk2 : k ∈ p.1 :: C.map (·.1) := hk2
      rcases List.mem_cons.1 hk2 with rfl | hm
      · omega
      · have := ha2.1 k hm
        omega
/-- a sorted list between two numbers is short -/
theorem asc_short : ∀ {l : List Int} {a b : Int}, l.Pairwise (· < ·) → (∀ x ∈ l, a ≤ x ∧ x < b) → (l.length : Int) ≤ max 0 (b - a)
  | [], a, b, _, _ => by simp; omega
  | x :: l, a, b, h, hb => by
    rw [List.pairwise_cons] at h
    have h0 := hb x (by simp)
    have := asc_short (l := l) (a := x + 1) (b := b) h.2 (fun y hy => ⟨by have := h.1 y hy; omega, (hb y (List.mem_cons_of_mem _ hy)).2⟩)
    rw [List.length_cons]
    omega
def okW (W : Int) : Bool := decide (1 ≤ W) && decide (W ≤ 16)
def NewKQ (W : Int) (h : H) (r : V) (h' : H) : Prop :=
  (okW W = false ∧ r = .tup [.ptr none, i64 1] ∧ h' = h) ∨ (okW W = true ∧ ∃ g mi, r = .tup [.ptr (some (g, 0)), i64 0] ∧ TkSt h' g mi W 0 [] ∧ h.next ≤ g ∧ h.next ≤ mi ∧ Ab.Mod none_ h h')
theorem new27 (h : H) (W : Int) : ACalls Tryz.prog 58 [i64 W] h (fun r h' => NewKQ W h r h') := by
  refine call_ Tryz.func58 rfl rfl (by kernel_rfl) ?_
  conv => whnf
  refine br_mk (fun ha => ?_) (fun ha => ?_)
  · conv => whnf
    have ha : W < 1 := by simpa using ha
    exact .inl ⟨by rw [okW, decide_eq_false (by omega)]; rfl, rfl, rfl⟩
  conv => whnf
  have ha : ¬ W < 1 := by simpa using ha
  refine br_mk (fun hb => ?_) (fun hb => ?_)
  · conv => whnf
    have hb : W > 16 := by simpa using hb
    exact .inl ⟨by rw [okW, decide_eq_false (show ¬ W ≤ 16 by omega), Bool.and_false], rfl, rfl⟩
  conv => whnf
  have hb : ¬ W > 16 := by simpa using hb
  refine .inr ⟨by rw [okW, decide_eq_true (show 1 ≤ W by omega), decide_eq_true (show W ≤ 16 by omega)]; rfl, h.next + 1, h.next, rfl, ⟨H.obj_push_new _ _, ⟨[], H.obj_push _ (H.obj_push_new _ _), List.Pairwise.nil, fun _ => rfl⟩, List.Pairwise.nil, (fun x hx => by cases hx), by omega⟩, by omega, Nat.le_refl _, mod_none (Mod.push none_ h _) (Mod.push none_ _ _)⟩
theorem newK_yes {W : Int} {h h' : H} {r : V} (q : NewKQ W h r h') (ok : okW W = true) : ∃ g mi, r = .tup [.ptr (some (g, 0)), i64 0] ∧ TkSt h' g mi W 0 [] ∧ h.next ≤ g ∧ h.next ≤ mi ∧ Ab.Mod none_ h h' := by
  rcases q with ⟨e, _⟩ | ⟨_, q⟩
  · rw [ok] at e
    cases e
  · exact q
theorem next32 {h : H} {g mi : Nat} {W N : Int} {S : Ent} (s : TkSt h g mi W N S) : ACalls Tryz.prog 84 [.ptr (some (g, 0))] h (fun r h' => h' = h ∧ r = i64 N) := by
  refine call_ Tryz.func84 rfl rfl (by kernel_rfl) ?_
  conv => whnf
  refine ⟨_, Cell.mk s.box rfl, ?_⟩
  conv => whnf
  exact ⟨rfl, rfl⟩
theorem clone63 {h : H} {p : Option (Nat × Nat)} {n : Nat} {cs : List V} (o : SlIs h p n false 1 cs) (hn : n ≤ 1000000) : ACalls Tryz.prog 94 [.sl p n] h (fun v h' => ∃ q, v = .sl q n ∧ RoSl h' q n 1 cs ∧ Ab.Mod none_ h h') := by
  refine ACalls.ro (Q := fun v h' => ∃ q, v = .sl q n ∧ NewSl h h' q n 1 cs ∧ Ab.Mod none_ h h') ?_ (by
    rintro r h' ⟨q, rfl, a, b⟩
    obtain ⟨i, h1, h2, h3⟩ := a.freeze b
    exact ⟨i, q, rfl, h2, h3⟩)
  refine call_ Tryz.func94 rfl rfl (by kernel_rfl) ?_
  conv => whnf
  refine br_mk (fun hb => ?_) (fun hb => ?_)
  · conv => whnf
    cases p with
    | some x => simp at hb
    | none =>
      have hl := o.1
      rcases o.2 with ⟨h0, _⟩ | ⟨i, j, b, r, e, _⟩
      · subst h0
        rw [Nat.zero_mul] at hl
        rw [List.eq_nil_of_length_eq_zero hl]
        exact ⟨none, rfl, NewSl.nil _ _ _, ⟨Nat.le_refl _, fun _ _ _ => rfl⟩⟩
      · cases e
  conv => whnf
  obtain ⟨y1, y2, y3⟩ := app0 (h0 := h) o
  refine ⟨_, _, y1, y2, by rw [show (T.at_ 5).bytes = 1 from rfl]; omega, by omega, fun p' h' hs hm hf => ?_⟩
  obtain ⟨n1, m1⟩ := y3 p' h' hs hm hf
  conv => whnf
  rw [Nat.zero_add]
  exact ⟨p', rfl, n1, m1⟩
def mayT (W N seq : Int) (S : Ent) : Bool := decide (N ≤ seq) && decide (seq < N + W) && (sget S seq).isNone
def TakeQ (h : H) (g mi : Nat) (W N : Int) (S : Ent) (seq : Int) (body : List Int) (r : V) (h' : H) : Prop :=
  (mayT W N seq S = false ∧ r = .tup [.sl none 0, .bool false] ∧ TkSt h' g mi W N S ∧ Ab.Mod (two g mi) h h') ∨
  (mayT W N seq S = true ∧ ∃ p' q G N' S', chn N (insS S seq (p', body)) = (G, N', S') ∧ r = .tup [.sl q G.length, .bool true] ∧ NewSl h h' q G.length 1 (G.flatMap slC) ∧ (∀ x ∈ G, bOk h' x) ∧ TkSt h' g mi W N' S' ∧ Ab.Mod (two g mi) h h')
theorem insS_ent {h : H} {S : Ent} (he : ∀ x ∈ S, bOk h x.2) {b : Bd} (hb : bOk h b) (seq : Int) : ∀ x ∈ insS S seq b, bOk h x.2 := fun x hx => by
  rw [insS, List.mem_append, List.mem_cons] at hx
  rcases hx with hx | rfl | hx
  · exact he x (List.mem_filter.1 hx).1
  · exact hb
  · exact he x (List.mem_filter.1 hx).1
theorem insS_keys {β : Type} {S : List (Int × β)} {P : Int → Prop} (hS : ∀ k ∈ keys S, P k) {seq : Int} (hs : P seq) (b : β) : ∀ k ∈ keys (insS S seq b), P k := fun k hk => by
  obtain ⟨x, hx, rfl⟩ := List.mem_map.1 hk
  rw [insS, List.mem_append, List.mem_cons] at hx
  rcases hx with hx | rfl | hx
  · exact hS _ (List.mem_map.2 ⟨x, (List.mem_filter.1 hx).1, rfl⟩)
  · exact hs
  · exact hS _ (List.mem_map.2 ⟨x, (List.mem_filter.1 hx).1, rfl⟩)
theorem insS_len {β : Type} (id : Int) (v : β) (S : List (Int × β)) : (insS S id v).length ≤ S.length + 1 := by
  have key : ∀ l : List (Int × β), (l.filter fun p => decide (p.1 < id)).length + (l.filter fun p => decide (id < p.1)).length ≤ l.length := by
    intro l
    induction l with
    | nil => simp
    | cons p l ih =>
      by_cases h1 : p.1 < id
      · rw [List.filter_cons_of_pos (by simpa using h1), List.filter_cons_of_neg (by simp; omega)]
        simp only [List.length_cons]
        omega
      · rw [List.filter_cons_of_neg (by simpa using h1)]
        by_cases h2 : id < p.1
        · rw [List.filter_cons_of_pos (by simpa using h2)]
          simp only [List.length_cons]
          omega
        · rw [List.filter_cons_of_neg (by simpa using h2)]
          simp only [List.length_cons]
          omega
  rw [insS, List.length_append, List.length_cons]
  exact Nat.succ_le_succ (key S)
theorem sl_flat (G : List Bd) : (G.flatMap slC).length = G.length := by
  have := flat_length slC_len G
  omega
set_option maxHeartbeats 1000000 in
theorem take29 {h : H} {g mi : Nat} {W N : Int} {S : Ent} (s : TkSt h g mi W N S) (ok : okW W = true) (hK : ∀ k ∈ keys S, N < k) (hN0 : 0 ≤ N) (hN1 : N ≤ 1000000) (hS : S.length ≤ 1000) {seq : Int} (hs : inI seq) {q : Option (Nat × Nat)} {m : Nat} {body : List Int} (nm : SlIs h q m false 1 (ints .u8 body)) (hm : m ≤ 100000) :
    ACalls Tryz.prog 83 [.ptr (some (g, 0)), i64 seq, .sl q m] h (TakeQ h g mi W N S seq body) := by
  have hW : 1 ≤ W ∧ W ≤ 16 := by simpa [okW] using ok
  have hl := slo_len nm
  have hlt := s.lt
  have hsb : seq ≤ 9223372036854775807 := by
    have := hs.2
    simp [IntKind.max, IntKind.signed, IntKind.bits] at this
    exact this
  refine call_ Tryz.func83 rfl rfl (by kernel_rfl) ?_
  conv => whnf
  refine ⟨[0, 1, 2, 3, 4, 5, 6, 7, 8, 9, 10, 11, 12, 13, 14, 15, 16, 17, 18, 19, 20, 21, 22], [0, 1, 3, 7, 7, 23, 55, 119, 255, 511, 1023, 2047, 2047, 6143, 14335, 30719, 65535, 2047, 133119, 395263, 919551, 2097151, 4194303], by kernel_rfl, ?_⟩
  conv => whnf
  refine ⟨_, Cell.mk s.box rfl, ?_⟩
  conv => whnf
  have no : mayT W N seq S = false → TakeQ h g mi W N S seq body (.tup [.sl none 0, .bool false]) h := fun hn => .inl ⟨hn, rfl, s, ⟨Nat.le_refl _, fun _ _ _ => rfl⟩⟩
  refine br_mk (fun ha => ?_) (fun ha => ?_)
  · conv => whnf
    have ha : seq < N := by simpa using ha
    exact no (by rw [mayT, decide_eq_false (by omega)]; rfl)
  conv => whnf
  have ha : ¬ seq < N := by simpa using ha
  refine ⟨_, Cell.mk s.box rfl, ?_⟩
  conv => whnf
  refine ⟨_, Cell.mk s.box rfl, ?_⟩
  conv => whnf
  have hsub : IntKind.i64.wrap (seq - N) = seq - N := wrap_i64 (by omega) (by omega)
  rw [hsub]
  refine br_mk (fun hb => ?_) (fun hb => ?_)
  · conv => whnf
    have hb : seq - N ≥ W := by simpa using hb
    exact no (by rw [mayT, decide_eq_false (show ¬ seq < N + W by omega), Bool.and_false, Bool.false_and])
  conv => whnf
  have hb : ¬ seq - N ≥ W := by simpa using hb
  refine ⟨_, Cell.mk s.box rfl, ?_⟩
  conv => whnf
  obtain ⟨ms, k1, k2⟩ := s.map
  have e1 : mget (encM slV ms) seq = (sget S seq).map slV := by rw [mget_enc, k2.2]
  refine ⟨true, encM slV ms, k1, ?_⟩
  rw [e1]
  cases hz : sget S seq with
  | some v =>
    conv => whnf
    refine ⟨_, rfl, ?_⟩
    conv => whnf
    refine ⟨_, rfl, ?_⟩
    conv => whnf
    exact no (by rw [mayT, hz]; simp)
  | none =>
  conv => whnf
  refine ⟨_, rfl, ?_⟩
  conv => whnf
  refine ⟨_, rfl, ?_⟩
  conv => whnf
  have may : mayT W N seq S = true := by
    rw [mayT, hz, decide_eq_true (show N ≤ seq by omega), decide_eq_true (show seq < N + W by omega)]
    rfl
  refine ⟨[0, 1, 2, 3, 4, 5, 6, 7], [0, 1, 3, 7, 0, 0, 32, 127], by kernel_rfl, ?_⟩
  conv => whnf
  refine ⟨_, Cell.mk s.box rfl, ?_⟩
  conv => whnf
  refine (clone63 nm (by omega)).mono ?_
  rintro _ h1 ⟨p', rfl, rb, m1⟩
  have s1 := s.old m1
  rw [hl] at rb
  rw [hl]
  conv => whnf
  refine ⟨⟨_, Cell.mk s1.box rfl, rfl⟩, ?_⟩
  conv => whnf
  have k1' := m1.get k1 (.inl (fun k => k))
  refine ⟨encM slV ms, k1', ?_⟩
  conv => whnf
  have em := mput_enc slV seq (p', body) ms
  obtain ⟨t1, t2⟩ := s1.turn (k2.put seq (p', body) (insS_get s.asc seq (p', body))) (insS_asc s.asc seq (p', body)) (insS_ent s1.ent (b := (p', body)) rb seq)
  rw [← em] at t1 t2
  have hkS : ∀ k ∈ keys (insS S seq (p', body)), N ≤ k := insS_keys (fun k hk => by have := hK k hk; omega) (by omega) _
  have hlen := insS_len seq (p', body) S
  have mA : Ab.Mod (two g mi) h _ := m1.trans' t2 (S2 := two g mi) (fun _ _ k => k.elim) (fun _ _ k => .inr k)
  obtain ⟨S1, hS1⟩ : ∃ S1, S1 = insS S seq (p', body) := ⟨_, rfl⟩
  rw [← hS1] at t1 hkS hlen
  refine ⟨fun env hh => ∃ (N' : Int) (G : List Bd) (S' : Ent) (qg : Option (Nat × Nat)), chn N S1 = (G ++ (chn N' S').1, (chn N' S').2) ∧ (∀ k ∈ keys S', N' ≤ k) ∧ N' = N + G.length ∧ G.length + S'.length ≤ S1.length ∧ NewSl h hh qg G.length 1 (G.flatMap slC) ∧ (∀ x ∈ G, bOk hh x) ∧ TkSt hh g mi W N' S' ∧ Ab.Mod (two g mi) h hh ∧ env = [(6, .sl qg G.length), (0, .ptr (some (g, 0)))],
    fun env _ => match get env 6 with
      | .sl _ n => S1.length - n
      | _ => 0, ⟨_, Forget.cons rfl (Forget.cons rfl (Forget.nil _)), N, [], S1, none, rfl, hkS, by simp, by simp, NewSl.nil _ _ _, (fun x hx => by cases hx), t1, mA, rfl⟩, ?_⟩
  clear t1 t2 mA s1 m1 rb k1' em
  rintro _ hh ⟨N', G, S', qg, hch, hk', hN', hGS, ng, hG, st, mo, rfl⟩
  conv => whnf
  refine ⟨[0, 1, 2, 3, 4, 5, 6, 7, 8, 9, 10, 11, 12, 13], [0, 1, 3, 7, 0, 16, 48, 112, 255, 511, 1023, 1023, 2047, 8191], by kernel_rfl, ?_⟩
  conv => whnf
  refine ⟨_, Cell.mk st.box rfl, ?_⟩
  conv => whnf
  refine ⟨_, Cell.mk st.box rfl, ?_⟩
  conv => whnf
  obtain ⟨ms2, l1, l2⟩ := st.map
  have e2 : mget (encM slV ms2) N' = (sget S' N').map slV := by rw [mget_enc, l2.2]
  refine ⟨true, encM slV ms2, l1, ?_⟩
  rw [e2]
  cases hz2 : sget S' N' with
  | none =>
    conv => whnf
    refine ⟨_, rfl, ?_⟩
    conv => whnf
    refine ⟨_, rfl, ?_⟩
    conv => whnf
    rw [head_no hz2, List.append_nil] at hch
    rw [hS1] at hch
    exact .inr ⟨may, p', qg, G, N', S', hch, rfl, ng, hG, st, mo⟩
  | some v =>
    obtain ⟨R, hR⟩ := head_yes st.asc hk' hz2
    conv => whnf
    refine ⟨_, rfl, ?_⟩
    conv => whnf
    refine ⟨_, rfl, ?_⟩
    conv => whnf
    refine ⟨[0, 1, 2, 3, 4, 5, 6, 7, 8], [0, 1, 3, 7, 0, 16, 48, 112, 255], by kernel_rfl, ?_⟩
    conv => whnf
    refine ⟨_, Cell.mk st.box rfl, ?_⟩
    conv => whnf
    refine ⟨_, Cell.mk st.box rfl, ?_⟩
    conv => whnf
    refine .inl ⟨encM slV ms2, l1, ?_⟩
    conv => whnf
    have em := mdel_enc slV N' ms2
    have hascR : AscS ([] ++ (N', v) :: R) := by
      have := st.asc
      rw [hR] at this
      exact this
    have hdel : ∀ k, sget R k = if k = N' then none else sget S' k := fun k => by
      rw [hR]
      exact sget_del (A := []) hascR k
    obtain ⟨t1, t2⟩ := st.turn (l2.del N' hdel) (asc_del (A := []) hascR) (fun x hx => st.ent x (by rw [hR]; exact List.mem_cons_of_mem _ hx))
    rw [← em] at t1 t2
    have kp : ∀ i, one mi i → i < h.next := fun i hi => by
      have : i = mi := hi
      omega
    have kg : ∀ i, one g i → i < h.next := fun i hi => by
      have : i = g := hi
      omega
    have ng1 := NewSl.keep ng t2 kp
    have hG1 : ∀ x ∈ G, bOk _ x := fun x hx => (hG x hx).get t2
    have hv1 := (st.ent (N', v) (by rw [hR]; exact List.mem_cons_self)).get t2
    have mo1 := mo.trans' t2 (S2 := two g mi) (fun _ _ k => k) (fun _ _ k => .inr k)
    have hgl : (G.flatMap slC).length = G.length := sl_flat G
    obtain ⟨y1, y2, y3⟩ := app1 ng1 mo1 (slC v) rfl
    refine ⟨_, _, y1, y2, by rw [show (T.at_ 38).bytes = 24 from rfl]; omega, by omega, fun pG hY hs2 hm2 hf2 => ?_⟩
    obtain ⟨ng2, mo2, my⟩ := y3 pG hY hs2 hm2 hf2
    have st2 := t1.get my (fun k => by
      obtain ⟨o, k⟩ := k
      have := ng1.2 g o k
      omega) (fun k => by
      obtain ⟨o, k⟩ := k
      have := ng1.2 mi o k
      omega)
    have hG2 : ∀ x ∈ G ++ [v], bOk hY x := fun x hx => by
      rcases List.mem_append.1 hx with hx | hx
      · exact (hG1 x hx).get my
      · obtain rfl : x = v := by simpa using hx
        exact hv1.get my
    have e6 : G.flatMap slC ++ slC v = (G ++ [v]).flatMap slC := by rw [List.flatMap_append]; simp
    have e7 : G.length + 1 = (G ++ [v]).length := by simp
    rw [e6, e7] at ng2
    conv => whnf
    rw [e7]
    refine ⟨_, Cell.mk st2.box rfl, ?_⟩
    conv => whnf
    have hSR : S'.length = R.length + 1 := by rw [hR]; rfl
    have hwr : IntKind.i64.wrap (N' + 1) = N' + 1 := wrap_i64 (by omega) (by omega)
    rw [hwr]
    refine ⟨_, _, st2.box, Nat.le_of_ble_eq_true rfl, ?_⟩
    conv => whnf
    obtain ⟨u1, u2⟩ := st2.next (N' + 1)
    refine ⟨_, Forget.cons rfl (Forget.cons rfl (Forget.nil _)), ⟨N' + 1, G ++ [v], R, pG, ?_, ?_, by omega, by omega, NewSl.keep ng2 u2 kg, fun x hx => (hG2 x hx).get u2, u1, mo2.trans' u2 (S2 := two g mi) (fun _ _ k => k) (fun _ _ k => .inl k), rfl⟩, ?_⟩
    · rw [hch, hR, chn_yes]
      simp
    · intro k hk
      have ha2 := st.asc
      rw [hR, AscS, keys, List.map_cons, List.pairwise_cons] at ha2
      have := ha2.1 k hk
      have : N' < k := this
      omega
    · show S1.length - (G ++ [v]).length < S1.length - G.length
      omega
abbrev Hd := List (Int × List Int)
def TkC (h : H) (g mi : Nat) (W N : Int) (C : Hd) : Prop := ∃ S, TkSt h g mi W N S ∧ encM Prod.snd S = C
theorem TkC.get {Z : Nat → Prop} {h h' : H} {g mi : Nat} {W N : Int} {C : Hd} (s : TkC h g mi W N C) (m : Ab.Mod Z h h') (hg : ¬ Z g) (hm : ¬ Z mi) : TkC h' g mi W N C := by
  obtain ⟨S, h1, h2⟩ := s
  exact ⟨S, h1.get m hg hm, h2⟩
theorem TkC.old {h h' : H} {g mi : Nat} {W N : Int} {C : Hd} (s : TkC h g mi W N C) (m : Ab.Mod none_ h h') : TkC h' g mi W N C := s.get m (fun k => k) (fun k => k)
theorem TkC.lt {h : H} {g mi : Nat} {W N : Int} {C : Hd} (s : TkC h g mi W N C) : g < h.next ∧ mi < h.next := by
  obtain ⟨S, h1, _⟩ := s
  exact h1.lt
/-- rows of octets -/
def Rws (h : H) (q : Option (Nat × Nat)) (L : List (List Int)) : Prop := ∃ G : List Bd, RoSl h q L.length 1 (G.flatMap slC) ∧ (∀ x ∈ G, bOk h x) ∧ G.map Prod.snd = L
theorem Rws.get {Z : Nat → Prop} {h h' : H} {q : Option (Nat × Nat)} {L : List (List Int)} (s : Rws h q L) (m : Ab.Mod Z h h') : Rws h' q L := by
  obtain ⟨G, h1, h2, h3⟩ := s
  exact ⟨G, h1.get m, fun x hx => (h2 x hx).get m, h3⟩
theorem Rws.cell {h : H} {q : Option (Nat × Nat)} {L : List (List Int)} (s : Rws h q L) {j : Nat} (hj : j < L.length) :
    ∃ i c p, q = some (i, c) ∧ Cell h i (c + j * 1) (.sl p (L[j]).length) ∧ RoSl h p (L[j]).length 1 (ints .u8 L[j]) := by
  obtain ⟨G, h1, h2, rfl⟩ := s
  have hl : j < G.length := by simpa using hj
  have e1 : (G.map Prod.snd).length = G.length := by simp
  rw [e1] at h1
  obtain ⟨i, c, f1, _, f3⟩ := sls_get slC_len h1.is rfl hl
  have := f3 0 (slV G[j]) rfl
  refine ⟨i, c, G[j].1, f1, ?_, ?_⟩
  · rw [List.getElem_map]
    exact this
  · rw [List.getElem_map]
    exact h2 _ (List.getElem_mem hl)
def mayC (W N seq : Int) (C : Hd) : Bool := decide (N ≤ seq) && decide (seq < N + W) && (sget C seq).isNone
def tkV (W N : Int) (C : Hd) (seq : Int) (body : List Int) : Bool × List (List Int) × Int × Hd := if mayC W N seq C then (true, chn N (insS C seq body)) else (false, [], N, C)
structure OkH (W N : Int) (C : Hd) : Prop where
  asc : AscS C
  key : ∀ k ∈ keys C, N < k ∧ k < N + W
theorem OkH.nil (W N : Int) : OkH W N [] := ⟨List.Pairwise.nil, fun k hk => by simp [keys] at hk⟩
theorem OkH.len {W N : Int} {C : Hd} (o : OkH W N C) (hW : 1 ≤ W) : (C.length : Int) ≤ W - 1 := by
  have := asc_short (l := keys C) (a := N + 1) (b := N + W) o.asc (fun x hx => by have := o.key x hx; omega)
  rw [keys_length] at this
  omega
theorem OkH.take {W N : Int} {C : Hd} (o : OkH W N C) (hW : 1 ≤ W) (seq : Int) (body : List Int) : OkH W (tkV W N C seq body).2.2.1 (tkV W N C seq body).2.2.2 ∧ N ≤ (tkV W N C seq body).2.2.1 ∧ (tkV W N C seq body).2.2.1 = N + (tkV W N C seq body).2.1.length ∧ ((tkV W N C seq body).2.1.length : Int) ≤ W := by
  unfold tkV
  by_cases hm : mayC W N seq C = true
  · rw [if_pos hm]
    simp only [mayC, Bool.and_eq_true, decide_eq_true_eq] at hm
    have hk : ∀ k ∈ keys (insS C seq body), N ≤ k ∧ k < N + W := insS_keys (fun k hk => by have := o.key k hk; omega) (by omega) body
    obtain ⟨h1, h2, h3⟩ := chn_keys N (insS C seq body) (insS_asc o.asc seq body) (fun k hk2 => (hk k hk2).1)
    obtain ⟨l1, l2, _⟩ := chn_len N (insS C seq body)
    have l3 := insS_len seq body C
    have l4 := o.len hW
    refine ⟨⟨h1, fun k hk2 => ⟨h2 k hk2, ?_⟩⟩, ?_, l2, ?_⟩
    · obtain ⟨x, hx, rfl⟩ := List.mem_map.1 hk2
      have := hk x.1 (List.mem_map.2 ⟨x, h3 x hx, rfl⟩)
      show x.1 < (chn N (insS C seq body)).2.1 + W
      omega
    · show N ≤ (chn N (insS C seq body)).2.1
      omega
    · show ((chn N (insS C seq body)).1.length : Int) ≤ W
      omega
  · rw [if_neg hm]
    exact ⟨o, Int.le_refl _, by simp, by simp; omega⟩
def TakeC (h : H) (g mi : Nat) (W N : Int) (C : Hd) (seq : Int) (body : List Int) (r : V) (h' : H) : Prop :=
  ∃ q, r = .tup [.sl q (tkV W N C seq body).2.1.length, .bool (tkV W N C seq body).1] ∧ Rws h' q (tkV W N C seq body).2.1 ∧ TkC h' g mi W (tkV W N C seq body).2.2.1 (tkV W N C seq body).2.2.2 ∧ Ab.Mod (two g mi) h h'
theorem take29c {h : H} {g mi : Nat} {W N : Int} {C : Hd} (s : TkC h g mi W N C) (ok : okW W = true) (o : OkH W N C) (hN0 : 0 ≤ N) (hN1 : N ≤ 1000000) {seq : Int} (hs : inI seq) {q : Option (Nat × Nat)} {m : Nat} {body : List Int} (nm : SlIs h q m false 1 (ints .u8 body)) (hm : m ≤ 100000) :
    ACalls Tryz.prog 83 [.ptr (some (g, 0)), i64 seq, .sl q m] h (TakeC h g mi W N C seq body) := by
  obtain ⟨S, st, hC⟩ := s
  have hW : 1 ≤ W ∧ W ≤ 16 := by simpa [okW] using ok
  have hkeq : keys C = keys S := by rw [← hC]; exact encM_keys Prod.snd S
  have hlt := st.lt
  have hlen : C.length = S.length := by rw [← hC, encM_length]
  have hl := o.len hW.1
  have hmay : mayT W N seq S = mayC W N seq C := by
    rw [mayT, mayC, ← hC, encM_get]
    cases sget S seq <;> rfl
  refine (take29 st ok (fun k hk => (o.key k (by rw [hkeq]; exact hk)).1) hN0 hN1 (by omega) hs nm hm).ro ?_
  rintro r h' (⟨e, rfl, st', m'⟩ | ⟨e, p', q', G, N', S', hch, rfl, ng, hG, st', m'⟩)
  · rw [hmay] at e
    have hv : tkV W N C seq body = (false, [], N, C) := by rw [tkV, if_neg (by rw [e]; simp)]
    have := st'.lt
    unfold TakeC
    rw [hv]
    exact ⟨h'.next, none, rfl, ⟨[], RoSl.nil _ _ _, (fun x hx => by cases hx), rfl⟩, ⟨S, st'.ro (by omega) (by omega), hC⟩, m'.ro_new m'.next⟩
  · rw [hmay] at e
    have key : chn N (insS C seq body) = (G.map Prod.snd, N', encM Prod.snd S') := by
      have e1 : insS C seq body = encM Prod.snd (insS S seq (p', body)) := by rw [← hC]; exact encM_ins Prod.snd S seq (p', body)
      rw [e1, chn_map, hch]
    have hv : tkV W N C seq body = (true, G.map Prod.snd, N', encM Prod.snd S') := by rw [tkV, if_pos e, key]
    obtain ⟨i, h1, h2, h3⟩ := ng.freeze m'
    have hgl : (G.map Prod.snd).length = G.length := by simp
    unfold TakeC
    rw [hv]
    refine ⟨i, q', ?_, ⟨G, ?_, fun x hx => (hG x hx).ro i, rfl⟩, ⟨S', st'.ro (by omega) (by omega), rfl⟩, h3⟩
    · show V.tup [.sl q' G.length, .bool true] = V.tup [.sl q' (G.map Prod.snd).length, .bool true]
      rw [hgl]
    · show RoSl _ q' (G.map Prod.snd).length 1 _
      rw [hgl]
      exact h2
theorem next32c {h : H} {g mi : Nat} {W N : Int} {C : Hd} (s : TkC h g mi W N C) : ACalls Tryz.prog 84 [.ptr (some (g, 0))] h (fun r h' => h' = h ∧ r = i64 N) := by
  obtain ⟨S, st, _⟩ := s
  exact next32 st
def wC (x : Wt) : List V := [i64 x.1, i64 x.2.1, i64 x.2.2]
theorem wC_len (x : Wt) : (wC x).length = 3 := rfl
structure RSt (h : H) (g : Nat) (B M R : Int) (S : List Wt) : Prop where
  box : ∃ p, h.obj g = some (.row true 4 [i64 B, i64 M, i64 R, .sl p S.length]) ∧ RoSl h p S.length 3 (S.flatMap wC)
theorem RSt.get {Z : Nat → Prop} {h h' : H} {g : Nat} {B M R : Int} {S : List Wt} (s : RSt h g B M R S) (m : Ab.Mod Z h h') (hg : ¬ Z g) : RSt h' g B M R S := by
  obtain ⟨p, h1, h2⟩ := s.box
  exact ⟨p, m.get h1 (.inl hg), h2.get m⟩
theorem RSt.lt {h : H} {g : Nat} {B M R : Int} {S : List Wt} (s : RSt h g B M R S) : g < h.next := by
  obtain ⟨p, h1, h2⟩ := s.box
  exact h.lt _ _ h1
theorem rst_ro {h h' : H} {g : Nat} {B M R : Int} {S : List Wt} {p : Option (Nat × Nat)} (hg : g < h.next) (hb : h'.obj g = some (.row true 4 [i64 B, i64 M, i64 R, .sl p S.length])) (n : NewSl h h' p S.length 3 (S.flatMap wC)) (m : Ab.Mod (one g) h h') :
    ∃ i, h.next ≤ i ∧ RSt (h'.ro i) g B M R S ∧ Ab.Mod (one g) h (h'.ro i) := by
  obtain ⟨i, h1, h2, h3⟩ := n.freeze m
  exact ⟨i, h1, ⟨p, by rw [H.ro_ne _ (by omega), hb], h2⟩, h3⟩
def NewRQ (B M R : Int) (h : H) (r : V) (h' : H) : Prop :=
  (okT B M R = false ∧ r = .ptr none ∧ h' = h) ∨ (okT B M R = true ∧ ∃ g, r = .ptr (some (g, 0)) ∧ RSt h' g B M R [] ∧ h.next ≤ g ∧ Ab.Mod none_ h h')
theorem okT_inR (B M R : Int) : okT B M R = (inR B 1 1000 && inR M B 1000 && inR R 0 20) := by
  rw [okT, inR, inR, inR]
  simp only [Bool.and_assoc]
theorem delS_snoc (S : List Wt) (x : Wt) (id : Int) : delS (S ++ [x]) id = delS S id ++ (if x.1 != id then [x] else []) := filter_snoc _ _ _
theorem delS_le (S : List Wt) (id : Int) : (delS S id).length ≤ S.length := List.length_filter_le _ _
/-- an element put in its place -/
theorem ins_at {S : List Wt} (ha : AscS S) (id : Int) (v : Int × Int) {n : Nat} (hn : n ≤ (delS S id).length) (h1 : ∀ k (hk : k < (delS S id).length), k < n → (delS S id)[k].1 < id) (h2 : n = (delS S id).length ∨ ∃ hk : n < (delS S id).length, ¬ (delS S id)[n].1 < id) :
    (delS S id).take n ++ (id, v) :: (delS S id).drop n = insS S id v := by
  have hD := delS_asc ha id
  have hne : ∀ p ∈ delS S id, p.1 ≠ id := fun p hp => by
    have := (List.mem_filter.1 hp).2
    simpa using this
  have hasc : AscS ((delS S id).take n ++ (id, v) :: (delS S id).drop n) := by
    rw [AscS, keys_append, List.pairwise_append]
    refine ⟨List.Pairwise.sublist (List.Sublist.map _ (List.take_sublist _ _)) hD, ?_, fun a ha b hb => ?_⟩
    · show (id :: keys _).Pairwise _
      rw [List.pairwise_cons]
      refine ⟨fun b hb => ?_, List.Pairwise.sublist (List.Sublist.map _ (List.drop_sublist _ _)) hD⟩
      obtain ⟨p, hp, rfl⟩ := List.mem_map.1 hb
      rcases h2 with rfl | ⟨hk, h2⟩
      · simp at hp
      · rw [List.drop_eq_getElem_cons hk, List.mem_cons] at hp
        have h3 := hne _ (List.getElem_mem hk)
        rcases hp with rfl | hp
        · omega
        · have hD2 := hD
          rw [← List.take_append_drop n (delS S id), List.drop_eq_getElem_cons hk] at hD2
          have := (asc_mid hD2).2 p hp
          omega
    · obtain ⟨p, hp, rfl⟩ := List.mem_map.1 ha
      have hpl : p.1 < id := by
        obtain ⟨k, hk, rfl⟩ := List.getElem_of_mem hp
        rw [List.length_take] at hk
        rw [List.getElem_take]
        exact h1 k (by omega) (by omega)
      obtain ⟨q, hq, rfl⟩ := List.mem_map.1 hb
      rcases List.mem_cons.1 hq with rfl | hq
      · exact hpl
      · have hD2 := hD
        rw [← List.take_append_drop n (delS S id), AscS, keys_append, List.pairwise_append] at hD2
        exact hD2.2.2 _ (List.mem_map.2 ⟨p, hp, rfl⟩) _ (List.mem_map.2 ⟨q, hq, rfl⟩)
  refine asc_get_ext hasc (insS_asc ha id v) (fun k => ?_)
  rw [insS_get ha]
  by_cases e : k = id
  · rw [if_pos e, e]
    exact sget_mid hasc
  · rw [if_neg e]
    have := sget_del hasc k
    rw [if_neg e, List.take_append_drop, delS_get ha, if_neg e] at this
    exact this.symm
theorem RSt.ro {h : H} {g : Nat} {B M R : Int} {S : List Wt} (s : RSt h g B M R S) {i : Nat} (hg : g ≠ i) : RSt (h.ro i) g B M R S := by
  obtain ⟨p, h1, h2⟩ := s.box
  exact ⟨p, by rw [H.ro_ne _ hg, h1], h2.ro i⟩
theorem rsS_le (B M R now : Int) (S : List Wt) : (rsS B M R now S).length ≤ S.length := List.length_filterMap_le _ _
def Due42Q (h : H) (g : Nat) (B M R : Int) (S : List Wt) (now : Int) (r : V) (h' : H) : Prop :=
  ∃ qa qo qr, r = .tup [.sl qa (agS R now S).length, .sl qo (ovS R now S).length] ∧ NewSl h h' qa (agS R now S).length 1 (ints .i64 (agS R now S)) ∧ NewSl h h' qo (ovS R now S).length 1 (ints .i64 (ovS R now S)) ∧
    NewSl h h' qr (rsS B M R now S).length 3 ((rsS B M R now S).flatMap wC) ∧ h'.obj g = some (.row true 4 [i64 B, i64 M, i64 R, .sl qr (rsS B M R now S).length]) ∧ Ab.Mod (one g) h h'
def Due42R (h : H) (g : Nat) (B M R : Int) (S : List Wt) (now : Int) (r : V) (h' : H) : Prop :=
  ∃ qa qo, r = .tup [.sl qa (agS R now S).length, .sl qo (ovS R now S).length] ∧ RoSl h' qa (agS R now S).length 1 (ints .i64 (agS R now S)) ∧ RoSl h' qo (ovS R now S).length 1 (ints .i64 (ovS R now S)) ∧ RSt h' g B M R (rsS B M R now S) ∧ Ab.Mod (one g) h h'
theorem dis_comm {a b : Option (Nat × Nat)} (d : ∀ i, inSl a i → inSl b i → False) : ∀ i, inSl b i → inSl a i → False := fun i x y => d i y x
theorem new0 {S : Nat → Prop} {h0 hh : H} (sz : Nat) (mo : Ab.Mod S h0 hh) : NewSl h0 (hh.push (.row true sz [])) (some (hh.next, 0)) 0 sz [] ∧ Ab.Mod S h0 (hh.push (.row true sz [])) :=
  ⟨⟨⟨by simp, .inr ⟨_, 0, true, [], rfl, H.obj_push_new _ _, fun e => e, by simp, by simp⟩⟩, fun i o e => by
    injection e with e
    injection e with e _
    rw [← e]
    exact mo.next⟩, mo.trans' (Mod.push none_ hh _) (fun _ _ k => k) (fun _ _ k => k.elim)⟩
theorem new0d {S : Nat → Prop} {h0 hh : H} (sz : Nat) {b : Option (Nat × Nat)} {k szb : Nat} {ys : List V} (nb : NewSl h0 hh b k szb ys) (mo : Ab.Mod S h0 hh) :
    NewSl h0 (hh.push (.row true sz [])) (some (hh.next, 0)) 0 sz [] ∧ NewSl h0 (hh.push (.row true sz [])) b k szb ys ∧ (∀ i, inSl (some (hh.next, 0)) i → inSl b i → False) ∧ Ab.Mod S h0 (hh.push (.row true sz [])) := by
  obtain ⟨x, y⟩ := new0 sz mo
  refine ⟨x, NewSl.kept nb (Mod.push none_ hh _), fun i a b => ?_, y⟩
  obtain ⟨o, a⟩ := a
  injection a with a
  injection a with a _
  have := SlIs.own_lt nb.1 b
  omega
theorem pushD {h0 hh : H} (ob : Ab.Obj) {a b : Option (Nat × Nat)} {ka sa kb sb : Nat} {xs ys : List V} (na : NewSl h0 hh a ka sa xs) (nb : NewSl h0 hh b kb sb ys) (mo : Ab.Mod none_ h0 hh) :
    NewSl h0 (hh.push ob) a ka sa xs ∧ NewSl h0 (hh.push ob) b kb sb ys ∧ Ab.Mod none_ h0 (hh.push ob) :=
  ⟨NewSl.kept na (Mod.push none_ hh _), NewSl.kept nb (Mod.push none_ hh _), mod_none mo (Mod.push none_ hh _)⟩
theorem appD {S : Nat → Prop} {h0 hh h' : H} {a a' b : Option (Nat × Nat)} {k l sz kb sb : Nat} {xs zs ys : List V} (na : NewSl h0 hh a k sz xs) (nb : NewSl h0 hh b kb sb ys) (dis : ∀ i, inSl a i → inSl b i → False) (mo : Ab.Mod S h0 hh)
    (hs : SlIs h' a' (k + l) true sz (xs ++ zs)) (hm : Ab.Mod (inSl a) hh h') (hf : isFresh hh a a') :
    NewSl h0 h' a' (k + l) sz (xs ++ zs) ∧ NewSl h0 h' b kb sb ys ∧ (∀ i, inSl a' i → inSl b i → False) ∧ Ab.Mod S h0 h' := by
  refine ⟨NewSl.app na hs hf mo.next, ⟨nb.1.get hm (fun i o e => .inl (fun x => dis i x ⟨o, e⟩)), nb.2⟩, fun i x y => ?_, NewSl.mod na mo hm⟩
  obtain ⟨o, x⟩ := x
  rcases hf i o x with q | q
  · exact dis i ⟨o, by rw [← q, x]⟩ y
  · have := SlIs.own_lt nb.1 y
    omega
/-- new and one's own, or written by nobody any more -/
def NR (h0 h : H) (p : Option (Nat × Nat)) (n sz : Nat) (xs : List V) : Prop := NewSl h0 h p n sz xs ∨ RoSl h p n sz xs
theorem NR.ro {h0 h : H} {p : Option (Nat × Nat)} {n sz : Nat} {xs : List V} (s : NR h0 h p n sz xs) (i : Nat) : NR h0 (h.ro i) p n sz xs := by
  rcases s with ⟨⟨h1, h2⟩, h3⟩ | s
  · rcases h2 with h2 | ⟨j, o, o', r, e1, e2, e3, e4, e5⟩
    · exact .inl ⟨⟨h1, .inl h2⟩, h3⟩
    · by_cases e : j = i
      · subst e
        exact .inr ⟨h1, .inr ⟨j, o, r, e1, H.ro_same e2, e4, e5⟩⟩
      · exact .inl ⟨⟨h1, .inr ⟨j, o, o', r, e1, by rw [H.ro_ne _ e, e2], e3, e4, e5⟩⟩, h3⟩
  · exact .inr (s.ro i)
theorem NR.freeze {S : Nat → Prop} {h0 h : H} {p : Option (Nat × Nat)} {n sz : Nat} {cs : List V} (s : NR h0 h p n sz cs) (m : Ab.Mod S h0 h) : ∃ i, h0.next ≤ i ∧ RoSl (h.ro i) p n sz cs ∧ Ab.Mod S h0 (h.ro i) := by
  rcases s with s | s
  · exact s.freeze m
  · exact ⟨h.next, m.next, s.ro _, m.ro_new m.next⟩
theorem slp_slp (p : Option (Nat × Nat)) (a b : Nat) : slp (slp p a) b = slp p (a + b) := by
  cases p with
  | none => rfl
  | some x => simp [slp, Nat.add_assoc]
theorem slp_zero (p : Option (Nat × Nat)) : slp p 0 = p := by cases p <;> rfl
/-- an element put in its place -/
theorem ins_atE {β : Type} {S : List (Int × β)} (ha : AscS S) {id : Int} (hne : ∀ p ∈ S, p.1 ≠ id) (v : β) {n : Nat} (hn : n ≤ S.length) (h1 : ∀ k (hk : k < S.length), k < n → S[k].1 < id) (h2 : n = S.length ∨ ∃ hk : n < S.length, ¬ S[n].1 < id) :
    S.take n ++ (id, v) :: S.drop n = insS S id v := by
  have hasc : AscS (S.take n ++ (id, v) :: S.drop n) := by
    rw [AscS, keys_append, List.pairwise_append]
    refine ⟨List.Pairwise.sublist (List.Sublist.map _ (List.take_sublist _ _)) ha, ?_, fun a ha2 b hb => ?_⟩
    · show (id :: keys _).Pairwise _
      rw [List.pairwise_cons]
      refine ⟨fun b hb => ?_, List.Pairwise.sublist (List.Sublist.map _ (List.drop_sublist _ _)) ha⟩
      obtain ⟨p, hp, rfl⟩ := List.mem_map.1 hb
      rcases h2 with rfl | ⟨hk, h2⟩
      · simp at hp
      · rw [List.drop_eq_getElem_cons hk, List.mem_cons] at hp
        have h3 := hne _ (List.getElem_mem hk)
        rcases hp with rfl | hp
        · omega
        · have hD2 := ha
          rw [← List.take_append_drop n S, List.drop_eq_getElem_cons hk] at hD2
          have := (asc_mid hD2).2 p hp
          omega
    · obtain ⟨p, hp, rfl⟩ := List.mem_map.1 ha2
      have hpl : p.1 < id := by
        obtain ⟨k, hk, rfl⟩ := List.getElem_of_mem hp
        rw [List.length_take] at hk
        rw [List.getElem_take]
        exact h1 k (by omega) (by omega)
      obtain ⟨q, hq, rfl⟩ := List.mem_map.1 hb
      rcases List.mem_cons.1 hq with rfl | hq
      · exact hpl
      · have hD2 := ha
        rw [← List.take_append_drop n S, AscS, keys_append, List.pairwise_append] at hD2
        exact hD2.2.2 _ (List.mem_map.2 ⟨p, hp, rfl⟩) _ (List.mem_map.2 ⟨q, hq, rfl⟩)
  refine asc_get_ext hasc (insS_asc ha id v) (fun k => ?_)
  rw [insS_get ha]
  by_cases e : k = id
  · rw [if_pos e, e]
    exact sget_mid hasc
  · rw [if_neg e]
    have := sget_del hasc k
    rw [if_neg e, List.take_append_drop] at this
    exact this.symm
def eC (x : Int × Bd) : List V := [i64 x.1, slV x.2]
theorem eC_len (x : Int × Bd) : (eC x).length = 2 := rfl
structure RTk (h : H) (g : Nat) (W N : Int) (S : Ent) : Prop where
  box : ∃ p, h.obj g = some (.row true 3 [i64 W, i64 N, .sl p S.length]) ∧ RoSl h p S.length 2 (S.flatMap eC)
  ent : ∀ x ∈ S, bOk h x.2
theorem RTk.get {Z : Nat → Prop} {h h' : H} {g : Nat} {W N : Int} {S : Ent} (s : RTk h g W N S) (m : Ab.Mod Z h h') (hg : ¬ Z g) : RTk h' g W N S := by
  obtain ⟨⟨p, h1, h2⟩, h3⟩ := s
  exact ⟨⟨p, m.get h1 (.inl hg), h2.get m⟩, fun x hx => (h3 x hx).get m⟩
theorem RTk.lt {h : H} {g : Nat} {W N : Int} {S : Ent} (s : RTk h g W N S) : g < h.next := by
  obtain ⟨⟨p, h1, h2⟩, _⟩ := s
  exact h.lt _ _ h1
def NewRT (W : Int) (h : H) (r : V) (h' : H) : Prop :=
  (okW W = false ∧ r = .ptr none ∧ h' = h) ∨ (okW W = true ∧ ∃ g, r = .ptr (some (g, 0)) ∧ RTk h' g W 0 [] ∧ h.next ≤ g ∧ Ab.Mod none_ h h')
def TakeR (h : H) (g : Nat) (W N : Int) (S : Ent) (seq : Int) (m : Nat) (body : List Int) (r : V) (h' : H) : Prop :=
  (mayT W N seq S = false ∧ r = .tup [.sl none 0, .bool false] ∧ h' = h) ∨
  (mayT W N seq S = true ∧ ∃ pb pC q k X, X = insS S seq (pb, body) ∧ k ≤ X.length ∧ chn N X = ((X.take k).map Prod.snd, N + (k : Int), X.drop k) ∧ r = .tup [.sl q k, .bool true] ∧
    h'.obj g = some (.row true 3 [i64 W, i64 (N + (k : Int)), .sl (slp pC (k * 2)) (X.length - k)]) ∧ NewSl h h' pC X.length 2 (X.flatMap eC) ∧ NewSl h h' pb m 1 (ints .u8 body) ∧ NewSl h h' q k 1 ((X.take k).flatMap fun x => slC x.2) ∧ Ab.Mod (one g) h h')
theorem chn_step {β : Type} {N : Int} {X : List (Int × β)} {k : Nat} (hk : k < X.length) (e : X[k].1 = N + (k : Int)) : chn (N + (k : Int)) (X.drop k) = (X[k].2 :: (chn (N + ((k + 1 : Nat) : Int)) (X.drop (k + 1))).1, (chn (N + ((k + 1 : Nat) : Int)) (X.drop (k + 1))).2) := by
  rw [List.drop_eq_getElem_cons hk, chn, if_pos e, show N + (k : Int) + 1 = N + ((k + 1 : Nat) : Int) by omega]
theorem chn_stop {β : Type} {N : Int} {X : List (Int × β)} {k : Nat} (h : k = X.length ∨ ∃ hk : k < X.length, X[k].1 ≠ N + (k : Int)) (hk : k ≤ X.length) : chn (N + (k : Int)) (X.drop k) = ([], N + (k : Int), X.drop k) := by
  rcases h with rfl | ⟨hk, e⟩
  · rw [List.drop_length]
    rfl
  · rw [List.drop_eq_getElem_cons hk, chn, if_neg e]
theorem sub_is {h : H} {p : Option (Nat × Nat)} {own : Bool} {X : Ent} (s : SlIs h p X.length own 2 (X.flatMap eC)) {k : Nat} (hk : k ≤ X.length) : SlIs h (slp p (k * 2)) (X.length - k) false 2 ((X.drop k).flatMap eC) := by
  have := SlIs.cut s.weak hk (Nat.le_refl X.length)
  rw [flat_drop eC_len X hk, List.take_of_length_le (by rw [flat_length eC_len, List.length_drop]; exact Nat.le_refl _)] at this
  exact this
theorem ro3 {P : Go.Program} {f : Nat} {vs : List V} {h : H} {Q Q' : V → H → Prop} (c : ACalls P f vs h Q) (k : ∀ r h', Q r h' → ∃ i j l, Q' r (((h'.ro i).ro j).ro l)) : ACalls P f vs h Q' :=
  ((c.ro (Q' := fun r h' => ∃ j l, Q' r ((h'.ro j).ro l)) k).ro (Q' := fun r h' => ∃ l, Q' r (h'.ro l)) (fun _ _ q => q)).ro (fun _ _ q => q)
theorem RTk.ro {h : H} {g : Nat} {W N : Int} {S : Ent} (s : RTk h g W N S) {i : Nat} (hg : g ≠ i) : RTk (h.ro i) g W N S := by
  obtain ⟨⟨p, h1, h2⟩, h3⟩ := s
  exact ⟨⟨p, by rw [H.ro_ne _ hg, h1], h2.ro i⟩, fun x hx => (h3 x hx).ro i⟩
def RTkC (h : H) (g : Nat) (W N : Int) (C : Hd) : Prop := ∃ S, RTk h g W N S ∧ encM Prod.snd S = C
theorem RTkC.get {Z : Nat → Prop} {h h' : H} {g : Nat} {W N : Int} {C : Hd} (s : RTkC h g W N C) (m : Ab.Mod Z h h') (hg : ¬ Z g) : RTkC h' g W N C := by
  obtain ⟨S, h1, h2⟩ := s
  exact ⟨S, h1.get m hg, h2⟩
theorem RTkC.old {h h' : H} {g : Nat} {W N : Int} {C : Hd} (s : RTkC h g W N C) (m : Ab.Mod none_ h h') : RTkC h' g W N C := s.get m (fun k => k)
theorem RTkC.lt {h : H} {g : Nat} {W N : Int} {C : Hd} (s : RTkC h g W N C) : g < h.next := by
  obtain ⟨S, h1, _⟩ := s
  exact h1.lt
theorem RTkC.n {h : H} {g : Nat} {W N : Int} {C : Hd} (s : RTkC h g W N C) : Cell h g 1 (i64 N) := by
  obtain ⟨S, ⟨⟨p, h1, _⟩, _⟩, _⟩ := s
  exact Cell.mk h1 rfl
def RTakeC (h : H) (g : Nat) (W N : Int) (C : Hd) (seq : Int) (body : List Int) (r : V) (h' : H) : Prop :=
  ∃ q, r = .tup [.sl q (tkV W N C seq body).2.1.length, .bool (tkV W N C seq body).1] ∧ Rws h' q (tkV W N C seq body).2.1 ∧ RTkC h' g W (tkV W N C seq body).2.2.1 (tkV W N C seq body).2.2.2 ∧ Ab.Mod (one g) h h'
theorem ro_sub {h : H} {p : Option (Nat × Nat)} {X : Ent} (o : RoSl h p X.length 2 (X.flatMap eC)) {k : Nat} (hk : k ≤ X.length) : RoSl h (slp p (k * 2)) (X.drop k).length 2 ((X.drop k).flatMap eC) := by
  rw [List.length_drop]
  exact ro_drop eC_len o hk
def Oct (b : List Int) : Prop := ∀ x ∈ b, 0 ≤ x ∧ x < 256
end Go.Proofs.YtmififfaljihgaaGreat
