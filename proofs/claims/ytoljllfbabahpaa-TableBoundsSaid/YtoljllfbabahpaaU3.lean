/- U3: texts of another seat, turned to this one. -/
import Derived.Test.YtoljllfbabahpaaU2
set_option linter.unusedVariables false
set_option linter.unusedSimpArgs false
namespace Go.Proofs.Ytoljllfbabahpaa
open Go Go.Ab Go.Shelf
/-- one's wait: till when, how many tries -/
def wV (x : Int × Int) : V := .agg [i64 x.1, i64 x.2]
abbrev Wt := Int × Int × Int
structure TSt (h : H) (g mi : Nat) (B M R : Int) (S : List Wt) : Prop where
  box : h.obj g = some (.row true 4 [i64 B, i64 M, i64 R, .mp (some mi)])
  map : ∃ ms, h.obj mi = some (.map true (mpE .i64 (encM wV ms))) ∧ Same ms S
  asc : AscS S
  rng : ∀ k ∈ keys S, inI k
  sep : mi ≠ g
theorem TSt.get {Z : Nat → Prop} {h h' : H} {g mi : Nat} {B M R : Int} {S : List Wt} (s : TSt h g mi B M R S) (m : Ab.Mod Z h h') (hg : ¬ Z g) (hm : ¬ Z mi) : TSt h' g mi B M R S := by
  obtain ⟨ms, h1, h2⟩ := s.map
  exact ⟨m.get s.box (.inl hg), ⟨ms, m.get h1 (.inl hm), h2⟩, s.asc, s.rng, s.sep⟩
theorem TSt.old {h h' : H} {g mi : Nat} {B M R : Int} {S : List Wt} (s : TSt h g mi B M R S) (m : Ab.Mod none_ h h') : TSt h' g mi B M R S := s.get m (fun k => k) (fun k => k)
theorem TSt.lt {h : H} {g mi : Nat} {B M R : Int} {S : List Wt} (s : TSt h g mi B M R S) : g < h.next ∧ mi < h.next := by
  obtain ⟨ms, h1, _⟩ := s.map
  exact ⟨h.lt _ _ s.box, h.lt _ _ h1⟩
/-- the map turns -/
theorem TSt.turn {h : H} {g mi : Nat} {B M R : Int} {S S' : List Wt} (s : TSt h g mi B M R S) {ms' : List Wt} (hs : Same ms' S') (ha : AscS S') (hr : ∀ k ∈ keys S', inI k) :
    TSt (h.set mi (.map true (mpE .i64 (encM wV ms')))) g mi B M R S' ∧ Ab.Mod (one mi) h (h.set mi (.map true (mpE .i64 (encM wV ms')))) := by
  obtain ⟨ms, h1, _⟩ := s.map
  exact ⟨⟨by rw [H.obj_set_ne h _ s.sep.symm, s.box], ⟨ms', H.obj_set_same h1, hs⟩, ha, hr, s.sep⟩, Mod.set rfl h1 rfl⟩
def waitW (M : Int) : Int → Nat → Int
  | B, 0 => B
  | B, n + 1 => if B < M then waitW M (2 * B) n else B
def waitV (B M n : Int) : Int := if M < waitW M B n.toNat then M else waitW M B n.toNat
theorem waitW_stop {M B : Int} (h : ¬ B < M) (n : Nat) : waitW M B n = B := by
  cases n with
  | zero => rfl
  | succ n => rw [waitW, if_neg h]
theorem wait37 {h : H} {g mi : Nat} {B M R : Int} (hb : h.obj g = some (.row true 4 [i64 B, i64 M, i64 R, .mp (some mi)])) (h1 : 1 ≤ B) (h2 : B ≤ M) (h3 : M ≤ 1000) {n : Int} (hn : n ≤ 9223372036854775807) :
    ACalls Try.prog 101 [.ptr (some (g, 0)), i64 n] h (fun r h' => h' = h ∧ r = i64 (waitV B M n)) := by
  refine call_ Try.func101 rfl rfl (by kernel_rfl) ?_
  conv => whnf
  refine ⟨_, Cell.mk hb rfl, ?_⟩
  conv => whnf
  refine ⟨fun env hh => ∃ (w z : Int), hh = h ∧ 1 ≤ w ∧ w ≤ 2000 ∧ waitW M w z.toNat = waitW M B n.toNat ∧ z ≤ n ∧ (z = n ∨ 0 ≤ z) ∧ env = [(1, i64 z), (5, i64 w), (0, .ptr (some (g, 0)))],
    fun env _ => match get env 1 with
      | .int _ z => z.toNat
      | _ => 0, ⟨_, Forget.cons rfl (Forget.cons rfl (Forget.cons rfl (Forget.nil _))), B, n, rfl, h1, by omega, rfl, Int.le_refl _, .inl rfl, rfl⟩, ?_⟩
  rintro _ hh ⟨w, z, eh, w1, w2, w3, z1, z2, rfl⟩
  subst eh
  conv => whnf
  have fin : waitW M w z.toNat = w → ∀ x, x = w → (if M < x then M else x) = waitV B M n := fun e x hx => by
    rw [waitV, ← w3, e, hx]
  refine br_mk (fun ha => ?_) (fun ha => ?_)
  · conv => whnf
    have ha : 0 < z := by simpa using ha
    refine ⟨_, Cell.mk hb rfl, ?_⟩
    conv => whnf
    refine br_mk (fun hc => ?_) (fun hc => ?_)
    · conv => whnf
      have hc : w < M := by simpa using hc
      have e1 : IntKind.i64.wrap (w * 2) = 2 * w := by rw [wrap_i64 (by omega) (by omega)]; omega
      have e2 : z.toNat = (z - 1).toNat + 1 := by omega
      have e3 : IntKind.i64.wrap (z - 1) = z - 1 := wrap_i64 (by omega) (by omega)
      rw [e1, e3]
      refine ⟨_, Forget.cons rfl (Forget.cons rfl (Forget.cons rfl (Forget.nil _))), ⟨2 * w, z - 1, rfl, by omega, by omega, ?_, by omega, .inr (by omega), rfl⟩, ?_⟩
      · rw [← w3, e2, waitW, if_pos hc]
      · show (z - 1).toNat < z.toNat
        omega
    · conv => whnf
      have hc : ¬ w < M := by simpa using hc
      refine ⟨_, Cell.mk hb rfl, ?_⟩
      conv => whnf
      exact ⟨rfl, congrArg i64 (fin (waitW_stop hc _) w rfl)⟩
  · conv => whnf
    have ha : ¬ 0 < z := by simpa using ha
    refine ⟨_, Cell.mk hb rfl, ?_⟩
    conv => whnf
    refine ⟨rfl, congrArg i64 (fin ?_ w rfl)⟩
    rw [show z.toNat = 0 by omega]
    rfl
def okT (B M R : Int) : Bool := decide (1 ≤ B) && decide (B ≤ 1000) && decide (B ≤ M) && decide (M ≤ 1000) && decide (0 ≤ R) && decide (R ≤ 20)
theorem okT_iff {B M R : Int} : okT B M R = true ↔ 1 ≤ B ∧ B ≤ 1000 ∧ B ≤ M ∧ M ≤ 1000 ∧ 0 ≤ R ∧ R ≤ 20 := by
  simp [okT, and_assoc]
def NewTQ (B M R : Int) (h : H) (r : V) (h' : H) : Prop :=
  (okT B M R = false ∧ r = .tup [.ptr none, i64 1] ∧ h' = h) ∨ (okT B M R = true ∧ ∃ g mi, r = .tup [.ptr (some (g, 0)), i64 0] ∧ TSt h' g mi B M R [] ∧ h.next ≤ g ∧ h.next ≤ mi ∧ Ab.Mod none_ h h')
theorem new22 (h : H) (B M R : Int) : ACalls Try.prog 40 [i64 B, i64 M, i64 R] h (fun r h' => NewTQ B M R h r h') := by
  refine call_ Try.func40 rfl rfl (by kernel_rfl) ?_
  conv => whnf
  have no : ¬ (1 ≤ B ∧ B ≤ 1000 ∧ B ≤ M ∧ M ≤ 1000 ∧ 0 ≤ R ∧ R ≤ 20) → NewTQ B M R h (.tup [.ptr none, i64 1]) h := fun hn => .inl ⟨by
    cases hh : okT B M R with
    | false => rfl
    | true => exact absurd (okT_iff.1 hh) hn, rfl, rfl⟩
  refine br_mk (fun ha => ?_) (fun ha => ?_)
  · conv => whnf
    have ha : B < 1 := by simpa using ha
    exact no (by omega)
  conv => whnf
  have ha : ¬ B < 1 := by simpa using ha
  refine br_mk (fun hb => ?_) (fun hb => ?_)
  · conv => whnf
    have hb : B > 1000 := by simpa using hb
    exact no (by omega)
  conv => whnf
  have hb : ¬ B > 1000 := by simpa using hb
  refine br_mk (fun hc => ?_) (fun hc => ?_)
  · conv => whnf
    have hc : M < B := by simpa using hc
    exact no (by omega)
  conv => whnf
  have hc : ¬ M < B := by simpa using hc
  refine br_mk (fun hd => ?_) (fun hd => ?_)
  · conv => whnf
    have hd : M > 1000 := by simpa using hd
    exact no (by omega)
  conv => whnf
  have hd : ¬ M > 1000 := by simpa using hd
  refine br_mk (fun he => ?_) (fun he => ?_)
  · conv => whnf
    have he : R < 0 := by simpa using he
    exact no (by omega)
  conv => whnf
  have he : ¬ R < 0 := by simpa using he
  refine br_mk (fun hf => ?_) (fun hf => ?_)
  · conv => whnf
    have hf : R > 20 := by simpa using hf
    exact no (by omega)
  conv => whnf
  have hf : ¬ R > 20 := by simpa using hf
  refine .inr ⟨okT_iff.2 (by omega), h.next + 1, h.next, rfl, ⟨H.obj_push_new _ _, ⟨[], H.obj_push _ (H.obj_push_new _ _), List.Pairwise.nil, fun _ => rfl⟩, List.Pairwise.nil, (fun k hk => absurd hk (by simp [keys])), by omega⟩, by omega, Nat.le_refl _, mod_none (Mod.push none_ h _) (Mod.push none_ _ _)⟩
theorem newT_yes {B M R : Int} {h h' : H} {r : V} (q : NewTQ B M R h r h') (ok : okT B M R = true) : ∃ g mi, r = .tup [.ptr (some (g, 0)), i64 0] ∧ TSt h' g mi B M R [] ∧ h.next ≤ g ∧ h.next ≤ mi ∧ Ab.Mod none_ h h' := by
  rcases q with ⟨e, _⟩ | ⟨_, q⟩
  · rw [ok] at e
    cases e
  · exact q
theorem newT_no {B M R : Int} {h h' : H} {r : V} (q : NewTQ B M R h r h') (ok : okT B M R = false) : r = .tup [.ptr none, i64 1] ∧ h' = h := by
  rcases q with ⟨_, q⟩ | ⟨e, _⟩
  · exact q
  · rw [ok] at e
    cases e
theorem insS_rng {S : List Wt} (hr : ∀ k ∈ keys S, inI k) {id : Int} (hid : inI id) (v : Int × Int) : ∀ k ∈ keys (insS S id v), inI k := fun k hk => by
  obtain ⟨p, hp, rfl⟩ := List.mem_map.1 hk
  rw [insS, List.mem_append, List.mem_cons] at hp
  rcases hp with hp | rfl | hp
  · exact hr _ (List.mem_map.2 ⟨p, (List.mem_filter.1 hp).1, rfl⟩)
  · exact hid
  · exact hr _ (List.mem_map.2 ⟨p, (List.mem_filter.1 hp).1, rfl⟩)
theorem waitW_ge {M : Int} : ∀ (n : Nat) {B : Int}, 1 ≤ B → B ≤ waitW M B n
  | 0, B, _ => Int.le_refl _
  | n + 1, B, h => by
    rw [waitW]
    split
    · have := waitW_ge (M := M) n (B := 2 * B) (by omega)
      omega
    · exact Int.le_refl _
theorem waitV_rng {B M : Int} (h1 : 1 ≤ B) (h2 : B ≤ M) (n : Int) : B ≤ waitV B M n ∧ waitV B M n ≤ M := by
  have := waitW_ge (M := M) n.toNat h1
  unfold waitV
  split <;> omega
theorem start23 {h : H} {g mi : Nat} {B M R : Int} {S : List Wt} (s : TSt h g mi B M R S) (ok : okT B M R = true) {id now : Int} (hid : inI id) (h0 : -1000000000 ≤ now) (h1 : now ≤ 1000000000) :
    ACalls Try.prog 83 [.ptr (some (g, 0)), i64 id, i64 now] h (fun r h' => TSt h' g mi B M R (insS S id (now + waitV B M 0, 0)) ∧ Ab.Mod (one mi) h h') := by
  obtain ⟨b1, b2, b3, b4, b5, b6⟩ := okT_iff.1 ok
  obtain ⟨w1, w2⟩ := waitV_rng b1 b3 0
  refine call_ Try.func83 rfl rfl (by kernel_rfl) ?_
  conv => whnf
  refine ⟨[0, 1, 2, 3, 4, 5, 6, 7, 8, 9, 10], [0, 1, 3, 7, 0, 0, 0, 64, 224, 480, 1023], by kernel_rfl, ?_⟩
  conv => whnf
  refine ⟨_, Cell.mk s.box rfl, ?_⟩
  conv => whnf
  refine (wait37 s.box b1 b3 b4 (n := 0) (by decide)).mono ?_
  rintro _ h2 ⟨eh, rfl⟩
  subst eh
  conv => whnf
  refine ⟨⟨_, Cell.mk s.box rfl, rfl⟩, ?_⟩
  conv => whnf
  rw [wrap_i64 (x := now + waitV B M 0) (by omega) (by omega)]
  obtain ⟨ms, g1, g2⟩ := s.map
  refine ⟨encM wV ms, g1, ?_⟩
  conv => whnf
  have e1 := mput_enc wV id (now + waitV B M 0, 0) ms
  have key := s.turn (g2.put id (now + waitV B M 0, 0) (insS_get s.asc id _)) (insS_asc s.asc id _) (insS_rng s.rng hid _)
  rw [← e1] at key
  exact key
theorem delS_rng {S : List Wt} (hr : ∀ k ∈ keys S, inI k) (id : Int) : ∀ k ∈ keys (delS S id), inI k := fun k hk => by
  obtain ⟨p, hp, rfl⟩ := List.mem_map.1 hk
  exact hr _ (List.mem_map.2 ⟨p, (List.mem_filter.1 hp).1, rfl⟩)
theorem stop40 {h : H} {g mi : Nat} {B M R : Int} {S : List Wt} (s : TSt h g mi B M R S) {q : Option (Nat × Nat)} {m : Nat} {E : List Int} (nm : SlIs h q m false 1 (ints .i64 E)) (hq : ∀ i o, q = some (i, o) → i ≠ mi) (hm : m ≤ 1000000) :
    ACalls Try.prog 85 [.ptr (some (g, 0)), .sl q m] h (fun r h' => TSt h' g mi B M R (E.foldl delS S) ∧ Ab.Mod (one mi) h h') := by
  have hl := slo_len nm
  refine call_ Try.func85 rfl rfl (by kernel_rfl) ?_
  conv => whnf
  refine ⟨fun env hh => ∃ (j : Nat) (z : Int), j ≤ m ∧ z = j ∧ TSt hh g mi B M R ((E.take j).foldl delS S) ∧ Ab.Mod (one mi) h hh ∧ env = [(10, i64 z), (9, i64 m), (8, .sl q m), (0, .ptr (some (g, 0)))],
    fun env _ => match get env 10 with
      | .int _ z => (m - z).toNat
      | _ => 0, ⟨_, Forget.cons rfl (Forget.cons rfl (Forget.cons rfl (Forget.cons rfl (Forget.nil _)))), 0, _, Nat.zero_le _, rfl, s, ⟨Nat.le_refl _, fun _ _ _ => rfl⟩, rfl⟩, ?_⟩
  rintro _ hh ⟨j, z, hj, rfl, st, mo, rfl⟩
  conv => whnf
  refine br_mk (fun hd => ?_) (fun hd => ?_)
  · conv => whnf
    have hd : j < m := by simpa using hd
    obtain ⟨i1, c1, f1, f2⟩ := slo_get (nm.get mo (fun i o e => .inl (hq i o e))) hd
    refine ⟨i1, c1, j, f1, rfl, hd, ?_⟩
    conv => whnf
    refine ⟨_, f2, ?_⟩
    conv => whnf
    refine ⟨_, Cell.mk st.box rfl, ?_⟩
    conv => whnf
    obtain ⟨ms, g1, g2⟩ := st.map
    refine .inl ⟨encM wV ms, g1, ?_⟩
    conv => whnf
    have e1 := mdel_enc wV (E.getD j 0) ms
    obtain ⟨k1, k2⟩ := st.turn (g2.del (E.getD j 0) (delS_get st.asc (E.getD j 0))) (delS_asc st.asc (E.getD j 0)) (delS_rng st.rng (E.getD j 0))
    rw [← e1] at k1 k2
    have e2 : (E.take (j + 1)).foldl delS S = delS ((E.take j).foldl delS S) (E.getD j 0) := by
      rw [take_snoc_ (by omega), List.foldl_append]
      rfl
    rw [← e2] at k1
    exact ⟨_, Forget.cons rfl (Forget.cons rfl (Forget.cons rfl (Forget.cons rfl (Forget.nil _)))), ⟨j + 1, _, hd, succ_i64 hd (by omega), k1, mo.trans' k2 (fun _ _ k => k) (fun _ _ k => k), rfl⟩, mu_lt hd hm⟩
  · conv => whnf
    have hd : ¬ j < m := by simpa using hd
    rw [List.take_of_length_le (by omega)] at st
    exact ⟨st, mo⟩
theorem len25 {h : H} {g mi : Nat} {B M R : Int} {S : List Wt} (s : TSt h g mi B M R S) : ACalls Try.prog 55 [.ptr (some (g, 0))] h (fun r h' => h' = h ∧ r = i64 S.length) := by
  refine call_ Try.func55 rfl rfl (by kernel_rfl) ?_
  conv => whnf
  refine ⟨_, Cell.mk s.box rfl, ?_⟩
  conv => whnf
  obtain ⟨ms, g1, g2⟩ := s.map
  refine ⟨true, _, g1, ?_⟩
  conv => whnf
  refine ⟨rfl, ?_⟩
  have : (mpE .i64 (encM wV ms)).length = S.length := by
    rw [mpE, List.length_map, encM_length, g2.length s.asc]
  rw [this]
theorem len25n (h : H) : ACalls Try.prog 55 [.ptr none] h (fun r h' => h' = h ∧ r = i64 0) := by
  refine call_ Try.func55 rfl rfl (by kernel_rfl) ?_
  conv => whnf
  exact ⟨rfl, rfl⟩
theorem wait37n (h : H) (n : Int) : ACalls Try.prog 101 [.ptr none, i64 n] h (fun r h' => h' = h ∧ r = i64 0) := by
  refine call_ Try.func101 rfl rfl (by kernel_rfl) ?_
  conv => whnf
  exact ⟨rfl, rfl⟩
def dueF (B M R now : Int) (x : Wt) : Option Wt := if x.2.1 > now then some x else if x.2.2 < R then some (x.1, now + waitV B M (x.2.2 + 1), x.2.2 + 1) else none
def agB (R now : Int) (x : Wt) : Bool := !decide (x.2.1 > now) && decide (x.2.2 < R)
def ovB (R now : Int) (x : Wt) : Bool := !decide (x.2.1 > now) && !decide (x.2.2 < R)
def agS (R now : Int) (S : List Wt) : List Int := keys (S.filter (agB R now))
def ovS (R now : Int) (S : List Wt) : List Int := keys (S.filter (ovB R now))
def rsS (B M R now : Int) (S : List Wt) : List Wt := S.filterMap (dueF B M R now)
theorem agS_snoc (R now : Int) (S : List Wt) (x : Wt) : agS R now (S ++ [x]) = agS R now S ++ (if agB R now x then [x.1] else []) := by
  rw [agS, filter_snoc, keys_append, agS]
  congr 1
  by_cases h : agB R now x = true
  · rw [if_pos h, if_pos h]
    rfl
  · rw [if_neg h, if_neg h]
    rfl
theorem ovS_snoc (R now : Int) (S : List Wt) (x : Wt) : ovS R now (S ++ [x]) = ovS R now S ++ (if ovB R now x then [x.1] else []) := by
  rw [ovS, filter_snoc, keys_append, ovS]
  congr 1
  by_cases h : ovB R now x = true
  · rw [if_pos h, if_pos h]
    rfl
  · rw [if_neg h, if_neg h]
    rfl
theorem rsS_snoc (B M R now : Int) (S : List Wt) (x : Wt) : rsS B M R now (S ++ [x]) = rsS B M R now S ++ (dueF B M R now x).toList := by
  rw [rsS, List.filterMap_append, rsS, List.filterMap_cons, List.filterMap_nil]
  cases h : dueF B M R now x <;> rfl
theorem agS_le (R now : Int) (S : List Wt) : (agS R now S).length ≤ S.length := by
  rw [agS, keys, List.length_map]
  exact List.length_filter_le _ _
theorem ovS_le (R now : Int) (S : List Wt) : (ovS R now S).length ≤ S.length := by
  rw [ovS, keys, List.length_map]
  exact List.length_filter_le _ _
theorem keys_get {S : List Wt} {j : Nat} (h : j < S.length) : (keys S).getD j 0 = S[j].1 := by
  simp [keys, List.getD_eq_getElem?_getD, h]
theorem keys_len (S : List Wt) : (keys S).length = S.length := by simp [keys]
def DueQ (h : H) (g mi : Nat) (B M R : Int) (S : List Wt) (now : Int) (r : V) (h' : H) : Prop :=
  ∃ qa qo, r = .tup [.sl qa (agS R now S).length, .sl qo (ovS R now S).length] ∧ NewSl h h' qa (agS R now S).length 1 (ints .i64 (agS R now S)) ∧ NewSl h h' qo (ovS R now S).length 1 (ints .i64 (ovS R now S)) ∧ TSt h' g mi B M R (rsS B M R now S) ∧ Ab.Mod (one mi) h h'
set_option maxHeartbeats 1000000 in
theorem due24 {h : H} {g mi : Nat} {B M R : Int} {S : List Wt} (s : TSt h g mi B M R S) (ok : okT B M R = true) (hS : S.length ≤ 100000) (hN : ∀ x ∈ S, 0 ≤ x.2.2) {now : Int} (hn0 : -1000000000 ≤ now) (hn1 : now ≤ 1000000000) :
    ACalls Try.prog 87 [.ptr (some (g, 0)), i64 now] h (DueQ h g mi B M R S now) := by
  obtain ⟨b1, b2, b3, b4, b5, b6⟩ := okT_iff.1 ok
  refine call_ Try.func87 rfl rfl (by kernel_rfl) ?_
  conv => whnf
  refine ⟨_, Cell.mk s.box rfl, ?_⟩
  conv => whnf
  refine (keys67 h mi).mono ?_
  rintro _ h1 ⟨rfl, e1⟩
  subst e1
  conv => whnf
  obtain ⟨ms, g1, g2⟩ := s.map
  have mP := Mod.push none_ h (.row true 1 [.mp (some mi)])
  have gP := mP.get g1 (.inl (fun k => k))
  have hkm : ∀ p ∈ encM wV ms, inI p.1 := fun p hp => by
    obtain ⟨x, hx, rfl⟩ := List.mem_map.1 hp
    refine s.rng x.1 ?_
    rw [← sget_some, ← g2.2, sget_some]
    exact List.mem_map.2 ⟨x, hx, rfl⟩
  refine (sorted66 (.inl rfl) (H.obj_push_new h _) gP (by rw [encM_keys]; exact g2.1) hkm (by rw [encM_length, g2.length s.asc]; omega)).mono ?_
  rintro _ h2 ⟨q, rfl, nq, m2⟩
  rw [encM_keys, encM_length, g2.keys s.asc, g2.length s.asc] at nq
  rw [encM_length, g2.length s.asc]
  have mA := mod_none mP m2
  have s2 := s.old mA
  have hlt := s.lt
  have hqi : ∀ i o, q = some (i, o) → h.next ≤ i := fun i o e => Nat.le_of_succ_le (nq.2 i o e)
  conv => whnf
  refine ⟨fun env hh => ∃ (j : Nat) (z : Int) (pa po : Option (Nat × Nat)), j ≤ S.length ∧ z = j ∧ NewSl h2 hh pa (agS R now (S.take j)).length 1 (ints .i64 (agS R now (S.take j))) ∧ NewSl h2 hh po (ovS R now (S.take j)).length 1 (ints .i64 (ovS R now (S.take j))) ∧
      (∀ i, inSl pa i → inSl po i → False) ∧ TSt hh g mi B M R (rsS B M R now (S.take j) ++ S.drop j) ∧ Ab.Mod (one mi) h2 hh ∧
      env = [(18, i64 z), (4, .sl pa (agS R now (S.take j)).length), (5, .sl po (ovS R now (S.take j)).length), (17, i64 S.length), (16, .sl q S.length), (0, .ptr (some (g, 0))), (1, i64 now)],
    fun env _ => match get env 18 with
      | .int _ z => (S.length - z).toNat
      | _ => 0, ⟨_, Forget.cons rfl (Forget.cons rfl (Forget.cons rfl (Forget.cons rfl (Forget.cons rfl (Forget.cons rfl (Forget.cons rfl (Forget.nil _))))))), 0, _, none, none, Nat.zero_le _, rfl, NewSl.nil _ _ _, NewSl.nil _ _ _, (fun i a => by
        obtain ⟨o, a⟩ := a
        cases a), s2, ⟨Nat.le_refl _, fun _ _ _ => rfl⟩, rfl⟩, ?_⟩
  rintro _ hh ⟨j, z, pa, po, hj, rfl, na, no, dis, st, mo, rfl⟩
  conv => whnf
  refine br_mk (fun hd => ?_) (fun hd => ?_)
  rotate_left
  · conv => whnf
    have hd : ¬ j < S.length := by simpa using hd
    obtain rfl : j = S.length := by omega
    rw [List.take_length] at na no st ⊢
    rw [List.drop_length, List.append_nil] at st
    exact ⟨pa, po, rfl, ⟨na.1, fun i o e => Nat.le_trans mA.next (na.2 i o e)⟩, ⟨no.1, fun i o e => Nat.le_trans mA.next (no.2 i o e)⟩, st, mA.trans' mo (fun _ _ k => k.elim) (fun _ _ k => k)⟩
  conv => whnf
  have hd : j < S.length := by simpa using hd
  have sq : SlIs hh q S.length true 1 (ints .i64 (keys S)) := nq.1.get mo (fun i o e => .inl (fun k => by
    have := hqi i o e
    have : i = mi := k
    omega))
  obtain ⟨i1, c1, f1, f2⟩ := slo_get sq hd
  rw [keys_get hd] at f2
  refine ⟨i1, c1, j, f1, rfl, hd, ?_⟩
  conv => whnf
  refine ⟨_, f2, ?_⟩
  conv => whnf
  refine ⟨_, Cell.mk st.box rfl, ?_⟩
  conv => whnf
  have hdr : S.drop j = S[j] :: S.drop (j + 1) := List.drop_eq_getElem_cons hd
  have htk : S.take (j + 1) = S.take j ++ [S[j]] := List.take_succ_eq_append_getElem hd
  have hx0 := hN _ (getElem_in hd)
  have hjl : (agS R now (S.take j)).length ≤ S.length ∧ (ovS R now (S.take j)).length ≤ S.length := by
    have h1 := agS_le R now (S.take j)
    have h2 := ovS_le R now (S.take j)
    rw [List.length_take] at h1 h2
    omega
  rw [hdr] at st
  generalize S[j] = x at f2 hdr htk hx0 st ⊢
  have hm1 := sget_mid st.asc
  obtain ⟨ms1, k1, k2⟩ := st.map
  have e2 : mget (encM wV ms1) x.1 = some (wV x.2) := by rw [mget_enc, k2.2, hm1]; rfl
  refine ⟨true, encM wV ms1, k1, ?_⟩
  rw [e2]
  conv => whnf
  obtain ⟨gm, gn, ml⟩ := lay_row (h := hh) (sz := 2) [i64 0, i64 0] [i64 x.2.1, i64 x.2.2]
  refine ⟨_, _, gm, Nat.le_of_ble_eq_true rfl, ?_⟩
  conv => whnf
  refine ⟨_, Cell.mk gn rfl, ?_⟩
  conv => whnf
  have na1 := NewSl.kept na ml
  have no1 := NewSl.kept no ml
  have st1 := st.old ml
  have mo1 := mo.trans' ml (fun _ _ k => k) (fun _ _ k => k.elim)
  refine br_mk (fun hb => ?_) (fun hb => ?_)
  · conv => whnf
    have hF : dueF B M R now x = some x := by rw [dueF, if_pos (by simpa using hb)]
    have hA : agB R now x = false := by rw [agB, show decide (x.2.1 > now) = true from hb]; rfl
    have hO : ovB R now x = false := by rw [ovB, show decide (x.2.1 > now) = true from hb]; rfl
    have ea : agS R now (S.take (j + 1)) = agS R now (S.take j) := by rw [htk, agS_snoc, hA]; simp
    have eo : ovS R now (S.take (j + 1)) = ovS R now (S.take j) := by rw [htk, ovS_snoc, hO]; simp
    have er : rsS B M R now (S.take j) ++ x :: S.drop (j + 1) = rsS B M R now (S.take (j + 1)) ++ S.drop (j + 1) := by rw [htk, rsS_snoc, hF]; simp
    rw [er] at st1
    rw [← ea] at na1
    rw [← eo] at no1
    rw [← ea, ← eo]
    exact ⟨_, Forget.cons rfl (Forget.cons rfl (Forget.cons rfl (Forget.cons rfl (Forget.cons rfl (Forget.cons rfl (Forget.cons rfl (Forget.nil _))))))), ⟨j + 1, _, pa, po, hd, succ_i64 hd (by omega), na1, no1, dis, st1, mo1, rfl⟩, mu_lt hd (by omega)⟩
  conv => whnf
  refine ⟨[0, 1, 2, 3, 4, 5, 6, 7], [0, 1, 0, 4, 12, 28, 63, 127], by kernel_rfl, ?_⟩
  conv => whnf
  refine ⟨_, Cell.mk gn rfl, ?_⟩
  conv => whnf
  refine ⟨_, Cell.mk st1.box rfl, ?_⟩
  conv => whnf
  refine br_mk (fun hc => ?_) (fun hc => ?_)
  · conv => whnf
    have hc' : x.2.2 < R := by simpa using hc
    have hF : dueF B M R now x = some (x.1, now + waitV B M (x.2.2 + 1), x.2.2 + 1) := by rw [dueF, if_neg (by simpa using hb), if_pos hc']
    have hA : agB R now x = true := by rw [agB, show decide (x.2.1 > now) = false from hb, hc]; rfl
    have hO : ovB R now x = false := by rw [ovB, show decide (x.2.1 > now) = false from hb, hc]; rfl
    have ea : agS R now (S.take (j + 1)) = agS R now (S.take j) ++ [x.1] := by rw [htk, agS_snoc, hA]; simp
    have eo : ovS R now (S.take (j + 1)) = ovS R now (S.take j) := by rw [htk, ovS_snoc, hO]; simp
    have er : rsS B M R now (S.take j) ++ (x.1, now + waitV B M (x.2.2 + 1), x.2.2 + 1) :: S.drop (j + 1) = rsS B M R now (S.take (j + 1)) ++ S.drop (j + 1) := by rw [htk, rsS_snoc, hF]; simp
    refine ⟨[0, 1, 2, 3, 4, 5, 6, 7, 8, 9, 12, 13, 14, 10, 11, 15, 16], [0, 1, 3, 7, 0, 0, 0, 0, 128, 384, 960, 2016, 0, 4096, 12288, 32736, 65535], by kernel_rfl, ?_⟩
    conv => whnf
    refine ⟨_, Cell.mk st1.box rfl, ?_⟩
    conv => whnf
    refine ⟨_, Cell.mk gn rfl, ?_⟩
    conv => whnf
    refine ⟨_, Cell.mk gn rfl, ?_⟩
    conv => whnf
    have ew : IntKind.i64.wrap (x.2.2 + 1) = x.2.2 + 1 := wrap_i64 (by omega) (by omega)
    rw [ew]
    refine (wait37 st1.box b1 b3 b4 (n := x.2.2 + 1) (by omega)).mono ?_
    rintro _ h4 ⟨eh, rfl⟩
    subst eh
    conv => whnf
    refine ⟨⟨_, Cell.mk gn rfl, rfl⟩, ?_⟩
    conv => whnf
    refine ⟨⟨_, Cell.mk st1.box rfl, rfl⟩, ?_⟩
    conv => whnf
    rw [wrap_i64 (x := now + waitV B M (x.2.2 + 1)) (by have := waitV_rng b1 b3 (x.2.2 + 1); omega) (by have := waitV_rng b1 b3 (x.2.2 + 1); omega)]
    have k1N := ml.get k1 (.inl (fun k => k))
    refine ⟨encM wV ms1, k1N, ?_⟩
    conv => whnf
    have em := mput_enc wV x.1 (now + waitV B M (x.2.2 + 1), x.2.2 + 1) ms1
    have hasc : AscS (rsS B M R now (S.take j) ++ (x.1, now + waitV B M (x.2.2 + 1), x.2.2 + 1) :: S.drop (j + 1)) := asc_upd st.asc _
    obtain ⟨t1, t2⟩ := st1.turn (k2.put x.1 (now + waitV B M (x.2.2 + 1), x.2.2 + 1) (sget_upd st.asc _)) hasc (fun k hk => st.rng k (by
      rw [keys_append] at hk ⊢
      exact hk))
    rw [← em] at t1 t2
    rw [er] at t1
    have na1 := NewSl.keep na1 t2 (fun i hi => by
      have := mA.next
      have : i = mi := hi
      omega)
    have no1 := NewSl.keep no1 t2 (fun i hi => by
      have := mA.next
      have : i = mi := hi
      omega)
    have mo2 := mo1.trans' t2 (fun _ _ k => k) (fun _ _ k => k)
    obtain ⟨y1, y2, y3⟩ := app1 na1 mo2 [i64 x.1] rfl
    refine ⟨_, _, y1, y2, by rw [show (T.at_ 3).bytes = 8 from rfl]; omega, by omega, fun pa2 hY hs hm hf => ?_⟩
    obtain ⟨na2, mo3, my⟩ := y3 pa2 hY hs hm hf
    obtain ⟨no2, dis2⟩ := app1d no1 dis my hf
    have st3 := t1.get my (fun k => by
      obtain ⟨o, k⟩ := k
      have := na1.2 g o k
      have := mA.next
      omega) (fun k => by
      obtain ⟨o, k⟩ := k
      have := na1.2 mi o k
      have := mA.next
      omega)
    have e6 : ints .i64 (agS R now (S.take j)) ++ [i64 x.1] = ints .i64 (agS R now (S.take (j + 1))) := by rw [ea, ints_append]; rfl
    have e7 : (agS R now (S.take j)).length + 1 = (agS R now (S.take (j + 1))).length := by rw [ea]; simp
    have e8 : ovS R now (S.take j) = ovS R now (S.take (j + 1)) := by rw [htk, ovS_snoc, hO]; simp
    rw [e6, e7] at na2
    rw [e8] at no2
    conv => whnf
    rw [e7, e8]
    exact ⟨_, Forget.cons rfl (Forget.cons rfl (Forget.cons rfl (Forget.cons rfl (Forget.cons rfl (Forget.cons rfl (Forget.cons rfl (Forget.nil _))))))), ⟨j + 1, _, pa2, po, hd, succ_i64 hd (by omega), na2, no2, dis2, st3, mo3, rfl⟩, mu_lt hd (by omega)⟩
  · conv => whnf
    have hF : dueF B M R now x = none := by rw [dueF, if_neg (by simpa using hb), if_neg (by simpa using hc)]
    have hA : agB R now x = false := by rw [agB, hc, Bool.and_false]
    have hO : ovB R now x = true := by rw [ovB, show decide (x.2.1 > now) = false from hb, hc]; rfl
    have ea : agS R now (S.take j) = agS R now (S.take (j + 1)) := by rw [htk, agS_snoc, hA]; simp
    have eo : ovS R now (S.take (j + 1)) = ovS R now (S.take j) ++ [x.1] := by rw [htk, ovS_snoc, hO]; simp
    have er : rsS B M R now (S.take j) ++ S.drop (j + 1) = rsS B M R now (S.take (j + 1)) ++ S.drop (j + 1) := by rw [htk, rsS_snoc, hF]; simp
    refine ⟨_, Cell.mk st1.box rfl, ?_⟩
    conv => whnf
    have k1N := ml.get k1 (.inl (fun k => k))
    refine .inl ⟨encM wV ms1, k1N, ?_⟩
    conv => whnf
    have em := mdel_enc wV x.1 ms1
    obtain ⟨t1, t2⟩ := st1.turn (k2.del x.1 (sget_del st.asc)) (asc_del st.asc) (fun k hk => st.rng k (by
      rw [keys_append, List.mem_append] at hk ⊢
      rcases hk with hk | hk
      · exact .inl hk
      · exact .inr (List.mem_cons_of_mem _ hk)))
    rw [← em] at t1 t2
    rw [er] at t1
    have na1 := NewSl.keep na1 t2 (fun i hi => by
      have := mA.next
      have : i = mi := hi
      omega)
    have no1 := NewSl.keep no1 t2 (fun i hi => by
      have := mA.next
      have : i = mi := hi
      omega)
    have mo2 := mo1.trans' t2 (fun _ _ k => k) (fun _ _ k => k)
    obtain ⟨y1, y2, y3⟩ := app1 no1 mo2 [i64 x.1] rfl
    refine ⟨_, _, y1, y2, by rw [show (T.at_ 3).bytes = 8 from rfl]; omega, by omega, fun po2 hY hs hm hf => ?_⟩
    obtain ⟨no2, mo3, my⟩ := y3 po2 hY hs hm hf
    obtain ⟨na2, dis2'⟩ := app1d na1 (fun i a b => dis i b a) my hf
    have dis2 : ∀ i, inSl pa i → inSl po2 i → False := fun i a b => dis2' i b a
    have st3 := t1.get my (fun k => by
      obtain ⟨o, k⟩ := k
      have := no1.2 g o k
      have := mA.next
      omega) (fun k => by
      obtain ⟨o, k⟩ := k
      have := no1.2 mi o k
      have := mA.next
      omega)
    have e6 : ints .i64 (ovS R now (S.take j)) ++ [i64 x.1] = ints .i64 (ovS R now (S.take (j + 1))) := by rw [eo, ints_append]; rfl
    have e7 : (ovS R now (S.take j)).length + 1 = (ovS R now (S.take (j + 1))).length := by rw [eo]; simp
    rw [e6, e7] at no2
    rw [ea] at na2
    conv => whnf
    rw [e7, ea]
    exact ⟨_, Forget.cons rfl (Forget.cons rfl (Forget.cons rfl (Forget.cons rfl (Forget.cons rfl (Forget.cons rfl (Forget.cons rfl (Forget.nil _))))))), ⟨j + 1, _, pa, po2, hd, succ_i64 hd (by omega), na2, no2, dis2, st3, mo3, rfl⟩, mu_lt hd (by omega)⟩
theorem TSt.ro {h : H} {g mi : Nat} {B M R : Int} {S : List Wt} (s : TSt h g mi B M R S) {i : Nat} (hg : g ≠ i) (hm : mi ≠ i) : TSt (h.ro i) g mi B M R S := by
  obtain ⟨ms, h1, h2⟩ := s.map
  exact ⟨by rw [H.ro_ne _ hg, s.box], ⟨ms, by rw [H.ro_ne _ hm, h1], h2⟩, s.asc, s.rng, s.sep⟩
def DueR (h : H) (g mi : Nat) (B M R : Int) (ag ov : List Int) (S' : List Wt) (r : V) (h' : H) : Prop :=
  ∃ qa qo, r = .tup [.sl qa ag.length, .sl qo ov.length] ∧ RoSl h' qa ag.length 1 (ints .i64 ag) ∧ RoSl h' qo ov.length 1 (ints .i64 ov) ∧ TSt h' g mi B M R S' ∧ Ab.Mod (one mi) h h'
theorem due24r {h : H} {g mi : Nat} {B M R : Int} {S : List Wt} (s : TSt h g mi B M R S) (ok : okT B M R = true) (hS : S.length ≤ 100000) (hN : ∀ x ∈ S, 0 ≤ x.2.2) {now : Int} (hn0 : -1000000000 ≤ now) (hn1 : now ≤ 1000000000)
    (ag ov : List Int) (S' : List Wt) (ha : agS R now S = ag) (ho : ovS R now S = ov) (hr : rsS B M R now S = S') :
    ACalls Try.prog 87 [.ptr (some (g, 0)), i64 now] h (DueR h g mi B M R ag ov S') := by
  subst ha ho hr
  have hlt := s.lt
  refine ACalls.ro (Q := fun r h' => ∃ qa qo, r = .tup [.sl qa (agS R now S).length, .sl qo (ovS R now S).length] ∧ RoSl h' qa (agS R now S).length 1 (ints .i64 (agS R now S)) ∧ (SlIs h' qo (ovS R now S).length false 1 (ints .i64 (ovS R now S)) ∧ ∀ i o, qo = some (i, o) → h.next ≤ i) ∧ TSt h' g mi B M R (rsS B M R now S) ∧ Ab.Mod (one mi) h h') ?_ ?_
  · refine (due24 s ok hS hN hn0 hn1).ro ?_
    rintro r h' ⟨qa, qo, rfl, na, no, st, m⟩
    obtain ⟨i, h1, h2, h3⟩ := na.freeze m
    exact ⟨i, qa, qo, rfl, h2, ⟨SlIs.ro_weak no.1.weak i, no.2⟩, st.ro (by omega) (by omega), h3⟩
  · rintro r h' ⟨qa, qo, rfl, na, ⟨no, hno⟩, st, m⟩
    obtain ⟨i, h1, h2⟩ := SlIs.freeze no
    have hi : h.next ≤ i := by
      rcases h1 with ⟨o, h1⟩ | h1
      · exact hno i o h1
      · exact Nat.le_trans m.next h1
    exact ⟨i, qa, qo, rfl, na.ro i, h2, st.ro (by omega) (by omega), m.ro_new hi⟩
end Go.Proofs.Ytoljllfbabahpaa
