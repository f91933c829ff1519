/- Timers: what lies in memory; how long one waits; who is begun, who is stopped. -/
import Derived.Test.YtpefdmidfllhoaaQ15
import Derived.Test.YtpefdmidfllhoaaQ20
set_option linter.unusedVariables false
namespace Go.Proofs.Ytpefdmidfllhoaa
open Go Go.Ab
theorem mget_enc {β : Type} (f : β → V) (n : Int) : ∀ ms : List (Int × β), mget (encM f ms) n = (sget ms n).map f
  | [] => rfl
  | p :: ms => by
    have e : encM f (p :: ms) = (p.1, f p.2) :: encM f ms := rfl
    rw [e, sget_cons]
    have hc : mget ((p.1, f p.2) :: encM f ms) n = if p.1 = n then some (f p.2) else mget (encM f ms) n := by
      by_cases h : p.1 = n
      · rw [if_pos h]
        simp [mget, h]
      · rw [if_neg h]
        simp [mget, h]
    rw [hc, mget_enc f n ms]
    by_cases h : p.1 = n
    · rw [if_pos h, if_pos h]
      rfl
    · rw [if_neg h, if_neg h]
theorem mput_enc {β : Type} (f : β → V) (n : Int) (v : β) : ∀ ms : List (Int × β), mput (encM f ms) n (f v) = encM f (sput ms n v)
  | [] => rfl
  | p :: ms => by
    have e : encM f (p :: ms) = (p.1, f p.2) :: encM f ms := rfl
    rw [e, mput, sput]
    by_cases h : p.1 = n
    · rw [if_pos h, if_pos h]
      rfl
    · rw [if_neg h, if_neg h, mput_enc f n v ms]
      rfl
theorem mdel_enc {β : Type} (f : β → V) (n : Int) : ∀ ms : List (Int × β), mdel (encM f ms) n = encM f (sdel ms n)
  | [] => rfl
  | p :: ms => by
    have e : encM f (p :: ms) = (p.1, f p.2) :: encM f ms := rfl
    rw [e, mdel, sdel]
    by_cases h : p.1 = n
    · rw [if_pos h, if_pos h]
    · rw [if_neg h, if_neg h, mdel_enc f n ms]
      rfl
/-- one's wait: till when, how many tries -/
def wV (x : Int × Int) : V := .agg [i64 x.1, i64 x.2]
abbrev Wt := Int × Int × Int
def inI (k : Int) : Prop := IntKind.i64.min ≤ k ∧ k ≤ IntKind.i64.max
structure TSt (h : H) (g mi : Nat) (B M R : Int) (S : List Wt) : Prop where
  box : h.obj g = some (.row true 4 [i64 B, i64 M, i64 R, .mp (some mi)])
  map : ∃ ms, h.obj mi = some (.map true (mpE .i64 (encM wV ms))) ∧ Same ms S
  asc : AscS S
  rng : ∀ k ∈ keys S, inI k
  sep : mi ≠ g
theorem TSt.get {Z : Nat → Prop} {h h' : H} {g mi : Nat} {B M R : Int} {S : List Wt} (s : TSt h g mi B M R S) (m : Ab.Mod Z h h') (hg : ¬ Z g) (hm : ¬ Z mi) : TSt h' g mi B M R S := by
  obtain ⟨ms, h1, h2⟩ := s.map
  exact ⟨m.get s.box (.inl hg), ⟨ms, m.get h1 (.inl hm), h2⟩, s.asc, s.rng, s.sep⟩
theorem TSt.old {h h' : H} {g mi : Nat} {B M R : Int} {S : List Wt} (s : TSt h g mi B M R S) (m : Ab.Mod none_ h h') : TSt h' g mi B M R S := s.get m (fun k => k) (fun k => k)
theorem TSt.lt {h : H} {g mi : Nat} {B M R : Int} {S : List Wt} (s : TSt h g mi B M R S) : g < h.next ∧ mi < h.next := by
  obtain ⟨ms, h1, _⟩ := s.map
  exact ⟨h.lt _ _ s.box, h.lt _ _ h1⟩
/-- the map turns -/
theorem TSt.turn {h : H} {g mi : Nat} {B M R : Int} {S S' : List Wt} (s : TSt h g mi B M R S) {ms' : List Wt} (hs : Same ms' S') (ha : AscS S') (hr : ∀ k ∈ keys S', inI k) :
    TSt (h.set mi (.map true (mpE .i64 (encM wV ms')))) g mi B M R S' ∧ Ab.Mod (one mi) h (h.set mi (.map true (mpE .i64 (encM wV ms')))) := by
  obtain ⟨ms, h1, _⟩ := s.map
  exact ⟨⟨by rw [H.obj_set_ne h _ s.sep.symm, s.box], ⟨ms', H.obj_set_same h1, hs⟩, ha, hr, s.sep⟩, Mod.set rfl h1 rfl⟩
def waitW (M : Int) : Int → Nat → Int
  | B, 0 => B
  | B, n + 1 => if B < M then waitW M (2 * B) n else B
def waitV (B M n : Int) : Int := if M < waitW M B n.toNat then M else waitW M B n.toNat
theorem waitW_stop {M B : Int} (h : ¬ B < M) (n : Nat) : waitW M B n = B := by
  cases n with
  | zero => rfl
  | succ n => rw [waitW, if_neg h]
theorem wait37 {h : H} {g mi : Nat} {B M R : Int} (hb : h.obj g = some (.row true 4 [i64 B, i64 M, i64 R, .mp (some mi)])) (h1 : 1 ≤ B) (h2 : B ≤ M) (h3 : M ≤ 1000) {n : Int} (hn : n ≤ 9223372036854775807) :
    ACalls Try.prog 37 [.ptr (some (g, 0)), i64 n] h (fun r h' => h' = h ∧ r = i64 (waitV B M n)) := by
  refine call_ Try.func37 rfl rfl (by kernel_rfl) ?_
  conv => whnf
  refine ⟨_, Cell.mk hb rfl, ?_⟩
  conv => whnf
  refine ⟨fun env hh => ∃ (w z : Int), hh = h ∧ 1 ≤ w ∧ w ≤ 2000 ∧ waitW M w z.toNat = waitW M B n.toNat ∧ z ≤ n ∧ (z = n ∨ 0 ≤ z) ∧ env = [(1, i64 z), (5, i64 w), (0, .ptr (some (g, 0)))],
    fun env _ => match get env 1 with
      | .int _ z => z.toNat
      | _ => 0, ⟨_, Forget.cons rfl (Forget.cons rfl (Forget.cons rfl (Forget.nil _))), B, n, rfl, h1, by omega, rfl, Int.le_refl _, .inl rfl, rfl⟩, ?_⟩
  rintro _ hh ⟨w, z, eh, w1, w2, w3, z1, z2, rfl⟩
  subst eh
  conv => whnf
  have fin : waitW M w z.toNat = w → ∀ x, x = w → (if M < x then M else x) = waitV B M n := fun e x hx => by
    rw [waitV, ← w3, e, hx]
  refine br_mk (fun ha => ?_) (fun ha => ?_)
  · conv => whnf
    have ha : 0 < z := by simpa using ha
    refine ⟨_, Cell.mk hb rfl, ?_⟩
    conv => whnf
    refine br_mk (fun hc => ?_) (fun hc => ?_)
    · conv => whnf
      have hc : w < M := by simpa using hc
      have e1 : IntKind.i64.wrap (w * 2) = 2 * w := by rw [wrap_i64 (by omega) (by omega)]; omega
      have e2 : z.toNat = (z - 1).toNat + 1 := by omega
      have e3 : IntKind.i64.wrap (z - 1) = z - 1 := wrap_i64 (by omega) (by omega)
      rw [e1, e3]
      refine ⟨_, Forget.cons rfl (Forget.cons rfl (Forget.cons rfl (Forget.nil _))), ⟨2 * w, z - 1, rfl, by omega, by omega, ?_, by omega, .inr (by omega), rfl⟩, ?_⟩
      · rw [← w3, e2, waitW, if_pos hc]
      · show (z - 1).toNat < z.toNat
        omega
    · conv => whnf
      have hc : ¬ w < M := by simpa using hc
      refine ⟨_, Cell.mk hb rfl, ?_⟩
      conv => whnf
      exact ⟨rfl, congrArg i64 (fin (waitW_stop hc _) w rfl)⟩
  · conv => whnf
    have ha : ¬ 0 < z := by simpa using ha
    refine ⟨_, Cell.mk hb rfl, ?_⟩
    conv => whnf
    refine ⟨rfl, congrArg i64 (fin ?_ w rfl)⟩
    rw [show z.toNat = 0 by omega]
    rfl
def okT (B M R : Int) : Bool := decide (1 ≤ B) && decide (B ≤ 1000) && decide (B ≤ M) && decide (M ≤ 1000) && decide (0 ≤ R) && decide (R ≤ 20)
theorem okT_iff {B M R : Int} : okT B M R = true ↔ 1 ≤ B ∧ B ≤ 1000 ∧ B ≤ M ∧ M ≤ 1000 ∧ 0 ≤ R ∧ R ≤ 20 := by
  simp [okT, and_assoc]
def NewTQ (B M R : Int) (h : H) (r : V) (h' : H) : Prop :=
  (okT B M R = false ∧ r = .tup [.ptr none, i64 1] ∧ h' = h) ∨ (okT B M R = true ∧ ∃ g mi, r = .tup [.ptr (some (g, 0)), i64 0] ∧ TSt h' g mi B M R [] ∧ h.next ≤ g ∧ h.next ≤ mi ∧ Ab.Mod none_ h h')
theorem new22 (h : H) (B M R : Int) : ACalls Try.prog 22 [i64 B, i64 M, i64 R] h (fun r h' => NewTQ B M R h r h') := by
  refine call_ Try.func22 rfl rfl (by kernel_rfl) ?_
  conv => whnf
  have no : ¬ (1 ≤ B ∧ B ≤ 1000 ∧ B ≤ M ∧ M ≤ 1000 ∧ 0 ≤ R ∧ R ≤ 20) → NewTQ B M R h (.tup [.ptr none, i64 1]) h := fun hn => .inl ⟨by
    cases hh : okT B M R with
    | false => rfl
    | true => exact absurd (okT_iff.1 hh) hn, rfl, rfl⟩
  refine br_mk (fun ha => ?_) (fun ha => ?_)
  · conv => whnf
    have ha : B < 1 := by simpa using ha
    exact no (by omega)
  conv => whnf
  have ha : ¬ B < 1 := by simpa using ha
  refine br_mk (fun hb => ?_) (fun hb => ?_)
  · conv => whnf
    have hb : B > 1000 := by simpa using hb
    exact no (by omega)
  conv => whnf
  have hb : ¬ B > 1000 := by simpa using hb
  refine br_mk (fun hc => ?_) (fun hc => ?_)
  · conv => whnf
    have hc : M < B := by simpa using hc
    exact no (by omega)
  conv => whnf
  have hc : ¬ M < B := by simpa using hc
  refine br_mk (fun hd => ?_) (fun hd => ?_)
  · conv => whnf
    have hd : M > 1000 := by simpa using hd
    exact no (by omega)
  conv => whnf
  have hd : ¬ M > 1000 := by simpa using hd
  refine br_mk (fun he => ?_) (fun he => ?_)
  · conv => whnf
    have he : R < 0 := by simpa using he
    exact no (by omega)
  conv => whnf
  have he : ¬ R < 0 := by simpa using he
  refine br_mk (fun hf => ?_) (fun hf => ?_)
  · conv => whnf
    have hf : R > 20 := by simpa using hf
    exact no (by omega)
  conv => whnf
  have hf : ¬ R > 20 := by simpa using hf
  refine .inr ⟨okT_iff.2 (by omega), h.next + 1, h.next, rfl, ⟨H.obj_push_new _ _, ⟨[], H.obj_push _ (H.obj_push_new _ _), List.Pairwise.nil, fun _ => rfl⟩, List.Pairwise.nil, (fun k hk => absurd hk (by simp [keys])), by omega⟩, by omega, Nat.le_refl _, mod_none (Mod.push none_ h _) (Mod.push none_ _ _)⟩
theorem newT_yes {B M R : Int} {h h' : H} {r : V} (q : NewTQ B M R h r h') (ok : okT B M R = true) : ∃ g mi, r = .tup [.ptr (some (g, 0)), i64 0] ∧ TSt h' g mi B M R [] ∧ h.next ≤ g ∧ h.next ≤ mi ∧ Ab.Mod none_ h h' := by
  rcases q with ⟨e, _⟩ | ⟨_, q⟩
  · rw [ok] at e
    cases e
  · exact q
theorem newT_no {B M R : Int} {h h' : H} {r : V} (q : NewTQ B M R h r h') (ok : okT B M R = false) : r = .tup [.ptr none, i64 1] ∧ h' = h := by
  rcases q with ⟨_, q⟩ | ⟨e, _⟩
  · exact q
  · rw [ok] at e
    cases e
theorem insS_rng {S : List Wt} (hr : ∀ k ∈ keys S, inI k) {id : Int} (hid : inI id) (v : Int × Int) : ∀ k ∈ keys (insS S id v), inI k := fun k hk => by
  obtain ⟨p, hp, rfl⟩ := List.mem_map.1 hk
  rw [insS, List.mem_append, List.mem_cons] at hp
  rcases hp with hp | rfl | hp
  · exact hr _ (List.mem_map.2 ⟨p, (List.mem_filter.1 hp).1, rfl⟩)
  · exact hid
  · exact hr _ (List.mem_map.2 ⟨p, (List.mem_filter.1 hp).1, rfl⟩)
theorem waitW_ge {M : Int} : ∀ (n : Nat) {B : Int}, 1 ≤ B → B ≤ waitW M B n
  | 0, B, _ => Int.le_refl _
  | n + 1, B, h => by
    rw [waitW]
    split
    · have := waitW_ge (M := M) n (B := 2 * B) (by omega)
      omega
    · exact Int.le_refl _
theorem waitV_rng {B M : Int} (h1 : 1 ≤ B) (h2 : B ≤ M) (n : Int) : B ≤ waitV B M n ∧ waitV B M n ≤ M := by
  have := waitW_ge (M := M) n.toNat h1
  unfold waitV
  split <;> omega
theorem start23 {h : H} {g mi : Nat} {B M R : Int} {S : List Wt} (s : TSt h g mi B M R S) (ok : okT B M R = true) {id now : Int} (hid : inI id) (h0 : -1000000000 ≤ now) (h1 : now ≤ 1000000000) :
    ACalls Try.prog 23 [.ptr (some (g, 0)), i64 id, i64 now] h (fun r h' => TSt h' g mi B M R (insS S id (now + waitV B M 0, 0)) ∧ Ab.Mod (one mi) h h') := by
  obtain ⟨b1, b2, b3, b4, b5, b6⟩ := okT_iff.1 ok
  obtain ⟨w1, w2⟩ := waitV_rng b1 b3 0
  refine call_ Try.func23 rfl rfl (by kernel_rfl) ?_
  conv => whnf
  refine ⟨[0, 1, 2, 3, 4, 5, 6, 7, 8, 9, 10], [0, 1, 3, 7, 0, 0, 0, 64, 224, 480, 1023], by kernel_rfl, ?_⟩
  conv => whnf
  refine ⟨_, Cell.mk s.box rfl, ?_⟩
  conv => whnf
  refine (wait37 s.box b1 b3 b4 (n := 0) (by decide)).mono ?_
  rintro _ h2 ⟨eh, rfl⟩
  subst eh
  conv => whnf
  refine ⟨⟨_, Cell.mk s.box rfl, rfl⟩, ?_⟩
  conv => whnf
  rw [wrap_i64 (x := now + waitV B M 0) (by omega) (by omega)]
  obtain ⟨ms, g1, g2⟩ := s.map
  refine ⟨encM wV ms, g1, ?_⟩
  conv => whnf
  have e1 := mput_enc wV id (now + waitV B M 0, 0) ms
  have key := s.turn (g2.put id (now + waitV B M 0, 0) (insS_get s.asc id _)) (insS_asc s.asc id _) (insS_rng s.rng hid _)
  rw [← e1] at key
  exact key
theorem delS_rng {S : List Wt} (hr : ∀ k ∈ keys S, inI k) (id : Int) : ∀ k ∈ keys (delS S id), inI k := fun k hk => by
  obtain ⟨p, hp, rfl⟩ := List.mem_map.1 hk
  exact hr _ (List.mem_map.2 ⟨p, (List.mem_filter.1 hp).1, rfl⟩)
theorem stop40 {h : H} {g mi : Nat} {B M R : Int} {S : List Wt} (s : TSt h g mi B M R S) {q : Option (Nat × Nat)} {m : Nat} {E : List Int} (nm : SlIs h q m false 1 (ints .i64 E)) (hq : ∀ i o, q = some (i, o) → i ≠ mi) (hm : m ≤ 1000000) :
    ACalls Try.prog 40 [.ptr (some (g, 0)), .sl q m] h (fun r h' => TSt h' g mi B M R (E.foldl delS S) ∧ Ab.Mod (one mi) h h') := by
  have hl := slo_len nm
  refine call_ Try.func40 rfl rfl (by kernel_rfl) ?_
  conv => whnf
  refine ⟨fun env hh => ∃ (j : Nat) (z : Int), j ≤ m ∧ z = j ∧ TSt hh g mi B M R ((E.take j).foldl delS S) ∧ Ab.Mod (one mi) h hh ∧ env = [(10, i64 z), (9, i64 m), (8, .sl q m), (0, .ptr (some (g, 0)))],
    fun env _ => match get env 10 with
      | .int _ z => (m - z).toNat
      | _ => 0, ⟨_, Forget.cons rfl (Forget.cons rfl (Forget.cons rfl (Forget.cons rfl (Forget.nil _)))), 0, _, Nat.zero_le _, rfl, s, ⟨Nat.le_refl _, fun _ _ _ => rfl⟩, rfl⟩, ?_⟩
  rintro _ hh ⟨j, z, hj, rfl, st, mo, rfl⟩
  conv => whnf
  refine br_mk (fun hd => ?_) (fun hd => ?_)
  · conv => whnf
    have hd : j < m := by simpa using hd
    obtain ⟨i1, c1, f1, f2⟩ := slo_get (nm.get mo (fun i o e => .inl (hq i o e))) hd
    refine ⟨i1, c1, j, f1, rfl, hd, ?_⟩
    conv => whnf
    refine ⟨_, f2, ?_⟩
    conv => whnf
    refine ⟨_, Cell.mk st.box rfl, ?_⟩
    conv => whnf
    obtain ⟨ms, g1, g2⟩ := st.map
    refine ⟨encM wV ms, g1, ?_⟩
    conv => whnf
    have e1 := mdel_enc wV (E.getD j 0) ms
    obtain ⟨k1, k2⟩ := st.turn (g2.del (E.getD j 0) (delS_get st.asc (E.getD j 0))) (delS_asc st.asc (E.getD j 0)) (delS_rng st.rng (E.getD j 0))
    rw [← e1] at k1 k2
    have e2 : (E.take (j + 1)).foldl delS S = delS ((E.take j).foldl delS S) (E.getD j 0) := by
      rw [take_snoc_ (by omega), List.foldl_append]
      rfl
    rw [← e2] at k1
    exact ⟨_, Forget.cons rfl (Forget.cons rfl (Forget.cons rfl (Forget.cons rfl (Forget.nil _)))), ⟨j + 1, _, hd, succ_i64 hd (by omega), k1, mo.trans' k2 (fun _ _ k => k) (fun _ _ k => k), rfl⟩, mu_lt hd hm⟩
  · conv => whnf
    have hd : ¬ j < m := by simpa using hd
    rw [List.take_of_length_le (by omega)] at st
    exact ⟨st, mo⟩
theorem len25 {h : H} {g mi : Nat} {B M R : Int} {S : List Wt} (s : TSt h g mi B M R S) : ACalls Try.prog 25 [.ptr (some (g, 0))] h (fun r h' => h' = h ∧ r = i64 S.length) := by
  refine call_ Try.func25 rfl rfl (by kernel_rfl) ?_
  conv => whnf
  refine ⟨_, Cell.mk s.box rfl, ?_⟩
  conv => whnf
  obtain ⟨ms, g1, g2⟩ := s.map
  refine ⟨true, _, g1, ?_⟩
  conv => whnf
  refine ⟨rfl, ?_⟩
  have : (mpE .i64 (encM wV ms)).length = S.length := by
    rw [mpE, List.length_map, encM_length, g2.length s.asc]
  rw [this]
theorem len25n (h : H) : ACalls Try.prog 25 [.ptr none] h (fun r h' => h' = h ∧ r = i64 0) := by
  refine call_ Try.func25 rfl rfl (by kernel_rfl) ?_
  conv => whnf
  exact ⟨rfl, rfl⟩
theorem wait37n (h : H) (n : Int) : ACalls Try.prog 37 [.ptr none, i64 n] h (fun r h' => h' = h ∧ r = i64 0) := by
  refine call_ Try.func37 rfl rfl (by kernel_rfl) ?_
  conv => whnf
  exact ⟨rfl, rfl⟩
end Go.Proofs.Ytpefdmidfllhoaa
