/- Senders: the document's. -/
import Derived.Test.YtoljllfbabahpaaU6
import Derived.Test.YtoljllfbabahpaaU14
set_option linter.unusedVariables false
namespace Go.Proofs.Ytoljllfbabahpaa
open Go Go.Ab
structure RSd (h : H) (g tg : Nat) (W N : Int) (ov : Bool) (S : Ent) (B M R : Int) (TS : List Wt) : Prop where
  box : ∃ p, h.obj g = some (.row true 5 [.ptr (some (tg, 0)), i64 W, i64 N, .sl p S.length, .bool ov]) ∧ RoSl h p S.length 2 (S.flatMap eC)
  ent : ∀ x ∈ S, bOk h x.2
  tm : RSt h tg B M R TS
  sep : tg ≠ g
theorem RSd.lt {h : H} {g tg : Nat} {W N : Int} {ov : Bool} {S : Ent} {B M R : Int} {TS : List Wt} (s : RSd h g tg W N ov S B M R TS) : g < h.next ∧ tg < h.next := by
  obtain ⟨⟨p, h1, _⟩, _, t, _⟩ := s
  exact ⟨h.lt _ _ h1, t.lt⟩
theorem RSd.get {Z : Nat → Prop} {h h' : H} {g tg : Nat} {W N : Int} {ov : Bool} {S : Ent} {B M R : Int} {TS : List Wt} (s : RSd h g tg W N ov S B M R TS) (m : Ab.Mod Z h h') (hg : ¬ Z g) (ht : ¬ Z tg) : RSd h' g tg W N ov S B M R TS := by
  obtain ⟨⟨p, h1, h2⟩, h3, t, e⟩ := s
  exact ⟨⟨p, m.get h1 (.inl hg), h2.get m⟩, fun x hx => (h3 x hx).get m, t.get m ht, e⟩
theorem RSd.ro {h : H} {g tg : Nat} {W N : Int} {ov : Bool} {S : Ent} {B M R : Int} {TS : List Wt} (s : RSd h g tg W N ov S B M R TS) {i : Nat} (hg : g ≠ i) (ht : tg ≠ i) : RSd (h.ro i) g tg W N ov S B M R TS := by
  obtain ⟨⟨p, h1, h2⟩, h3, t, e⟩ := s
  exact ⟨⟨p, by rw [H.ro_ne _ hg, h1], h2.ro i⟩, fun x hx => (h3 x hx).ro i, t.ro ht, e⟩
def NewRS (W : Int) (h : H) (tg : Nat) (B M R : Int) (TS : List Wt) (r : V) (h' : H) : Prop :=
  (okW W = false ∧ r = .ptr none ∧ h' = h) ∨ (okW W = true ∧ ∃ g, r = .ptr (some (g, 0)) ∧ RSd h' g tg W 0 false [] B M R TS ∧ h.next ≤ g ∧ Ab.Mod none_ h h')
theorem rNew {h : H} {tg : Nat} {B M R : Int} {TS : List Wt} (t : RSt h tg B M R TS) (W : Int) : ACalls Try.prog 42 [i64 W, .ptr (some (tg, 0))] h (fun r h' => NewRS W h tg B M R TS r h') := by
  have hlt := t.lt
  refine call_ Try.func42 rfl rfl (by kernel_rfl) ?_
  conv => whnf
  refine (within68 h W 1 16).mono ?_
  rintro _ h1 ⟨eh, rfl⟩
  subst eh
  conv => whnf
  refine br_mk (fun ha => ?_) (fun ha => ?_)
  · conv => whnf
    have ha : inR W 1 16 = false := by simpa using ha
    exact .inl ⟨ha, rfl, rfl⟩
  conv => whnf
  have ha : inR W 1 16 = true := by simpa using ha
  have mP := Mod.push none_ h1 (.row true 5 [.ptr (some (tg, 0)), i64 W, i64 0, .sl none 0, .bool false])
  exact .inr ⟨ha, _, rfl, ⟨⟨none, H.obj_push_new _ _, RoSl.nil _ _ _⟩, (fun x hx => by cases hx), t.get mP (fun k => k), by omega⟩, Nat.le_refl _, mP⟩
theorem rRoom {h : H} {g tg : Nat} {W N : Int} {ov : Bool} {S : Ent} {B M R : Int} {TS : List Wt} (s : RSd h g tg W N ov S B M R TS) (ok : okW W = true) (hS : S.length ≤ 100000) : ACalls Try.prog 53 [.ptr (some (g, 0))] h (fun r h' => h' = h ∧ r = i64 (roomV W ov S.length)) := by
  have hW : 1 ≤ W ∧ W ≤ 16 := by simpa [okW] using ok
  obtain ⟨⟨p, hb, hr⟩, _, _, _⟩ := s
  refine call_ Try.func53 rfl rfl (by kernel_rfl) ?_
  conv => whnf
  refine ⟨_, Cell.mk hb rfl, ?_⟩
  conv => whnf
  cases ov with
  | true =>
    conv => whnf
    exact ⟨rfl, rfl⟩
  | false =>
  conv => whnf
  refine ⟨[0, 1, 2, 3, 4, 5, 6, 7, 8, 9, 10], [0, 1, 3, 7, 0, 16, 48, 112, 240, 511, 1023], by kernel_rfl, ?_⟩
  conv => whnf
  refine ⟨_, Cell.mk hb rfl, ?_⟩
  conv => whnf
  refine ⟨_, Cell.mk hb rfl, ?_⟩
  conv => whnf
  refine ⟨rfl, ?_⟩
  rw [wrap_i64 (by omega) (by omega)]
  rfl
theorem rBody {h : H} {g tg : Nat} {W N : Int} {ov : Bool} {S : Ent} {B M R : Int} {TS : List Wt} (s : RSd h g tg W N ov S B M R TS) (ha : AscS S) (hS : S.length ≤ 100000) (seq : Int) :
    ACalls Try.prog 51 [.ptr (some (g, 0)), i64 seq] h (fun r h' => h' = h ∧ ∃ q, r = .tup [.sl q (bodyV (encM Prod.snd S) seq).length, .bool (sget (encM Prod.snd S) seq).isSome] ∧ RoSl h q (bodyV (encM Prod.snd S) seq).length 1 (ints .u8 (bodyV (encM Prod.snd S) seq))) := by
  have hC : sget (encM Prod.snd S) seq = (sget S seq).map Prod.snd := encM_get Prod.snd seq S
  unfold bodyV
  rw [hC]
  obtain ⟨⟨p, hb, hr⟩, hent, _, _⟩ := s
  refine call_ Try.func51 rfl rfl (by kernel_rfl) ?_
  conv => whnf
  refine ⟨fun env hh => ∃ (j : Nat) (z : Int), j ≤ S.length ∧ z = j ∧ hh = h ∧ (∀ k (hk : k < S.length), k < j → S[k].1 ≠ seq) ∧ env = [(6, i64 z), (0, .ptr (some (g, 0))), (1, i64 seq)],
    fun env _ => match get env 6 with
      | .int _ z => (S.length - z).toNat
      | _ => 0, ⟨_, Forget.cons rfl (Forget.cons rfl (Forget.cons rfl (Forget.nil _))), 0, _, Nat.zero_le _, rfl, rfl, fun k _ hk => absurd hk (Nat.not_lt_zero k), rfl⟩, ?_⟩
  rintro _ hh ⟨j, z, hj, rfl, eh, hall, rfl⟩
  subst eh
  conv => whnf
  refine ⟨_, Cell.mk hb rfl, ?_⟩
  conv => whnf
  refine br_mk (fun hd => ?_) (fun hd => ?_)
  · conv => whnf
    have hd : j < S.length := by simpa using hd
    obtain ⟨i1, c1, f1, f2, f3⟩ := sls_get eC_len hr.is rfl hd
    have v0 := f3 0 (i64 S[j].1) rfl
    have v1 := f3 1 (slV S[j].2) rfl
    refine ⟨_, Cell.mk hb rfl, ?_⟩
    conv => whnf
    refine ⟨i1, c1, j, f1, rfl, hd, ?_⟩
    conv => whnf
    refine ⟨_, v0, ?_⟩
    conv => whnf
    refine br_mk (fun he => ?_) (fun he => ?_)
    · conv => whnf
      have he : S[j].1 = seq := by simpa using he
      refine ⟨_, Cell.mk hb rfl, ?_⟩
      conv => whnf
      refine ⟨i1, c1, j, f1, rfl, hd, ?_⟩
      conv => whnf
      refine ⟨_, v1, ?_⟩
      conv => whnf
      have hz : sget S seq = some S[j].2 := by
        rw [← he]
        exact (sget_mem ha.nodup).2 (List.getElem_mem hd)
      rw [hz]
      exact ⟨rfl, S[j].2.1, rfl, hent _ (List.getElem_mem hd)⟩
    · conv => whnf
      have he : S[j].1 ≠ seq := by
        intro e
        rw [e] at he
        simp at he
      refine ⟨_, Forget.cons rfl (Forget.cons rfl (Forget.cons rfl (Forget.nil _))), ⟨j + 1, _, hd, succ_i64 hd (by omega), rfl, fun k hk hkj => ?_, rfl⟩, mu_lt hd (by omega)⟩
      by_cases e : k = j
      · subst e; exact he
      · exact hall k hk (by omega)
  · conv => whnf
    have hd : ¬ j < S.length := by simpa using hd
    have hz : sget S seq = none := sget_none.2 (fun hm => by
      obtain ⟨x, hx, e⟩ := List.mem_map.1 hm
      obtain ⟨k, hk, rfl⟩ := List.getElem_of_mem hx
      exact hall k hk (by omega) e)
    rw [hz]
    exact ⟨rfl, none, rfl, RoSl.nil _ _ _⟩
def RSendQ (h : H) (g tg : Nat) (W N : Int) (ov : Bool) (S : Ent) (B M R : Int) (TS : List Wt) (now : Int) (m : Nat) (body : List Int) (r : V) (h' : H) : Prop :=
  (ov = true ∧ r = .tup [i64 0, i64 6] ∧ h' = h) ∨ (ov = false ∧ (S.length : Int) ≥ W ∧ r = .tup [i64 0, i64 5] ∧ h' = h) ∨
  (ov = false ∧ ¬ (S.length : Int) ≥ W ∧ r = .tup [i64 N, i64 0] ∧ ∃ pB pC, h'.obj g = some (.row true 5 [.ptr (some (tg, 0)), i64 W, i64 (N + 1), .sl pC (S.length + 1), .bool false]) ∧ NewSl h h' pC (S.length + 1) 2 ((S ++ [(N, (pB, body))]).flatMap eC) ∧ NewSl h h' pB m 1 (ints .u8 body) ∧
    RSt h' tg B M R (insS TS N (now + waitV B M 0, 0)) ∧ Ab.Mod (two g tg) h h')
set_option maxHeartbeats 2000000 in
theorem rSend {hh : H} {g tg : Nat} {W N : Int} {ov : Bool} {S : Ent} {B M R : Int} {TS : List Wt} (s : RSd hh g tg W N ov S B M R TS) (hasc : AscS TS) (okt : okT B M R = true) (hS : S.length ≤ 100000) (hTS : TS.length ≤ 100000) (hN0 : 0 ≤ N) (hN1 : N ≤ 100000000) {now : Int} (hn0 : -1000000000 ≤ now) (hn1 : now ≤ 1000000000) {q : Option (Nat × Nat)} {m : Nat} {body : List Int} (nm : SlIs hh q m false 1 (ints .u8 body)) (hm : m ≤ 100000) :
    ACalls Try.prog 45 [.ptr (some (g, 0)), i64 now, .sl q m] hh (RSendQ hh g tg W N ov S B M R TS now m body) := by
  have hlt := s.lt
  have hml := slo_len nm
  obtain ⟨⟨p, hb, hr⟩, hent, htm, hsep⟩ := s
  refine call_ Try.func45 rfl rfl (by kernel_rfl) ?_
  conv => whnf
  refine ⟨_, Cell.mk hb rfl, ?_⟩
  conv => whnf
  cases ov with
  | true =>
    conv => whnf
    exact .inl ⟨rfl, rfl, rfl⟩
  | false =>
  conv => whnf
  refine ⟨[0, 1, 2, 3, 4, 5, 6, 7, 8, 9], [0, 1, 3, 7, 15, 0, 32, 96, 224, 511], by kernel_rfl, ?_⟩
  conv => whnf
  refine ⟨_, Cell.mk hb rfl, ?_⟩
  conv => whnf
  refine ⟨_, Cell.mk hb rfl, ?_⟩
  conv => whnf
  refine br_mk (fun ha => ?_) (fun ha => ?_)
  · conv => whnf
    exact .inr (.inl ⟨rfl, by simpa using ha, rfl, rfl⟩)
  have ha : ¬ (S.length : Int) ≥ W := by simpa using ha
  conv => whnf
  refine ⟨[], [1, 11], rfl, ?_, ?_⟩
  · conv => whnf
    refine ⟨[], [6, 11], rfl, ?_, ?_⟩
    · conv => whnf
      refine ⟨[0, 2, 3, 4, 5, 7, 8, 9, 10, 12, 1, 6, 11, 13, 14, 15, 16, 17, 18, 19], [0, 0, 0, 4, 12, 28, 62, 0, 128, 384, 896, 126, 0, 6270, 16382, 32766, 65534, 131071, 262143, 524287], by kernel_rfl, ?_⟩
      conv => whnf
      have mo := mod_refl none_ hh
      refine ⟨_, Cell.mk (mo.get hb (.inl (fun k => k))) rfl, ?_⟩
      conv => whnf
      refine ⟨_, Cell.mk (mo.get hb (.inl (fun k => k))) rfl, ?_⟩
      conv => whnf
      obtain ⟨nA, mo⟩ := new0 2 mo
      refine ⟨_, _, nA.1, (hr.get mo).is, by rw [show (T.at_ 177).bytes = 32 from rfl]; omega, by omega, fun pA hA hs hm hf => ?_⟩
      obtain ⟨nA, mo⟩ := appN nA mo pA hA hs hm hf
      conv => whnf
      refine ⟨⟨_, Cell.mk (mo.get hb (.inl (fun k => k))) rfl, rfl⟩, ?_⟩
      conv => whnf
      obtain ⟨nB, nA, dis, mo⟩ := new0d 1 nA mo
      have dis := dis_comm dis
      refine ⟨_, _, nB.1, SlIs.old nm mo (fun _ _ k => k), by rw [show (T.at_ 5).bytes = 1 from rfl]; omega, by omega, fun pB hB hs hm hf => ?_⟩
      obtain ⟨nB, nA, dis, mo⟩ := appD nB nA (dis_comm dis) mo hs hm hf
      have dis := dis_comm dis
      rw [Nat.zero_add, List.nil_append] at nB nA
      conv => whnf
      rw [show 0 + m = m from Nat.zero_add _]
      refine ⟨⟨_, Cell.mk (mo.get hb (.inl (fun k => k))) rfl, rfl⟩, ?_⟩
      conv => whnf
      obtain ⟨nA, nB, mo⟩ := pushD (.row true 2 [i64 N, .sl pB m]) nA nB mo
      rw [show 0 + S.length = S.length from Nat.zero_add _]
      refine ⟨_, _, nA.1, (SlIs.row (n := 1) (sz := 2) (cs := [i64 N, .sl pB m]) (H.obj_push_new _ _) rfl).weak, by rw [show (T.at_ 177).bytes = 32 from rfl]; omega, by omega, fun pC hC hs hm hf => ?_⟩
      obtain ⟨nA, nB, dis, mo⟩ := appD nA nB dis mo hs hm hf
      conv => whnf
      refine ⟨_, _, mo.get hb (.inl (fun k => k)), Nat.le_of_ble_eq_true rfl, ?_⟩
      conv => whnf
      have bx : (hC.set g (.row true 5 [.ptr (some (tg, 0)), i64 W, i64 N, .sl pC (S.length + 1), .bool false])).obj g = some (.row true 5 [.ptr (some (tg, 0)), i64 W, i64 N, .sl pC (S.length + 1), .bool false]) := H.obj_set_same (mo.get hb (.inl (fun k => k)))
      have mS : Ab.Mod (one g) hC (hC.set g (.row true 5 [.ptr (some (tg, 0)), i64 W, i64 N, .sl pC (S.length + 1), .bool false])) := Mod.set rfl (mo.get hb (.inl (fun k => k))) rfl
      have kg : ∀ i, one g i → i < hh.next := fun i hi => by
        have : i = g := hi
        omega
      have kt : ∀ i, one tg i → i < hh.next := fun i hi => by
        have : i = tg := hi
        omega
      have st := (htm.get mo (fun k => k)).get mS (by show ¬ tg = g; exact hsep)
      have nA := NewSl.keep nA mS kg
      have nB := NewSl.keep nB mS kg
      have mo : Ab.Mod (two g tg) hh _ := mo.trans' mS (fun _ _ k => k.elim) (fun _ _ k => .inl k)
      refine ⟨[0, 1, 2, 3, 4, 5, 6, 7, 8, 9], [0, 1, 3, 7, 0, 16, 48, 112, 0, 511], by kernel_rfl, ?_⟩
      conv => whnf
      refine ⟨_, Cell.mk bx rfl, ?_⟩
      conv => whnf
      refine ⟨_, Cell.mk bx rfl, ?_⟩
      conv => whnf
      refine (start39 st hasc okt hTS N hn0 hn1).mono ?_
      rintro _ h9 ⟨t9, m9⟩
      have bx9 := m9.get bx (.inl (fun k => hsep (Eq.symm k)))
      have nA := NewSl.keep nA m9 kt
      have nB := NewSl.keep nB m9 kt
      have mo := mo.trans' m9 (S2 := two g tg) (fun _ _ k => k) (fun _ _ k => .inr k)
      conv => whnf
      refine ⟨_, Cell.mk bx9 rfl, ?_⟩
      conv => whnf
      rw [wrap_i64 (x := N + 1) (by omega) (by omega)]
      refine ⟨_, _, bx9, Nat.le_of_ble_eq_true rfl, ?_⟩
      conv => whnf
      have bxA : (h9.set g (.row true 5 [.ptr (some (tg, 0)), i64 W, i64 (N + 1), .sl pC (S.length + 1), .bool false])).obj g = some (.row true 5 [.ptr (some (tg, 0)), i64 W, i64 (N + 1), .sl pC (S.length + 1), .bool false]) := H.obj_set_same bx9
      have mA : Ab.Mod (one g) h9 (h9.set g (.row true 5 [.ptr (some (tg, 0)), i64 W, i64 (N + 1), .sl pC (S.length + 1), .bool false])) := Mod.set rfl bx9 rfl
      refine ⟨_, Cell.mk bxA rfl, ?_⟩
      conv => whnf
      rw [wrap_i64 (x := N + 1 - 1) (by omega) (by omega), show N + 1 - 1 = N by omega]
      have nA := NewSl.keep nA mA kg
      have nB := NewSl.keep nB mA kg
      have ef : S.flatMap eC ++ [i64 N, .sl pB m] = (S ++ [(N, (pB, body))]).flatMap eC := by
        rw [List.flatMap_append, hml]
        simp [eC, slV]
      rw [ef] at nA
      exact .inr (.inr ⟨rfl, ha, rfl, pB, pC, bxA, nA, nB, t9.get mA (by show ¬ tg = g; exact hsep), mo.trans' mA (fun _ _ k => k) (fun _ _ k => .inl k)⟩)
    · conv => whnf
      refine ⟨[0, 2, 3, 4, 5, 7, 8, 9, 10, 12, 1, 11, 6, 13, 14, 15, 16, 17, 18, 19], [0, 0, 0, 4, 12, 28, 2110, 0, 128, 384, 896, 2, 0, 6270, 16382, 32766, 65534, 131071, 262143, 524287], by kernel_rfl, ?_⟩
      conv => whnf
      have mo := mod_refl none_ hh
      refine ⟨_, Cell.mk (mo.get hb (.inl (fun k => k))) rfl, ?_⟩
      conv => whnf
      refine ⟨_, Cell.mk (mo.get hb (.inl (fun k => k))) rfl, ?_⟩
      conv => whnf
      obtain ⟨nA, mo⟩ := new0 2 mo
      obtain ⟨nB, nA, dis, mo⟩ := new0d 1 nA mo
      have dis := dis_comm dis
      refine ⟨_, _, nA.1, (hr.get mo).is, by rw [show (T.at_ 177).bytes = 32 from rfl]; omega, by omega, fun pA hA hs hm hf => ?_⟩
      obtain ⟨nA, nB, dis, mo⟩ := appD nA nB dis mo hs hm hf
      conv => whnf
      refine ⟨⟨_, Cell.mk (mo.get hb (.inl (fun k => k))) rfl, rfl⟩, ?_⟩
      conv => whnf
      refine ⟨_, _, nB.1, SlIs.old nm mo (fun _ _ k => k), by rw [show (T.at_ 5).bytes = 1 from rfl]; omega, by omega, fun pB hB hs hm hf => ?_⟩
      obtain ⟨nB, nA, dis, mo⟩ := appD nB nA (dis_comm dis) mo hs hm hf
      have dis := dis_comm dis
      rw [Nat.zero_add, List.nil_append] at nB nA
      conv => whnf
      rw [show 0 + m = m from Nat.zero_add _]
      refine ⟨⟨_, Cell.mk (mo.get hb (.inl (fun k => k))) rfl, rfl⟩, ?_⟩
      conv => whnf
      obtain ⟨nA, nB, mo⟩ := pushD (.row true 2 [i64 N, .sl pB m]) nA nB mo
      rw [show 0 + S.length = S.length from Nat.zero_add _]
      refine ⟨_, _, nA.1, (SlIs.row (n := 1) (sz := 2) (cs := [i64 N, .sl pB m]) (H.obj_push_new _ _) rfl).weak, by rw [show (T.at_ 177).bytes = 32 from rfl]; omega, by omega, fun pC hC hs hm hf => ?_⟩
      obtain ⟨nA, nB, dis, mo⟩ := appD nA nB dis mo hs hm hf
      conv => whnf
      refine ⟨_, _, mo.get hb (.inl (fun k => k)), Nat.le_of_ble_eq_true rfl, ?_⟩
      conv => whnf
      have bx : (hC.set g (.row true 5 [.ptr (some (tg, 0)), i64 W, i64 N, .sl pC (S.length + 1), .bool false])).obj g = some (.row true 5 [.ptr (some (tg, 0)), i64 W, i64 N, .sl pC (S.length + 1), .bool false]) := H.obj_set_same (mo.get hb (.inl (fun k => k)))
      have mS : Ab.Mod (one g) hC (hC.set g (.row true 5 [.ptr (some (tg, 0)), i64 W, i64 N, .sl pC (S.length + 1), .bool false])) := Mod.set rfl (mo.get hb (.inl (fun k => k))) rfl
      have kg : ∀ i, one g i → i < hh.next := fun i hi => by
        have : i = g := hi
        omega
      have kt : ∀ i, one tg i → i < hh.next := fun i hi => by
        have : i = tg := hi
        omega
      have st := (htm.get mo (fun k => k)).get mS (by show ¬ tg = g; exact hsep)
      have nA := NewSl.keep nA mS kg
      have nB := NewSl.keep nB mS kg
      have mo : Ab.Mod (two g tg) hh _ := mo.trans' mS (fun _ _ k => k.elim) (fun _ _ k => .inl k)
      refine ⟨[0, 1, 2, 3, 4, 5, 6, 7, 8, 9], [0, 1, 3, 7, 0, 16, 48, 112, 0, 511], by kernel_rfl, ?_⟩
      conv => whnf
      refine ⟨_, Cell.mk bx rfl, ?_⟩
      conv => whnf
      refine ⟨_, Cell.mk bx rfl, ?_⟩
      conv => whnf
      refine (start39 st hasc okt hTS N hn0 hn1).mono ?_
      rintro _ h9 ⟨t9, m9⟩
      have bx9 := m9.get bx (.inl (fun k => hsep (Eq.symm k)))
      have nA := NewSl.keep nA m9 kt
      have nB := NewSl.keep nB m9 kt
      have mo := mo.trans' m9 (S2 := two g tg) (fun _ _ k => k) (fun _ _ k => .inr k)
      conv => whnf
      refine ⟨_, Cell.mk bx9 rfl, ?_⟩
      conv => whnf
      rw [wrap_i64 (x := N + 1) (by omega) (by omega)]
      refine ⟨_, _, bx9, Nat.le_of_ble_eq_true rfl, ?_⟩
      conv => whnf
      have bxA : (h9.set g (.row true 5 [.ptr (some (tg, 0)), i64 W, i64 (N + 1), .sl pC (S.length + 1), .bool false])).obj g = some (.row true 5 [.ptr (some (tg, 0)), i64 W, i64 (N + 1), .sl pC (S.length + 1), .bool false]) := H.obj_set_same bx9
      have mA : Ab.Mod (one g) h9 (h9.set g (.row true 5 [.ptr (some (tg, 0)), i64 W, i64 (N + 1), .sl pC (S.length + 1), .bool false])) := Mod.set rfl bx9 rfl
      refine ⟨_, Cell.mk bxA rfl, ?_⟩
      conv => whnf
      rw [wrap_i64 (x := N + 1 - 1) (by omega) (by omega), show N + 1 - 1 = N by omega]
      have nA := NewSl.keep nA mA kg
      have nB := NewSl.keep nB mA kg
      have ef : S.flatMap eC ++ [i64 N, .sl pB m] = (S ++ [(N, (pB, body))]).flatMap eC := by
        rw [List.flatMap_append, hml]
        simp [eC, slV]
      rw [ef] at nA
      exact .inr (.inr ⟨rfl, ha, rfl, pB, pC, bxA, nA, nB, t9.get mA (by show ¬ tg = g; exact hsep), mo.trans' mA (fun _ _ k => k) (fun _ _ k => .inl k)⟩)
  · conv => whnf
    refine ⟨[0, 2, 3, 4, 5, 7, 8, 9, 10, 12, 11, 1, 6, 13, 14, 15, 16, 17, 18, 19], [0, 2048, 0, 4, 12, 28, 2110, 0, 128, 384, 896, 0, 0, 6270, 16382, 32766, 65534, 131071, 262143, 524287], by kernel_rfl, ?_⟩
    conv => whnf
    have mo := mod_refl none_ hh
    refine ⟨_, Cell.mk (mo.get hb (.inl (fun k => k))) rfl, ?_⟩
    conv => whnf
    refine ⟨_, Cell.mk (mo.get hb (.inl (fun k => k))) rfl, ?_⟩
    conv => whnf
    obtain ⟨nB, mo⟩ := new0 1 mo
    obtain ⟨nA, nB, dis, mo⟩ := new0d 2 nB mo
    refine ⟨_, _, nA.1, (hr.get mo).is, by rw [show (T.at_ 177).bytes = 32 from rfl]; omega, by omega, fun pA hA hs hm hf => ?_⟩
    obtain ⟨nA, nB, dis, mo⟩ := appD nA nB dis mo hs hm hf
    conv => whnf
    refine ⟨⟨_, Cell.mk (mo.get hb (.inl (fun k => k))) rfl, rfl⟩, ?_⟩
    conv => whnf
    refine ⟨_, _, nB.1, SlIs.old nm mo (fun _ _ k => k), by rw [show (T.at_ 5).bytes = 1 from rfl]; omega, by omega, fun pB hB hs hm hf => ?_⟩
    obtain ⟨nB, nA, dis, mo⟩ := appD nB nA (dis_comm dis) mo hs hm hf
    have dis := dis_comm dis
    rw [Nat.zero_add, List.nil_append] at nB nA
    conv => whnf
    rw [show 0 + m = m from Nat.zero_add _]
    refine ⟨⟨_, Cell.mk (mo.get hb (.inl (fun k => k))) rfl, rfl⟩, ?_⟩
    conv => whnf
    obtain ⟨nA, nB, mo⟩ := pushD (.row true 2 [i64 N, .sl pB m]) nA nB mo
    rw [show 0 + S.length = S.length from Nat.zero_add _]
    refine ⟨_, _, nA.1, (SlIs.row (n := 1) (sz := 2) (cs := [i64 N, .sl pB m]) (H.obj_push_new _ _) rfl).weak, by rw [show (T.at_ 177).bytes = 32 from rfl]; omega, by omega, fun pC hC hs hm hf => ?_⟩
    obtain ⟨nA, nB, dis, mo⟩ := appD nA nB dis mo hs hm hf
    conv => whnf
    refine ⟨_, _, mo.get hb (.inl (fun k => k)), Nat.le_of_ble_eq_true rfl, ?_⟩
    conv => whnf
    have bx : (hC.set g (.row true 5 [.ptr (some (tg, 0)), i64 W, i64 N, .sl pC (S.length + 1), .bool false])).obj g = some (.row true 5 [.ptr (some (tg, 0)), i64 W, i64 N, .sl pC (S.length + 1), .bool false]) := H.obj_set_same (mo.get hb (.inl (fun k => k)))
    have mS : Ab.Mod (one g) hC (hC.set g (.row true 5 [.ptr (some (tg, 0)), i64 W, i64 N, .sl pC (S.length + 1), .bool false])) := Mod.set rfl (mo.get hb (.inl (fun k => k))) rfl
    have kg : ∀ i, one g i → i < hh.next := fun i hi => by
      have : i = g := hi
      omega
    have kt : ∀ i, one tg i → i < hh.next := fun i hi => by
      have : i = tg := hi
      omega
    have st := (htm.get mo (fun k => k)).get mS (by show ¬ tg = g; exact hsep)
    have nA := NewSl.keep nA mS kg
    have nB := NewSl.keep nB mS kg
    have mo : Ab.Mod (two g tg) hh _ := mo.trans' mS (fun _ _ k => k.elim) (fun _ _ k => .inl k)
    refine ⟨[0, 1, 2, 3, 4, 5, 6, 7, 8, 9], [0, 1, 3, 7, 0, 16, 48, 112, 0, 511], by kernel_rfl, ?_⟩
    conv => whnf
    refine ⟨_, Cell.mk bx rfl, ?_⟩
    conv => whnf
    refine ⟨_, Cell.mk bx rfl, ?_⟩
    conv => whnf
    refine (start39 st hasc okt hTS N hn0 hn1).mono ?_
    rintro _ h9 ⟨t9, m9⟩
    have bx9 := m9.get bx (.inl (fun k => hsep (Eq.symm k)))
    have nA := NewSl.keep nA m9 kt
    have nB := NewSl.keep nB m9 kt
    have mo := mo.trans' m9 (S2 := two g tg) (fun _ _ k => k) (fun _ _ k => .inr k)
    conv => whnf
    refine ⟨_, Cell.mk bx9 rfl, ?_⟩
    conv => whnf
    rw [wrap_i64 (x := N + 1) (by omega) (by omega)]
    refine ⟨_, _, bx9, Nat.le_of_ble_eq_true rfl, ?_⟩
    conv => whnf
    have bxA : (h9.set g (.row true 5 [.ptr (some (tg, 0)), i64 W, i64 (N + 1), .sl pC (S.length + 1), .bool false])).obj g = some (.row true 5 [.ptr (some (tg, 0)), i64 W, i64 (N + 1), .sl pC (S.length + 1), .bool false]) := H.obj_set_same bx9
    have mA : Ab.Mod (one g) h9 (h9.set g (.row true 5 [.ptr (some (tg, 0)), i64 W, i64 (N + 1), .sl pC (S.length + 1), .bool false])) := Mod.set rfl bx9 rfl
    refine ⟨_, Cell.mk bxA rfl, ?_⟩
    conv => whnf
    rw [wrap_i64 (x := N + 1 - 1) (by omega) (by omega), show N + 1 - 1 = N by omega]
    have nA := NewSl.keep nA mA kg
    have nB := NewSl.keep nB mA kg
    have ef : S.flatMap eC ++ [i64 N, .sl pB m] = (S ++ [(N, (pB, body))]).flatMap eC := by
      rw [List.flatMap_append, hml]
      simp [eC, slV]
    rw [ef] at nA
    exact .inr (.inr ⟨rfl, ha, rfl, pB, pC, bxA, nA, nB, t9.get mA (by show ¬ tg = g; exact hsep), mo.trans' mA (fun _ _ k => k) (fun _ _ k => .inl k)⟩)
end Go.Proofs.Ytoljllfbabahpaa
