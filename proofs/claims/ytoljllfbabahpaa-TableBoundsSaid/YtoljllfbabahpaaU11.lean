/- Senders: what is sent; a body that is under way. -/
import Derived.Test.YtoljllfbabahpaaU10
set_option linter.unusedVariables false
namespace Go.Proofs.Ytoljllfbabahpaa
open Go Go.Ab
def three (a b c : Nat) : Nat → Prop := fun i => i = a ∨ i = b ∨ i = c
theorem two_three {a b c : Nat} {h h' : H} (m : Ab.Mod (two b c) h h') : Ab.Mod (three a b c) h h' := m.mono (fun i _ k => .inr k)
theorem SdSt.next {h : H} {g mi tg tmi : Nat} {W N : Int} {ov : Bool} {S : Ent} {B M R : Int} {TS : List Wt} (s : SdSt h g mi tg tmi W N ov S B M R TS) (N' : Int) (ov' : Bool) :
    SdSt (h.set g (.row true 5 [.ptr (some (tg, 0)), i64 W, i64 N', .mp (some mi), .bool ov'])) g mi tg tmi W N' ov' S B M R TS ∧ Ab.Mod (one g) h (h.set g (.row true 5 [.ptr (some (tg, 0)), i64 W, i64 N', .mp (some mi), .bool ov'])) := by
  obtain ⟨ms, h1, h2⟩ := s.map
  obtain ⟨p1, p2, p3, p4, p5⟩ := s.sep
  have m : Ab.Mod (one g) h (h.set g (.row true 5 [.ptr (some (tg, 0)), i64 W, i64 N', .mp (some mi), .bool ov'])) := Mod.set rfl s.box rfl
  exact ⟨⟨H.obj_set_same s.box, ⟨ms, m.get h1 (.inl p1), h2⟩, s.asc, fun x hx => (s.ent x hx).get m, s.tm.get m p2 p3, s.sep⟩, m⟩
theorem SdSt.turn {h : H} {g mi tg tmi : Nat} {W N : Int} {ov : Bool} {S S' : Ent} {B M R : Int} {TS : List Wt} (s : SdSt h g mi tg tmi W N ov S B M R TS) {ms' : Ent} (hs : Same ms' S') (ha : AscS S') (he : ∀ x ∈ S', bOk h x.2) :
    SdSt (h.set mi (.map true (mpE .i64 (encM slV ms')))) g mi tg tmi W N ov S' B M R TS ∧ Ab.Mod (one mi) h (h.set mi (.map true (mpE .i64 (encM slV ms')))) := by
  obtain ⟨ms, h1, _⟩ := s.map
  obtain ⟨p1, p2, p3, p4, p5⟩ := s.sep
  have m : Ab.Mod (one mi) h (h.set mi (.map true (mpE .i64 (encM slV ms')))) := Mod.set rfl h1 rfl
  exact ⟨⟨m.get s.box (.inl (fun k => p1 (Eq.symm k))), ⟨ms', H.obj_set_same h1, hs⟩, ha, fun x hx => (he x hx).get m, s.tm.get m p4 p5, s.sep⟩, m⟩
theorem SdSt.tmr {h h' : H} {g mi tg tmi : Nat} {W N : Int} {ov : Bool} {S : Ent} {B M R : Int} {TS TS' : List Wt} (s : SdSt h g mi tg tmi W N ov S B M R TS) (t : TSt h' tg tmi B M R TS') (m : Ab.Mod (one tmi) h h') : SdSt h' g mi tg tmi W N ov S B M R TS' := by
  obtain ⟨ms, h1, h2⟩ := s.map
  obtain ⟨p1, p2, p3, p4, p5⟩ := s.sep
  exact ⟨m.get s.box (.inl (fun k => p3 (Eq.symm k))), ⟨ms, m.get h1 (.inl (fun k => p5 (Eq.symm k))), h2⟩, s.asc, fun x hx => (s.ent x hx).get m, t, s.sep⟩
/-- told, sent or not -/
def SendQ (h : H) (g mi tg tmi : Nat) (W N : Int) (ov : Bool) (S : Ent) (B M R : Int) (TS : List Wt) (now : Int) (body : List Int) (r : V) (h' : H) : Prop :=
  (ov = true ∧ r = .tup [i64 0, i64 6] ∧ h' = h) ∨ (ov = false ∧ (S.length : Int) = W ∧ r = .tup [i64 0, i64 5] ∧ h' = h) ∨
  (ov = false ∧ (S.length : Int) ≠ W ∧ r = .tup [i64 N, i64 0] ∧ ∃ p', SdSt h' g mi tg tmi W (N + 1) false (insS S N (p', body)) B M R (insS TS N (now + waitV B M 0, 0)) ∧ Ab.Mod (three g mi tmi) h h')
theorem sSeq {h : H} {g mi tg tmi : Nat} {W N : Int} {ov : Bool} {S : Ent} {B M R : Int} {TS : List Wt} (s : SdSt h g mi tg tmi W N ov S B M R TS) : ACalls Try.prog 54 [.ptr (some (g, 0))] h (fun r h' => h' = h ∧ r = i64 N) := by
  refine call_ Try.func54 rfl rfl (by kernel_rfl) ?_
  conv => whnf
  refine ⟨_, Cell.mk s.box rfl, ?_⟩
  conv => whnf
  exact ⟨rfl, rfl⟩
set_option maxHeartbeats 1000000 in
theorem sSend {h : H} {g mi tg tmi : Nat} {W N : Int} {ov : Bool} {S : Ent} {B M R : Int} {TS : List Wt} (s : SdSt h g mi tg tmi W N ov S B M R TS) (ok : okW W = true) (okt : okT B M R = true) (hS : S.length ≤ 100000) (hN0 : 0 ≤ N) (hN1 : N ≤ 100000000) {now : Int} (hn0 : -1000000000 ≤ now) (hn1 : now ≤ 1000000000) {q : Option (Nat × Nat)} {m : Nat} {body : List Int} (nm : SlIs h q m false 1 (ints .u8 body)) (hq : ∀ h', Ab.Mod (one g) h h' → SlIs h' q m false 1 (ints .u8 body)) (hm : m ≤ 100000) :
    ACalls Try.prog 44 [.ptr (some (g, 0)), i64 now, .sl q m] h (SendQ h g mi tg tmi W N ov S B M R TS now body) := by
  have hW : 1 ≤ W ∧ W ≤ 16 := by simpa [okW] using ok
  have hl := slo_len nm
  have hlt := s.lt
  obtain ⟨p1, p2, p3, p4, p5⟩ := s.sep
  refine call_ Try.func44 rfl rfl (by kernel_rfl) ?_
  conv => whnf
  refine (sOver s).mono ?_
  rintro _ h1 ⟨eh, rfl⟩
  subst eh
  cases ov with
  | true =>
    conv => whnf
    exact .inl ⟨rfl, rfl, rfl⟩
  | false =>
  conv => whnf
  refine (sRoom s ok hS).mono ?_
  rintro _ h1 ⟨eh, rfl⟩
  subst eh
  conv => whnf
  refine br_mk (fun ha => ?_) (fun ha => ?_)
  · conv => whnf
    have ha : W - S.length = 0 := by simpa [roomV] using ha
    exact .inr (.inl ⟨rfl, by omega, rfl, rfl⟩)
  have ha : ¬ W - S.length = 0 := by
    intro e
    simp [roomV, e] at ha
  conv => whnf
  refine ⟨_, Cell.mk s.box rfl, ?_⟩
  conv => whnf
  refine ⟨_, Cell.mk s.box rfl, ?_⟩
  conv => whnf
  have hwr : IntKind.i64.wrap (N + 1) = N + 1 := wrap_i64 (by omega) (by omega)
  rw [hwr]
  refine ⟨_, _, s.box, Nat.le_of_ble_eq_true rfl, ?_⟩
  conv => whnf
  obtain ⟨s1, m1⟩ := s.next (N + 1) false
  have nm1 := hq _ m1
  refine ⟨[0, 1, 2, 3, 4, 5, 6, 7], [0, 1, 3, 7, 0, 0, 32, 127], by kernel_rfl, ?_⟩
  conv => whnf
  refine ⟨_, Cell.mk s1.box rfl, ?_⟩
  conv => whnf
  refine (clone63 nm1 (by omega)).mono ?_
  rintro _ h3 ⟨p', rfl, rb, m3⟩
  have s3 := s1.old m3
  rw [hl] at rb
  rw [hl]
  conv => whnf
  refine ⟨⟨_, Cell.mk s3.box rfl, rfl⟩, ?_⟩
  conv => whnf
  obtain ⟨ms, k1, k2⟩ := s3.map
  refine ⟨encM slV ms, k1, ?_⟩
  conv => whnf
  have em := mput_enc slV N (p', body) ms
  obtain ⟨t1, t2⟩ := s3.turn (k2.put N (p', body) (insS_get s3.asc N (p', body))) (insS_asc s3.asc N (p', body)) (insS_ent s3.ent (b := (p', body)) rb N)
  rw [← em] at t1 t2
  refine ⟨_, Cell.mk t1.box rfl, ?_⟩
  conv => whnf
  refine (start23 t1.tm okt (id := N) (i64_in (by omega) (by omega)) hn0 hn1).mono ?_
  rintro _ h5 ⟨t5, m5⟩
  conv => whnf
  refine .inr (.inr ⟨rfl, by omega, rfl, p', t1.tmr t5 m5, ?_⟩)
  have mA := m1.trans' m3 (S2 := three g mi tmi) (fun _ _ k => .inl k) (fun _ _ k => k.elim)
  have mB := mA.trans' t2 (S2 := three g mi tmi) (fun _ _ k => k) (fun _ _ k => .inr (.inl k))
  exact mB.trans' m5 (S2 := three g mi tmi) (fun _ _ k => k) (fun _ _ k => .inr (.inr k))
def bodyV (C : Hd) (seq : Int) : List Int := (sget C seq).getD []
def BodyQ (h : H) (C : Hd) (seq : Int) (r : V) (h' : H) : Prop := ∃ q, r = .tup [.sl q (bodyV C seq).length, .bool (sget C seq).isSome] ∧ RoSl h' q (bodyV C seq).length 1 (ints .u8 (bodyV C seq)) ∧ Ab.Mod none_ h h'
theorem sBody {h : H} {g mi tg tmi : Nat} {W N : Int} {ov : Bool} {S : Ent} {B M R : Int} {TS : List Wt} (s : SdSt h g mi tg tmi W N ov S B M R TS) (hb : ∀ x ∈ S, x.2.2.length ≤ 100000) (seq : Int) :
    ACalls Try.prog 50 [.ptr (some (g, 0)), i64 seq] h (BodyQ h (encM Prod.snd S) seq) := by
  have hC : sget (encM Prod.snd S) seq = (sget S seq).map Prod.snd := encM_get Prod.snd seq S
  unfold BodyQ bodyV
  rw [hC]
  refine call_ Try.func50 rfl rfl (by kernel_rfl) ?_
  conv => whnf
  refine ⟨_, Cell.mk s.box rfl, ?_⟩
  conv => whnf
  obtain ⟨ms, k1, k2⟩ := s.map
  have e1 : mget (encM slV ms) seq = (sget S seq).map slV := by rw [mget_enc, k2.2]
  refine ⟨true, encM slV ms, k1, ?_⟩
  rw [e1]
  cases hz : sget S seq with
  | none =>
    conv => whnf
    refine ⟨_, rfl, ?_⟩
    conv => whnf
    refine ⟨_, rfl, ?_⟩
    conv => whnf
    refine (clone63 (p := none) (n := 0) (cs := []) (SlIs.nil _ _ _) (by omega)).mono ?_
    rintro _ h3 ⟨p', rfl, rb, m3⟩
    conv => whnf
    exact ⟨p', rfl, rb, m3⟩
  | some b =>
  have hbo := s.ent (seq, b) ((sget_mem s.asc.nodup).1 hz)
  have hbl := hb (seq, b) ((sget_mem s.asc.nodup).1 hz)
  conv => whnf
  refine ⟨_, rfl, ?_⟩
  conv => whnf
  refine ⟨_, rfl, ?_⟩
  conv => whnf
  refine (clone63 hbo.is (by omega)).mono ?_
  rintro _ h3 ⟨p', rfl, rb, m3⟩
  conv => whnf
  exact ⟨p', rfl, rb, m3⟩
end Go.Proofs.Ytoljllfbabahpaa
