/- V3: several texts in one. -/
import Derived.Test.YtoljllfbabahpaaU29
import Derived.Test.YtoljllfbabahpaaV2
set_option linter.unusedVariables false
/-! ChannelOrder: one direction, in plain lists. -/
namespace Go.Proofs.Ytoljllfbabahpaa
open Go Go.Ab
def At (B : List (List Int)) (x : Int) (b : List Int) : Prop := 0 ≤ x ∧ B[x.toNat]? = some b
theorem At.lt {B : List (List Int)} {x : Int} {b : List Int} (h : At B x b) : x < B.length := by
  have := (List.getElem?_eq_some_iff.1 h.2).1
  have := h.1
  omega
theorem At.app {B : List (List Int)} {x : Int} {b : List Int} (h : At B x b) (c : List (List Int)) : At (B ++ c) x b :=
  ⟨h.1, by rw [List.getElem?_append_left (List.getElem?_eq_some_iff.1 h.2).1]; exact h.2⟩
theorem take_at {B : List (List Int)} {N : Int} {b : List Int} (h : At B N b) : B.take (N + 1).toNat = B.take N.toNat ++ [b] := by
  have h0 := h.1
  rw [show (N + 1).toNat = N.toNat + 1 by omega, List.take_add_one, h.2]
  rfl
theorem drop_at {B : List (List Int)} {N : Int} {b : List Int} (h : At B N b) : B.drop N.toNat = b :: B.drop (N + 1).toNat := by
  have h0 := h.1
  obtain ⟨hl, e⟩ := List.getElem?_eq_some_iff.1 h.2
  rw [show (N + 1).toNat = N.toNat + 1 by omega, List.drop_eq_getElem_cons hl, e]
theorem chn_spec {B : List (List Int)} : ∀ (C : Hd) (N : Int), 0 ≤ N → AscS C → (∀ k ∈ keys C, N ≤ k) → (∀ p ∈ C, At B p.1 p.2) →
    B.take N.toNat ++ (chn N C).1 = B.take (chn N C).2.1.toNat ∧ N ≤ (chn N C).2.1 ∧ (∀ p ∈ C, p.1 < (chn N C).2.1 ∨ p ∈ (chn N C).2.2) ∧ ∀ S, N ≤ S → (∀ k ∈ keys C, k < S) → (chn N C).2.1 ≤ S
  | [], N, _, _, _, _ => ⟨by simp [chn], Int.le_refl _, (fun p hp => by cases hp), fun S h _ => h⟩
  | p :: C, N, h0, ha, hk, hB => by
    have ha2 := ha
    rw [AscS, keys, List.map_cons, List.pairwise_cons] at ha2
    have hp := hk p.1 (by simp [keys])
    by_cases e : p.1 = N
    · obtain ⟨i1, i2, i3, i4⟩ := chn_spec (B := B) C (N + 1) (by omega) ha2.2 (fun k hk => by have := ha2.1 k hk; omega) (fun q hq => hB q (List.mem_cons_of_mem _ hq))
      have hb := hB p (by simp)
      rw [e] at hb
      rw [chn, if_pos e]
      refine ⟨?_, by show N ≤ (chn (N + 1) C).2.1; omega, fun q hq => ?_, fun S hS hl => i4 S (by have := hl p.1 (by simp [keys]); omega) (fun k hk => hl k (List.mem_cons_of_mem _ hk))⟩
      · show B.take N.toNat ++ p.2 :: (chn (N + 1) C).1 = B.take (chn (N + 1) C).2.1.toNat
        rw [← i1, take_at hb, List.append_assoc]
        rfl
      · rcases List.mem_cons.1 hq with rfl | hq
        · exact .inl (by show q.1 < (chn (N + 1) C).2.1; omega)
        · exact i3 q hq
    · rw [chn, if_neg e]
      exact ⟨by simp, Int.le_refl _, fun q hq => .inr hq, fun S h _ => h⟩
theorem mem_insS {β : Type} {C : List (Int × β)} {k : Int} {b : β} {p : Int × β} (h : p ∈ insS C k b) : p ∈ C ∨ p = (k, b) := by
  rw [insS, List.mem_append, List.mem_cons] at h
  rcases h with h | h | h
  · exact .inl (List.mem_filter.1 h).1
  · exact .inr h
  · exact .inl (List.mem_filter.1 h).1
theorem insS_has {β : Type} (C : List (Int × β)) (k : Int) (b : β) : (k, b) ∈ insS C k b ∧ ∀ p ∈ C, p.1 ≠ k → p ∈ insS C k b := by
  unfold insS
  refine ⟨by simp, fun p hp hne => ?_⟩
  rw [List.mem_append, List.mem_cons]
  by_cases h : p.1 < k
  · exact .inl (List.mem_filter.2 ⟨hp, by simpa using h⟩)
  · exact .inr (.inr (List.mem_filter.2 ⟨hp, by simp; omega⟩))
/-- from the one to the other: but what is owed may have room -/
structure Dir0 (Wn : Int) (B : List (List Int)) (s : SV) (O : List (List Int)) (N : Int) (C : Hd) (G : List (List Int)) (a : Int) : Prop where
  ok : SOk s
  kr : KR s a
  ov : s.ov = false
  w : s.W = Wn
  le : s.N ≤ B.length
  o : O = B.drop s.N.toNat
  sc : ∀ p ∈ s.C, At B p.1 p.2
  bl : ∀ b ∈ B, b.length ≤ 100000
  g : G = B.take N.toNat
  kh : OkH Wn N C
  tc : ∀ p ∈ C, At B p.1 p.2 ∧ p.1 < s.N
  n0 : 0 ≤ N
  ai : a ≤ N ∧ N ≤ s.N
structure Dir (Wn : Int) (B : List (List Int)) (s : SV) (O : List (List Int)) (N : Int) (C : Hd) (G : List (List Int)) (a : Int) : Prop where
  d : Dir0 Wn B s O N C G a
  full : O = [] ∨ s.N - a = Wn
section
variable {Wn : Int} {B : List (List Int)} {s : SV} {O : List (List Int)} {N : Int} {C : Hd} {G : List (List Int)} {a : Int}
theorem Dir0.win (d : Dir0 Wn B s O N C G a) : s.N - a ≤ Wn ∧ (O.length : Int) = B.length - s.N ∧ 0 ≤ s.N := by
  have h1 := (d.kr.len d.ok).1
  have h2 := d.ok.len
  have h3 := d.w
  have h4 := d.ok.n0
  have h5 := d.le
  refine ⟨by omega, ?_, h4⟩
  rw [d.o, List.length_drop]
  omega
theorem Dir0.ack (d : Dir0 Wn B s O N C G a) {k : Int} (hk : k ≤ N) : Dir0 Wn B (ackV s k).2 O N C G (max a k) ∧ (ackV s k).2.N = s.N := by
  obtain ⟨z1, z2, z3, z4, z5⟩ := d.kr.ack d.ok k
  have hai := d.ai
  have htk : a + tookV a s.N k = max a k := by
    rw [tookV, if_neg (by omega)]
    split <;> omega
  rw [htk] at z2
  refine ⟨⟨d.ok.ack k, z2, z5.trans d.ov, z4.trans d.w, by rw [z3]; exact d.le, by rw [z3]; exact d.o, fun p hp => ?_, d.bl, d.g, d.kh, fun p hp => by rw [z3]; exact d.tc p hp, d.n0, by rw [z3]; omega⟩, z3⟩
  unfold ackV at hp
  split at hp
  · exact d.sc p hp
  · exact d.sc p (List.mem_filter.1 hp).1
theorem Dir0.ob (d : Dir0 Wn B s O N C G a) : ∀ b ∈ O, b.length ≤ 100000 := fun b hb => by
  rw [d.o] at hb
  exact d.bl b (List.mem_of_mem_drop hb)
theorem pays_sc {B : List (List Int)} (now : Int) : ∀ (O : List (List Int)) {s : SV}, SOk s → O = B.drop s.N.toNat → (∀ p ∈ s.C, At B p.1 p.2) → (∀ b ∈ O, b.length ≤ 100000) → (∀ p ∈ (paysV now s O).2.1.C, At B p.1 p.2) ∧ (∀ x ∈ (paysV now s O).1, At B x.1 x.2 ∧ s.N ≤ x.1 ∧ x.1 < (paysV now s O).2.1.N) ∧ s.N ≤ (paysV now s O).2.1.N ∧ (∀ y, s.N ≤ y → y < (paysV now s O).2.1.N → ∃ x ∈ (paysV now s O).1, x.1 = y)
  | [], s, o, hO, hc, _ => ⟨hc, (fun x hx => by cases hx), Int.le_refl _, fun y h1 h2 => by have h2 : y < s.N := h2; omega⟩
  | b :: O, s, o, hO, hc, hl => by
    by_cases hr : 0 < roomOf s
    · obtain ⟨z1, z2, z3, z4⟩ := send_room o hr now b
      have h0 := o.n0
      have hb : At B s.N b := by
        refine ⟨h0, ?_⟩
        have e : (B.drop s.N.toNat)[0]? = some b := by rw [← hO]; rfl
        rw [List.getElem?_drop] at e
        exact e
      have hO2 : O = B.drop (sendV s now b).2.N.toNat := by
        rw [drop_at hb] at hO
        rw [z3]
        injection hO
      have hC2 : ∀ p ∈ (sendV s now b).2.C, At B p.1 p.2 := fun p hp => by
        unfold sendV at hp
        split at hp
        · exact hc p hp
        · split at hp
          · exact hc p hp
          · rcases mem_insS hp with hp | hp
            · exact hc p hp
            · rw [hp]
              exact hb
      obtain ⟨i1, i2, i3, i4⟩ := pays_sc (B := B) now O (o.send now (body := b) (hl b (by simp))) hO2 hC2 (fun c hc => hl c (List.mem_cons_of_mem _ hc))
      rw [paysV, if_pos hr]
      have i3 : (sendV s now b).2.N ≤ (paysV now (sendV s now b).2 O).2.1.N := i3
      refine ⟨i1, fun x hx => ?_, by show s.N ≤ (paysV now (sendV s now b).2 O).2.1.N; omega, fun y h1 h2 => ?_⟩
      · rcases List.mem_cons.1 hx with rfl | hx
        · exact ⟨hb, Int.le_refl _, by show s.N < (paysV now (sendV s now b).2 O).2.1.N; omega⟩
        · obtain ⟨j1, j2, j3⟩ := i2 x hx
          exact ⟨j1, by omega, j3⟩
      · by_cases e : y = s.N
        · exact ⟨(s.N, b), by simp, e.symm⟩
        · obtain ⟨x, hx, e2⟩ := i4 y (by omega) h2
          exact ⟨x, List.mem_cons_of_mem _ hx, e2⟩
    · rw [paysV, if_neg hr]
      exact ⟨hc, (fun x hx => by cases hx), Int.le_refl _, fun y h1 h2 => by have h2 : y < s.N := h2; omega⟩
theorem Dir0.pays (d : Dir0 Wn B s O N C G a) (now : Int) : Dir Wn B (paysV now s O).2.1 (paysV now s O).2.2 N C G a ∧ (∀ x ∈ (paysV now s O).1, At B x.1 x.2 ∧ s.N ≤ x.1 ∧ x.1 < (paysV now s O).2.1.N) ∧ (∀ y, s.N ≤ y → y < (paysV now s O).2.1.N → ∃ x ∈ (paysV now s O).1, x.1 = y) ∧ (paysV now s O).1.length + (paysV now s O).2.2.length = O.length ∧ s.N ≤ (paysV now s O).2.1.N := by
  have ob := d.ob
  obtain ⟨i1, i2, i3, i4, i5⟩ := pays_ok now O d.ok ob
  obtain ⟨k1, k2, k3, k4, k5⟩ := pays_kr now a O d.ok d.kr d.ov ob
  obtain ⟨c1, c2, c3, c4⟩ := pays_sc now O d.ok d.o d.sc ob
  obtain ⟨w1, w2, w3⟩ := d.win
  have hai := d.ai
  refine ⟨⟨⟨i1, k1, k2, i2.trans d.w, by omega, ?_, c1, d.bl, d.g, d.kh, fun p hp => ⟨(d.tc p hp).1, by have := (d.tc p hp).2; omega⟩, d.n0, by omega⟩, ?_⟩, c2, c4, i4, c3⟩
  · have e : ∀ n, O.drop n = B.drop (s.N.toNat + n) := fun n => by
      conv => lhs; rw [d.o]
      rw [List.drop_drop]
    rw [k4, e, i5]
    congr 1
    omega
  · rcases k3 with k | k
    · exact .inl k
    · exact .inr (by rw [k, d.w])
theorem Dir.take (dd : Dir Wn B s O N C G a) {x : Int} {b : List Int} (hb : At B x b) (hx : x < s.N) : Dir Wn B s O (tkV Wn N C x b).2.2.1 (tkV Wn N C x b).2.2.2 (G ++ (tkV Wn N C x b).2.1) a ∧ N ≤ (tkV Wn N C x b).2.2.1 ∧ (∀ y, y < N ∨ y ∈ keys C → y < (tkV Wn N C x b).2.2.1 ∨ y ∈ keys (tkV Wn N C x b).2.2.2) ∧ (x < (tkV Wn N C x b).2.2.1 ∨ x ∈ keys (tkV Wn N C x b).2.2.2) := by
  have d := dd.d
  obtain ⟨w1, w2, w3⟩ := d.win
  have hai := d.ai
  have h0 := d.n0
  have hW : 1 ≤ Wn := by
    have := d.ok.ok
    rw [okW, d.w] at this
    simp at this
    exact this.1
  obtain ⟨t1, t2, t3, t4⟩ := d.kh.take hW x b
  by_cases hm : mayC Wn N x C = true
  · have hm2 := hm
    simp only [mayC, Bool.and_eq_true, decide_eq_true_eq] at hm2
    obtain ⟨⟨hm3, hm4⟩, hm5⟩ := hm2
    have hk : ∀ k ∈ keys (insS C x b), N ≤ k ∧ k < N + Wn := insS_keys (fun k hk => by have := d.kh.key k hk; omega) (by omega) b
    have hA : ∀ p ∈ insS C x b, At B p.1 p.2 ∧ p.1 < s.N := fun p hp => by
      rcases mem_insS hp with hp | hp
      · exact d.tc p hp
      · rw [hp]
        exact ⟨hb, hx⟩
    obtain ⟨c1, c2, c3, c4⟩ := chn_spec (insS C x b) N h0 (insS_asc d.kh.asc x b) (fun k hk2 => (hk k hk2).1) (fun p hp => (hA p hp).1)
    obtain ⟨_, _, e3⟩ := chn_keys N (insS C x b) (insS_asc d.kh.asc x b) (fun k hk2 => (hk k hk2).1)
    have hv : tkV Wn N C x b = (true, chn N (insS C x b)) := by rw [tkV, if_pos hm]
    rw [hv] at t1 t2 ⊢
    have key : ∀ y, y ∈ keys (insS C x b) → y < (chn N (insS C x b)).2.1 ∨ y ∈ keys (chn N (insS C x b)).2.2 := fun y hy => by
      obtain ⟨p, hp, rfl⟩ := List.mem_map.1 hy
      rcases c3 p hp with q | q
      · exact .inl q
      · exact .inr (List.mem_map.2 ⟨p, q, rfl⟩)
    refine ⟨⟨⟨d.ok, d.kr, d.ov, d.w, d.le, d.o, d.sc, d.bl, ?_, t1, fun p hp => hA p (e3 p hp), by show 0 ≤ (chn N (insS C x b)).2.1; omega, ?_⟩, dd.full⟩, c2, fun y hy => ?_, key x (List.mem_map.2 ⟨_, (insS_has C x b).1, rfl⟩)⟩
    · rw [d.g]
      exact c1
    · have := c4 s.N hai.2 (fun k hk => by
        obtain ⟨p, hp, rfl⟩ := List.mem_map.1 hk
        exact (hA p hp).2)
      show a ≤ (chn N (insS C x b)).2.1 ∧ (chn N (insS C x b)).2.1 ≤ s.N
      omega
    · rcases hy with hy | hy
      · exact .inl (by show y < (chn N (insS C x b)).2.1; omega)
      · obtain ⟨p, hp, rfl⟩ := List.mem_map.1 hy
        by_cases e : p.1 = x
        · exact key p.1 (List.mem_map.2 ⟨_, (insS_has C x b).1, e.symm⟩)
        · exact key p.1 (List.mem_map.2 ⟨p, (insS_has C x b).2 p hp e, rfl⟩)
  · have hv : tkV Wn N C x b = (false, [], N, C) := by rw [tkV, if_neg hm]
    rw [hv]
    refine ⟨by rw [List.append_nil]; exact dd, Int.le_refl _, fun y hy => hy, ?_⟩
    by_cases h1 : x < N
    · exact .inl h1
    · right
      have h2 : mayC Wn N x C = false := by simpa using hm
      rw [mayC, decide_eq_true (show N ≤ x by omega), decide_eq_true (show x < N + Wn by omega)] at h2
      have h3 : (sget C x).isSome = true := by
        cases e : sget C x with
        | none =>
          rw [e] at h2
          cases h2
        | some y => rfl
      rw [sget_some] at h3
      exact h3
theorem Dir0.push (d : Dir0 Wn B s O N C G a) (b : List Int) (hb : b.length ≤ 100000) : Dir0 Wn (B ++ [b]) s (O ++ [b]) N C G a := by
  have h0 := d.ok.n0
  have hle := d.le
  have hai := d.ai
  have hn0 := d.n0
  refine ⟨d.ok, d.kr, d.ov, d.w, by rw [List.length_append]; show s.N ≤ ((B.length + 1 : Nat) : Int); omega, ?_, fun p hp => (d.sc p hp).app _, fun c hc => ?_, ?_, d.kh, fun p hp => ⟨(d.tc p hp).1.app _, (d.tc p hp).2⟩, d.n0, d.ai⟩
  · rw [d.o, List.drop_append_of_le_length (by omega)]
  · rcases List.mem_append.1 hc with hc | hc
    · exact d.bl c hc
    · have : c = b := by simpa using hc
      rw [this]
      exact hb
  · rw [d.g, List.take_append_of_le_length (by omega)]
theorem Dir.new {W : Int} (h1 : 1 ≤ W) (h2 : W ≤ 16) : Dir W [] ⟨W, 0, false, [], 50, 1000, 20, []⟩ [] 0 [] [] 0 := by
  have okw : okW W = true := by rw [okW, decide_eq_true h1, decide_eq_true h2]; rfl
  exact ⟨⟨new_ok okw rfl, KR.new W 50 1000 20, rfl, rfl, Int.le_refl _, rfl, (fun p hp => by cases hp), (fun b hb => by cases hb), rfl, OkH.nil _ _, (fun p hp => by cases hp), Int.le_refl _, Int.le_refl _, Int.le_refl _⟩, .inl rfl⟩
end
end Go.Proofs.Ytoljllfbabahpaa
/-! ChannelOrder: what comes, and time, in plain lists. -/
namespace Go.Proofs.Ytoljllfbabahpaa
open Go Go.Ab
/-- a datagram of one's own that is under way -/
structure Msg (B : List (List Int)) (v : CV) (g : GV) : Prop where
  conn : g.conn = 1
  ack : g.ack ≤ v.N
  kind : g.kind = 2 ∨ g.kind = 1 ∧ At B g.seq g.body ∧ g.seq < v.s.N
/-- what comes of it -/
structure Rcv (Wn : Int) (B B' : List (List Int)) (sk : SV) (Ok : List (List Int)) (a : Int) (N' : Int) (C' : Hd) (G G' : List (List Int)) (a' : Int) (v : CV) (g : GV) (R : (List (List Int) × List GV) × CV) (P : List (Int × List Int)) : Prop where
  din : Dir Wn B sk Ok R.2.N R.2.C (G ++ R.1.1) a
  dout : Dir Wn B' R.2.s R.2.O N' C' G' (max a' g.ack)
  conn : R.2.conn = 1
  n : v.N ≤ R.2.N
  sn : v.s.N ≤ R.2.s.N
  out : R.1.2 = (if g.kind = 1 then [(⟨1, 2, 0, R.2.N, 0, []⟩ : GV)] else []) ++ P.map (fun x => (⟨1, 1, x.1, R.2.N, 0, x.2⟩ : GV))
  len : P.length + R.2.O.length = v.O.length
  p : ∀ x ∈ P, At B' x.1 x.2 ∧ v.s.N ≤ x.1 ∧ x.1 < R.2.s.N
  all : ∀ y, v.s.N ≤ y → y < R.2.s.N → ∃ x ∈ P, x.1 = y
  mono : ∀ y, y < v.N ∨ y ∈ keys v.C → y < R.2.N ∨ y ∈ keys R.2.C
  has : g.kind = 1 → g.seq < R.2.N ∨ g.seq ∈ keys R.2.C
theorem rcv {Wn : Int} {B B' : List (List Int)} {sk : SV} {Ok : List (List Int)} {a N' : Int} {C' : Hd} {G G' : List (List Int)} {a' : Int} {v : CV} (din : Dir Wn B sk Ok v.N v.C G a) (dout : Dir Wn B' v.s v.O N' C' G' a') (hc : v.conn = 1) (now : Int) {g : GV} (gc : g.conn = 1) (ga : g.ack ≤ N') (gk : g.kind = 2 ∨ g.kind = 1 ∧ At B g.seq g.body ∧ g.seq < sk.N) :
    ∃ P, Rcv Wn B B' sk Ok a N' C' G G' a' v g (recvV v now g) P := by
  obtain ⟨d1, e1⟩ := dout.d.ack ga
  obtain ⟨d2, p1, p2, p3, p4⟩ := d1.pays now
  have hov := dout.d.ov
  have hw : (recvS v g).W = Wn := (ackV_W v.s g.ack).trans dout.d.w
  have e1 : (recvS v g).N = v.s.N := e1
  have p1 : ∀ x ∈ (paysV now (recvS v g) v.O).1, At B' x.1 x.2 ∧ (recvS v g).N ≤ x.1 ∧ x.1 < (paysV now (recvS v g) v.O).2.1.N := p1
  have p2 : ∀ y, (recvS v g).N ≤ y → y < (paysV now (recvS v g) v.O).2.1.N → ∃ x ∈ (paysV now (recvS v g) v.O).1, x.1 = y := p2
  have p4 : (recvS v g).N ≤ (paysV now (recvS v g) v.O).2.1.N := p4
  rw [e1] at p1 p2 p4
  refine ⟨(paysV now (recvS v g) v.O).1, ?_⟩
  rcases gk with hk | ⟨hk, hb, hx⟩
  · have hB : recvB v g = false := by rw [recvB, hov, gc, hc, hk]; rfl
    have hM : recvM v g = { v with s := recvS v g } := by rw [recvM, if_neg (by rw [hk]; decide)]
    have hv : recvV v now g = (([], [] ++ (paysV now (recvM v g).s v.O).1.map (pg (recvM v g))), (recvM v g).to (paysV now (recvM v g).s v.O).2.1 (paysV now (recvM v g).s v.O).2.2) := by rw [recvV, if_neg (by rw [hB]; simp), if_neg (by rw [hk]; decide), if_neg (by rw [hk]; decide)]
    rw [hM] at hv
    rw [hv]
    refine ⟨?_, d2, hc, Int.le_refl _, p4, ?_, p3, p1, p2, fun y hy => hy, fun h => ?_⟩
    · show Dir Wn B sk Ok v.N v.C (G ++ []) a
      rw [List.append_nil]
      exact din
    · rw [if_neg (by rw [hk]; decide)]
      show [] ++ (paysV now (recvS v g) v.O).1.map (pg { v with s := recvS v g }) = [] ++ (paysV now (recvS v g) v.O).1.map (fun x => (⟨1, 1, x.1, v.N, 0, x.2⟩ : GV))
      congr 1
      refine List.map_congr_left (fun x _ => ?_)
      show (⟨v.conn, 1, x.1, v.N, 0, x.2⟩ : GV) = _
      rw [hc]
    · rw [hk] at h
      cases h
  · have hB : recvB v g = false := by rw [recvB, hov, gc, hc, hk]; rfl
    have hM : recvM v g = ⟨recvS v g, (tkV Wn v.N v.C g.seq g.body).2.2.1, (tkV Wn v.N v.C g.seq g.body).2.2.2, v.conn, v.O⟩ := by rw [recvM, if_pos hk, hw]
    have hv : recvV v now g = (((tkV Wn v.N v.C g.seq g.body).2.1, [⟨v.conn, 2, 0, (recvM v g).N, 0, []⟩] ++ (paysV now (recvM v g).s v.O).1.map (pg (recvM v g))), (recvM v g).to (paysV now (recvM v g).s v.O).2.1 (paysV now (recvM v g).s v.O).2.2) := by rw [recvV, if_neg (by rw [hB]; simp), if_pos hk, if_pos hk, hw]
    rw [hM] at hv
    obtain ⟨t1, t2, t3, t4⟩ := din.take hb hx
    rw [hv]
    refine ⟨t1, d2, hc, t2, p4, ?_, p3, p1, p2, t3, fun _ => t4⟩
    rw [if_pos hk]
    show [(⟨v.conn, 2, 0, (tkV Wn v.N v.C g.seq g.body).2.2.1, 0, []⟩ : GV)] ++ (paysV now (recvS v g) v.O).1.map (pg ⟨recvS v g, (tkV Wn v.N v.C g.seq g.body).2.2.1, (tkV Wn v.N v.C g.seq g.body).2.2.2, v.conn, v.O⟩) = [(⟨1, 2, 0, (tkV Wn v.N v.C g.seq g.body).2.2.1, 0, []⟩ : GV)] ++ (paysV now (recvS v g) v.O).1.map (fun x => (⟨1, 1, x.1, (tkV Wn v.N v.C g.seq g.body).2.2.1, 0, x.2⟩ : GV))
    rw [hc]
    rfl
/-! Time -/
structure TSI (s : SV) : Prop where
  b : s.B = 50
  m : s.M = 1000
  r : s.R = 20
  ts : ∀ w ∈ s.TS, w.2.1 = 50 ∧ w.2.2 = 0
theorem TSI.ack {s : SV} (t : TSI s) (k : Int) : TSI (ackV s k).2 := by
  unfold ackV
  split
  · exact t
  · exact ⟨t.b, t.m, t.r, fun w hw => t.ts w (List.mem_filter.1 hw).1⟩
theorem wait50 : waitV 50 1000 0 = 50 := rfl
theorem TSI.send {s : SV} (t : TSI s) (b : List Int) : TSI (sendV s 0 b).2 := by
  unfold sendV
  split
  · exact t
  · split
    · exact t
    · refine ⟨t.b, t.m, t.r, fun w hw => ?_⟩
      rcases mem_insS hw with hw | hw
      · exact t.ts w hw
      · rw [hw, t.b, t.m]
        exact ⟨rfl, rfl⟩
theorem TSI.pays : ∀ (O : List (List Int)) {s : SV}, TSI s → TSI (paysV 0 s O).2.1
  | [], s, t => t
  | b :: O, s, t => by
    rw [paysV]
    split
    · exact TSI.pays O (t.send b)
    · exact t
theorem TSI.recv {v : CV} (t : TSI v.s) (g : GV) : TSI (recvV v 0 g).2.s := by
  unfold recvV
  split
  · exact t
  · have hs : (recvM v g).s = recvS v g := by
      unfold recvM
      split <;> rfl
    show TSI (paysV 0 (recvM v g).s v.O).2.1
    rw [hs]
    exact (t.ack g.ack).pays v.O
theorem TSI.push {v : CV} (t : TSI v.s) (b : List Int) : TSI (pushV v 0 b).2.s := by
  unfold pushV
  split
  · exact t
  · split
    · exact t
    · exact t.pays _
theorem ts_all : ∀ {S : List Wt}, (∀ w ∈ S, w.2.1 = 50 ∧ w.2.2 = 0) → agS 20 1000 S = keys S ∧ ovS 20 1000 S = [] ∧ keys (rsS 50 1000 20 1000 S) = keys S
  | [], _ => ⟨rfl, rfl, rfl⟩
  | x :: S, h => by
    obtain ⟨h1, h2⟩ := h x (by simp)
    obtain ⟨i1, i2, i3⟩ := ts_all (S := S) (fun y hy => h y (List.mem_cons_of_mem _ hy))
    have hg : ¬ x.2.1 > 1000 := by omega
    have hl : x.2.2 < 20 := by omega
    have ea : agB 20 1000 x = true := by rw [agB, decide_eq_false hg, decide_eq_true hl]; rfl
    have eo : ovB 20 1000 x = false := by rw [ovB, decide_eq_true hl]; simp
    have ed : dueF 50 1000 20 1000 x = some (x.1, 1000 + waitV 50 1000 (x.2.2 + 1), x.2.2 + 1) := by rw [dueF, if_neg hg, if_pos hl]
    refine ⟨?_, ?_, ?_⟩
    · rw [agS, List.filter_cons_of_pos ea]
      show x.1 :: agS 20 1000 S = x.1 :: keys S
      rw [i1]
    · rw [ovS, List.filter_cons_of_neg (by rw [eo]; simp)]
      exact i2
    · have er : rsS 50 1000 20 1000 (x :: S) = (x.1, 1000 + waitV 50 1000 (x.2.2 + 1), x.2.2 + 1) :: rsS 50 1000 20 1000 S := by
        unfold rsS
        rw [List.filterMap_cons, ed]
      rw [er]
      show x.1 :: keys (rsS 50 1000 20 1000 S) = x.1 :: keys S
      rw [i3]
/-- what a Pass tells -/
structure Psd (Wn : Int) (B : List (List Int)) (N : Int) (C : Hd) (G : List (List Int)) (a : Int) (v : CV) (R : (List GV × Int) × CV) (l : List Int) (P : List (Int × List Int)) : Prop where
  d : Dir Wn B R.2.s R.2.O N C G a
  e : R.1.2 = 0
  conn : R.2.conn = 1
  n : R.2.N = v.N
  c : R.2.C = v.C
  out : R.1.1 = l.map (fun x => (⟨1, 1, x, v.N, 0, bodyV v.s.C x⟩ : GV)) ++ P.map (fun x => (⟨1, 1, x.1, v.N, 0, x.2⟩ : GV))
  lm : ∀ x, x ∈ l ↔ a ≤ x ∧ x < v.s.N
  ll : (l.length : Int) = v.s.N - a
  lb : ∀ x ∈ l, At B x (bodyV v.s.C x)
  sn : v.s.N ≤ R.2.s.N
  len : P.length + R.2.O.length = v.O.length
  p : ∀ x ∈ P, At B x.1 x.2 ∧ v.s.N ≤ x.1 ∧ x.1 < R.2.s.N
  all : ∀ y, v.s.N ≤ y → y < R.2.s.N → ∃ x ∈ P, x.1 = y
theorem psd {Wn : Int} {B : List (List Int)} {N : Int} {C : Hd} {G : List (List Int)} {a : Int} {v : CV} (dd : Dir Wn B v.s v.O N C G a) (hc : v.conn = 1) (t : TSI v.s) : ∃ l P, Psd Wn B N C G a v (passV v 1000) l P := by
  have d := dd.d
  obtain ⟨t1, t2, t3⟩ := ts_all t.ts
  have hv : againV v.s 1000 = ((keys v.s.TS, 0), { v.s with TS := rsS 50 1000 20 1000 v.s.TS }) := by
    have e1 : ovS v.s.R 1000 v.s.TS = [] := by rw [t.r]; exact t2
    have e2 : agS v.s.R 1000 v.s.TS = keys v.s.TS := by rw [t.r]; exact t1
    have e3 : rsS v.s.B v.s.M v.s.R 1000 v.s.TS = rsS 50 1000 20 1000 v.s.TS := by rw [t.r, t.b, t.m]
    rw [againV, if_neg (by rw [d.ov]; simp), if_pos e1, e2, e3]
  have o2 := d.ok.again 1000
  rw [hv] at o2
  have kr2 : KR { v.s with TS := rsS 50 1000 20 1000 v.s.TS } a := ⟨d.kr.le, d.kr.c, fun k => by
    show k ∈ keys (rsS 50 1000 20 1000 v.s.TS) ↔ _
    rw [t3]
    exact d.kr.t k⟩
  have d2 : Dir0 Wn B { v.s with TS := rsS 50 1000 20 1000 v.s.TS } v.O N C G a := ⟨o2, kr2, d.ov, d.w, d.le, d.o, d.sc, d.bl, d.g, d.kh, d.tc, d.n0, d.ai⟩
  obtain ⟨e1, p1, p2, p3, p4⟩ := d2.pays 1000
  have hM : passM v 1000 = { v with s := { v.s with TS := rsS 50 1000 20 1000 v.s.TS } } := by rw [passM, hv]
  have hp : passV v 1000 = (((keys v.s.TS).map (dataV (passM v 1000)) ++ (paysV 1000 (passM v 1000).s v.O).1.map (pg (passM v 1000)), 0), (passM v 1000).to (paysV 1000 (passM v 1000).s v.O).2.1 (paysV 1000 (passM v 1000).s v.O).2.2) := by
    rw [passV, hv, if_pos rfl]
  rw [hM] at hp
  have hl := (d.kr.len d.ok).2
  refine ⟨keys v.s.TS, (paysV 1000 { v.s with TS := rsS 50 1000 20 1000 v.s.TS } v.O).1, ?_⟩
  rw [hp]
  refine ⟨e1, rfl, hc, rfl, rfl, ?_, d.kr.t, by rw [keys_length]; exact hl, fun x hx => ?_, p4, p3, p1, p2⟩
  · show (keys v.s.TS).map (dataV { v with s := { v.s with TS := rsS 50 1000 20 1000 v.s.TS } }) ++ (paysV 1000 { v.s with TS := rsS 50 1000 20 1000 v.s.TS } v.O).1.map (pg { v with s := { v.s with TS := rsS 50 1000 20 1000 v.s.TS } }) = _
    congr 1
    · refine List.map_congr_left (fun x _ => ?_)
      show (⟨v.conn, 1, x, v.N, 0, bodyV v.s.C x⟩ : GV) = _
      rw [hc]
    · refine List.map_congr_left (fun x _ => ?_)
      show (⟨v.conn, 1, x.1, v.N, 0, x.2⟩ : GV) = _
      rw [hc]
  · have hk : x ∈ keys v.s.C := (d.kr.c x).2 ((d.kr.t x).1 hx)
    rw [← sget_some] at hk
    obtain ⟨w, hw⟩ := Option.isSome_iff_exists.1 hk
    have := d.sc (x, w) ((sget_mem d.ok.asc.nodup).1 hw)
    rw [bodyV, hw]
    exact this
end Go.Proofs.Ytoljllfbabahpaa
/-! ChannelOrder: both ways, in plain lists; how long it takes. -/
namespace Go.Proofs.Ytoljllfbabahpaa
open Go Go.Ab
structure OS where
  W : Bool → CV
  L : Bool → List GV
  G : Bool → List (List Int)
def gv0 : GV := ⟨0, 0, 0, 0, 0, []⟩
def dlvR (o : OS) (k : Bool) (j : Nat) (now : Int) : (List (List Int) × List GV) × CV := recvV (o.W (!k)) now ((o.L k).getD j gv0)
/-- the j-th of k's comes -/
def dlv (o : OS) (k : Bool) (j : Nat) (now : Int) : OS :=
  ⟨updB o.W (!k) (dlvR o k j now).2, updB (updB o.L k ((o.L k).eraseIdx j)) (!k) (o.L (!k) ++ (dlvR o k j now).1.2), updB o.G (!k) (o.G (!k) ++ (dlvR o k j now).1.1)⟩
structure IV (Wn : Int) (B : Bool → List (List Int)) (o : OS) (a : Bool → Int) : Prop where
  d : ∀ k, Dir Wn (B k) (o.W k).s (o.W k).O (o.W (!k)).N (o.W (!k)).C (o.G (!k)) (a k)
  cn : ∀ k, (o.W k).conn = 1
  m : ∀ k, ∀ g ∈ o.L k, Msg (B k) (o.W k) g
theorem both {P : Bool → Prop} (k : Bool) (h1 : P k) (h2 : P (!k)) : ∀ i, P i := fun i => by
  cases i <;> cases k <;> first
    | exact h1
    | exact h2
theorem not_ne (k : Bool) : (!k) ≠ k := by cases k <;> decide
theorem ne_not (k : Bool) : k ≠ (!k) := by cases k <;> decide
section
variable {Wn : Int} {B : Bool → List (List Int)} {o : OS} {a : Bool → Int}
theorem dlv_W (o : OS) (k : Bool) (j : Nat) (now : Int) : (dlv o k j now).W k = o.W k ∧ (dlv o k j now).W (!k) = (dlvR o k j now).2 := ⟨updB_ne _ _ (ne_not k), updB_same _ _ _⟩
theorem dlv_L (o : OS) (k : Bool) (j : Nat) (now : Int) : (dlv o k j now).L k = (o.L k).eraseIdx j ∧ (dlv o k j now).L (!k) = o.L (!k) ++ (dlvR o k j now).1.2 := ⟨(updB_ne _ _ (ne_not k)).trans (updB_same _ _ _), updB_same _ _ _⟩
theorem dlv_G (o : OS) (k : Bool) (j : Nat) (now : Int) : (dlv o k j now).G k = o.G k ∧ (dlv o k j now).G (!k) = o.G (!k) ++ (dlvR o k j now).1.1 := ⟨updB_ne _ _ (ne_not k), updB_same _ _ _⟩
theorem gv_mem {L : List GV} {j : Nat} (h : j < L.length) : L.getD j gv0 ∈ L := by
  rw [List.getD_eq_getElem?_getD, List.getElem?_eq_getElem h]
  exact List.getElem_mem h
theorem IV.rcv (v : IV Wn B o a) (k : Bool) {j : Nat} (hj : j < (o.L k).length) (now : Int) : ∃ P, Rcv Wn (B k) (B (!k)) (o.W k).s (o.W k).O (a k) (o.W k).N (o.W k).C (o.G (!k)) (o.G k) (a (!k)) (o.W (!k)) ((o.L k).getD j gv0) (dlvR o k j now) P := by
  have hm := v.m k _ (gv_mem hj)
  have d2 := v.d (!k)
  rw [Bool.not_not] at d2
  exact Ytoljllfbabahpaa.rcv (v.d k) d2 (v.cn (!k)) now hm.conn hm.ack hm.kind
theorem Msg.mono {B : List (List Int)} {v v' : CV} {g : GV} (m : Msg B v g) (h1 : v.N ≤ v'.N) (h2 : v.s.N ≤ v'.s.N) : Msg B v' g :=
  ⟨m.conn, Int.le_trans m.ack h1, m.kind.imp id (fun ⟨a, b, c⟩ => ⟨a, b, Int.lt_of_lt_of_le c h2⟩)⟩
/-- the acks behind it -/
def dlvA (o : OS) (a : Bool → Int) (k : Bool) (j : Nat) : Bool → Int := updB a (!k) (max (a (!k)) ((o.L k).getD j gv0).ack)
theorem IV.step (v : IV Wn B o a) (k : Bool) {j : Nat} (hj : j < (o.L k).length) (now : Int) : IV Wn B (dlv o k j now) (dlvA o a k j) := by
  obtain ⟨P, r⟩ := v.rcv k hj now
  obtain ⟨w1, w2⟩ := dlv_W o k j now
  obtain ⟨l1, l2⟩ := dlv_L o k j now
  obtain ⟨g1, g2⟩ := dlv_G o k j now
  have a1 : dlvA o a k j k = a k := updB_ne _ _ (ne_not k)
  have a2 : dlvA o a k j (!k) = max (a (!k)) ((o.L k).getD j gv0).ack := updB_same _ _ _
  refine ⟨both k ?_ ?_, both k ?_ ?_, both k ?_ ?_⟩
  · rw [w1, w2, g2, a1]
    exact r.din
  · rw [Bool.not_not, w1, w2, g1, a2]
    exact r.dout
  · rw [w1]
    exact v.cn k
  · rw [w2]
    exact r.conn
  · rw [l1, w1]
    exact fun g hg => v.m k g (List.mem_of_mem_eraseIdx hg)
  · rw [l2, w2]
    intro g hg
    rcases List.mem_append.1 hg with hg | hg
    · exact (v.m (!k) g hg).mono r.n r.sn
    · rw [r.out] at hg
      rcases List.mem_append.1 hg with hg | hg
      · split at hg
        · have : g = ⟨1, 2, 0, (dlvR o k j now).2.N, 0, []⟩ := by simpa using hg
          rw [this]
          exact ⟨rfl, Int.le_refl _, .inl rfl⟩
        · cases hg
      · obtain ⟨x, hx, rfl⟩ := List.mem_map.1 hg
        obtain ⟨p1, p2, p3⟩ := r.p x hx
        exact ⟨rfl, Int.le_refl _, .inr ⟨rfl, p1, p3⟩⟩
/-- nothing is lost -/
structure LV (o : OS) (a : Bool → Int) : Prop where
  j1 : ∀ k x, a k ≤ x → x < (o.W k).s.N → (∃ g ∈ o.L k, g.kind = 1 ∧ g.seq = x) ∨ x < (o.W (!k)).N ∨ x ∈ keys (o.W (!k)).C
  j2 : ∀ k, a k = (o.W (!k)).N ∨ (∃ g ∈ o.L (!k), (o.W (!k)).N ≤ g.ack) ∨ ∃ g ∈ o.L k, g.kind = 1
theorem mem_erase {L : List GV} {j : Nat} (hj : j < L.length) {g : GV} (h : g ∈ L) : g ∈ L.eraseIdx j ∨ g = L.getD j gv0 := by
  rw [List.eraseIdx_eq_take_drop_succ]
  have e : L = L.take j ++ L.getD j gv0 :: L.drop (j + 1) := by
    rw [List.getD_eq_getElem?_getD, List.getElem?_eq_getElem hj]
    exact (List.take_append_drop j L).symm.trans (by rw [List.drop_eq_getElem_cons hj]; rfl)
  rw [e] at h
  rcases List.mem_append.1 h with h | h
  · exact .inl (List.mem_append.2 (.inl h))
  · rcases List.mem_cons.1 h with h | h
    · exact .inr h
    · exact .inl (List.mem_append.2 (.inr h))
theorem LV.step (w : LV o a) (v : IV Wn B o a) (k : Bool) {j : Nat} (hj : j < (o.L k).length) (now : Int) : LV (dlv o k j now) (dlvA o a k j) := by
  obtain ⟨P, r⟩ := v.rcv k hj now
  obtain ⟨w1, w2⟩ := dlv_W o k j now
  obtain ⟨l1, l2⟩ := dlv_L o k j now
  have a1 : dlvA o a k j k = a k := updB_ne _ _ (ne_not k)
  have a2 : dlvA o a k j (!k) = max (a (!k)) ((o.L k).getD j gv0).ack := updB_same _ _ _
  have hn := r.n
  have hai := (v.d (!k)).d.ai
  rw [Bool.not_not] at hai
  have hack := (v.m k _ (gv_mem hj)).ack
  have outP : ∀ x ∈ P, (⟨1, 1, x.1, (dlvR o k j now).2.N, 0, x.2⟩ : GV) ∈ (dlvR o k j now).1.2 := fun x hx => by
    rw [r.out]
    exact List.mem_append.2 (.inr (List.mem_map.2 ⟨x, hx, rfl⟩))
  refine ⟨both k ?_ ?_, both k ?_ ?_⟩
  · rw [w1, w2, l1, a1]
    intro x h1 h2
    rcases w.j1 k x h1 h2 with ⟨g, hg, e1, e2⟩ | q
    · rcases mem_erase hj hg with hg | hg
      · exact .inl ⟨g, hg, e1, e2⟩
      · rw [hg] at e1 e2
        have := r.has e1
        rw [e2] at this
        exact .inr this
    · exact .inr (r.mono x q)
  · rw [Bool.not_not, w1, w2, l2, a2]
    intro x h1 h2
    by_cases hx : x < (o.W (!k)).s.N
    · have q := w.j1 (!k) x (by omega) hx
      rw [Bool.not_not] at q
      rcases q with ⟨g, hg, e⟩ | q
      · exact .inl ⟨g, List.mem_append.2 (.inl hg), e⟩
      · exact .inr q
    · obtain ⟨p, hp, e⟩ := r.all x (by omega) h2
      exact .inl ⟨_, List.mem_append.2 (.inr (outP p hp)), rfl, e⟩
  · rw [w2, l1, l2, a1]
    by_cases hk : ((o.L k).getD j gv0).kind = 1
    · refine .inr (.inl ⟨⟨1, 2, 0, (dlvR o k j now).2.N, 0, []⟩, List.mem_append.2 (.inr ?_), Int.le_refl _⟩)
      rw [r.out, if_pos hk]
      exact List.mem_append.2 (.inl (by simp))
    · have eN : (dlvR o k j now).2.N = (o.W (!k)).N := by
        have := r.din.d.g
        unfold dlvR recvV
        split
        · rfl
        · show (recvM (o.W (!k)) ((o.L k).getD j gv0)).N = _
          rw [recvM, if_neg hk]
      rw [eN]
      rcases w.j2 k with q | ⟨g, hg, q⟩ | ⟨g, hg, q⟩
      · exact .inl q
      · exact .inr (.inl ⟨g, List.mem_append.2 (.inl hg), q⟩)
      · rcases mem_erase hj hg with hg | hg
        · exact .inr (.inr ⟨g, hg, q⟩)
        · rw [hg] at q
          exact absurd q hk
  · rw [Bool.not_not, w1, l1, l2, a2]
    have q := w.j2 (!k)
    rw [Bool.not_not] at q
    rcases q with q | ⟨g, hg, q⟩ | ⟨g, hg, q⟩
    · left
      omega
    · rcases mem_erase hj hg with hg | hg
      · exact .inr (.inl ⟨g, hg, q⟩)
      · rw [hg] at q
        left
        omega
    · exact .inr (.inr ⟨g, List.mem_append.2 (.inl hg), q⟩)
/-- all is got -/
def fin (B : Bool → List (List Int)) (o : OS) : Prop := ∀ k, (o.W (!k)).N = (B k).length
theorem IV.le (v : IV Wn B o a) (k : Bool) : (o.W (!k)).N ≤ (o.W k).s.N ∧ (o.W k).s.N ≤ (B k).length ∧ 0 ≤ (o.W (!k)).N := ⟨(v.d k).d.ai.2, (v.d k).d.le, (v.d k).d.n0⟩
theorem fin_dlv (v : IV Wn B o a) (f : fin B o) (k : Bool) {j : Nat} (hj : j < (o.L k).length) (now : Int) : fin B (dlv o k j now) := by
  obtain ⟨P, r⟩ := v.rcv k hj now
  obtain ⟨w1, w2⟩ := dlv_W o k j now
  have v2 := v.step k hj now
  refine both k ?_ ?_
  · have h1 := f k
    have h2 := v2.le k
    rw [w2] at h2 ⊢
    have := r.n
    omega
  · have h1 := f (!k)
    rw [Bool.not_not] at h1 ⊢
    rw [w1]
    exact h1
/-- how many bodies are under way -/
def dat (L : List GV) : Nat := L.countP fun g => g.kind == 1
theorem dat_app (L K : List GV) : dat (L ++ K) = dat L + dat K := List.countP_append
theorem dat_le (L : List GV) : dat L ≤ L.length := List.countP_le_length
theorem dat_erase {L : List GV} {j : Nat} (hj : j < L.length) : dat (L.eraseIdx j) + (if (L.getD j gv0).kind = 1 then 1 else 0) = dat L ∧ (L.eraseIdx j).length + 1 = L.length := by
  have e : L = L.take j ++ L.getD j gv0 :: L.drop (j + 1) := by
    rw [List.getD_eq_getElem?_getD, List.getElem?_eq_getElem hj]
    exact (List.take_append_drop j L).symm.trans (by rw [List.drop_eq_getElem_cons hj]; rfl)
  refine ⟨?_, by rw [List.length_eraseIdx_of_lt hj]; omega⟩
  have e2 : dat L = dat (L.take j) + dat (L.getD j gv0 :: L.drop (j + 1)) := by
    conv => lhs; rw [e]
    exact dat_app _ _
  have e3 : dat (L.getD j gv0 :: L.drop (j + 1)) = dat (L.drop (j + 1)) + (if (L.getD j gv0).kind = 1 then 1 else 0) := by
    unfold dat
    rw [List.countP_cons]
    congr 1
    by_cases h : (L.getD j gv0).kind = 1
    · rw [if_pos h, if_pos (by simpa using h)]
    · rw [if_neg h, if_neg (by simpa using h)]
  rw [List.eraseIdx_eq_take_drop_succ, dat_app, e2, e3]
  omega
theorem dat_map (f : Int × List Int → GV) (hf : ∀ x, (f x).kind = 1) (P : List (Int × List Int)) : dat (P.map f) = P.length := by
  unfold dat
  rw [List.countP_map]
  induction P with
  | nil => rfl
  | cons x P ih =>
    rw [List.countP_cons, ih, if_pos (by simp [hf])]
    rfl
/-- the numbers behind it -/
theorem IV.num (v : IV Wn B o a) (k : Bool) {j : Nat} (hj : j < (o.L k).length) (now : Int) : ∃ p : Nat, (((o.L k).getD j gv0).kind = 1 ∧ dat ((dlv o k j now).L k) + 1 = dat (o.L k) ∧ ((dlv o k j now).L (!k)).length = (o.L (!k)).length + 1 + p ∨ ((o.L k).getD j gv0).kind ≠ 1 ∧ dat ((dlv o k j now).L k) = dat (o.L k) ∧ ((dlv o k j now).L (!k)).length = (o.L (!k)).length + p) ∧
    ((dlv o k j now).L k).length + 1 = (o.L k).length ∧ dat ((dlv o k j now).L (!k)) = dat (o.L (!k)) + p ∧ ((dlv o k j now).W (!k)).O.length + p = (o.W (!k)).O.length ∧ ((dlv o k j now).W k).O.length = (o.W k).O.length := by
  obtain ⟨P, r⟩ := v.rcv k hj now
  obtain ⟨w1, w2⟩ := dlv_W o k j now
  obtain ⟨l1, l2⟩ := dlv_L o k j now
  obtain ⟨d1, d2⟩ := dat_erase hj
  have hP := dat_map (fun x => (⟨1, 1, x.1, (dlvR o k j now).2.N, 0, x.2⟩ : GV)) (fun _ => rfl) P
  have hr := r.len
  refine ⟨P.length, ?_, by rw [l1]; exact d2, ?_, by rw [w2]; omega, by rw [w1]⟩
  · rw [l1, l2, r.out]
    by_cases hk : ((o.L k).getD j gv0).kind = 1
    · rw [if_pos hk] at d1 ⊢
      refine .inl ⟨hk, d1, ?_⟩
      simp
      omega
    · rw [if_neg hk] at d1 ⊢
      refine .inr ⟨hk, by omega, ?_⟩
      simp
  · rw [l2, r.out, dat_app, dat_app, hP]
    split
    · rw [show dat [(⟨1, 2, 0, (dlvR o k j now).2.N, 0, []⟩ : GV)] = 0 from rfl]
      omega
    · rw [show dat [] = 0 from rfl]
      omega
theorem mem_dat {L : List GV} {g : GV} (h : g ∈ L) (hk : g.kind = 1) : 0 < dat L := by
  unfold dat
  rw [List.countP_pos_iff]
  exact ⟨g, h, by simpa using hk⟩
/-- nothing under way, and nothing owed: all is got -/
theorem IV.none (v : IV Wn B o a) (w : LV o a) (h : ∀ k, dat (o.L k) = 0 ∧ (o.W k).O.length = 0) : fin B o := fun k => by
  obtain ⟨n1, n2, n3⟩ := v.le k
  have hd := (v.d k).d
  obtain ⟨q1, q2, q3⟩ := hd.win
  have hO := (h k).2
  by_cases e : (o.W (!k)).N < (o.W k).s.N
  · exfalso
    rcases w.j1 k (o.W (!k)).N hd.ai.1 e with ⟨g, hg, e1, _⟩ | q | q
    · have := mem_dat hg e1
      have := (h k).1
      omega
    · omega
    · have := (hd.kh.key _ q).1
      omega
  · omega
/-- nothing under way at all -/
theorem IV.empty (v : IV Wn B o a) (w : LV o a) (h : ∀ k, o.L k = []) : ∀ k, (o.W k).O.length = 0 := fun k => by
  obtain ⟨n1, n2, n3⟩ := v.le k
  have hd := (v.d k).d
  have hW : 1 ≤ Wn := by
    have := hd.ok.ok
    rw [okW, hd.w] at this
    simp at this
    exact this.1
  have ha : a k = (o.W (!k)).N := by
    rcases w.j2 k with q | ⟨g, hg, _⟩ | ⟨g, hg, _⟩
    · exact q
    · rw [h] at hg
      cases hg
    · rw [h] at hg
      cases hg
  have hs : ¬ (o.W (!k)).N < (o.W k).s.N := fun e => by
    rcases w.j1 k (o.W (!k)).N hd.ai.1 e with ⟨g, hg, _⟩ | q | q
    · rw [h] at hg
      cases hg
    · omega
    · have := (hd.kh.key _ q).1
      omega
  rcases (v.d k).full with q | q
  · rw [q]
    rfl
  · omega
end
end Go.Proofs.Ytoljllfbabahpaa
/-! ChannelOrder: how long it takes till all is got. -/
namespace Go.Proofs.Ytoljllfbabahpaa
open Go Go.Ab
def vis (o : OS) (k : Bool) : OS := match o.L k with
  | [] => o
  | _ :: _ => dlv o k 0 1000
def visN : Nat → Bool → OS → OS
  | 0, _, o => o
  | n + 1, k, o => visN n (!k) (vis o k)
theorem vis_nil {o : OS} {k : Bool} (h : (o.L k).length = 0) : vis o k = o := by
  have h := List.eq_nil_of_length_eq_zero h
  unfold vis
  rw [h]
theorem vis_cons {o : OS} {k : Bool} (h : 0 < (o.L k).length) : vis o k = dlv o k 0 1000 := by
  unfold vis
  cases e : o.L k with
  | nil =>
    rw [e] at h
    simp at h
  | cons x l => rfl
def Okv (Wn : Int) (B : Bool → List (List Int)) (o : OS) : Prop := ∃ a, IV Wn B o a ∧ LV o a
section
variable {Wn : Int} {B : Bool → List (List Int)} {o : OS}
theorem Okv.vis (h : Okv Wn B o) (k : Bool) : Okv Wn B (vis o k) := by
  by_cases e : 0 < (o.L k).length
  · obtain ⟨a, v, w⟩ := h
    rw [vis_cons e]
    exact ⟨_, v.step k e 1000, w.step v k e 1000⟩
  · rw [vis_nil (by omega)]
    exact h
theorem Okv.fin_vis (h : Okv Wn B o) (f : fin B o) (k : Bool) : fin B (Ytoljllfbabahpaa.vis o k) := by
  by_cases e : 0 < (o.L k).length
  · obtain ⟨a, v, w⟩ := h
    rw [vis_cons e]
    exact fin_dlv v f k e 1000
  · rw [vis_nil (by omega)]
    exact f
theorem Okv.fin_visN : ∀ (n : Nat) {o : OS} (k : Bool), Okv Wn B o → fin B o → fin B (visN n k o)
  | 0, o, k, h, f => f
  | n + 1, o, k, h, f => Okv.fin_visN n (!k) (h.vis k) (h.fin_vis f k)
/-- six numbers -/
structure Nm (o : OS) (k : Bool) (lk lm xk xm rk rm : Nat) : Prop where
  lk : (o.L k).length = lk
  lm : (o.L (!k)).length = lm
  xk : dat (o.L k) = xk
  xm : dat (o.L (!k)) = xm
  rk : (o.W k).O.length = rk
  rm : (o.W (!k)).O.length = rm
theorem Nm.mk' (o : OS) (k : Bool) : Nm o k (o.L k).length (o.L (!k)).length (dat (o.L k)) (dat (o.L (!k))) (o.W k).O.length (o.W (!k)).O.length := ⟨rfl, rfl, rfl, rfl, rfl, rfl⟩
theorem Nm.sw {k : Bool} {lk lm xk xm rk rm : Nat} (n : Nm o k lk lm xk xm rk rm) : Nm o (!k) lm lk xm xk rm rk :=
  ⟨n.lm, by rw [Bool.not_not]; exact n.lk, n.xm, by rw [Bool.not_not]; exact n.xk, n.rm, by rw [Bool.not_not]; exact n.rk⟩
theorem Nm.le {k : Bool} {lk lm xk xm rk rm : Nat} (n : Nm o k lk lm xk xm rk rm) : xk ≤ lk ∧ xm ≤ lm := by
  have h1 := dat_le (o.L k)
  have h2 := dat_le (o.L (!k))
  rw [n.lk, n.xk] at h1
  rw [n.lm, n.xm] at h2
  exact ⟨h1, h2⟩
theorem Okv.num (h : Okv Wn B o) {k : Bool} {lk lm xk xm rk rm : Nat} (n : Nm o k lk lm xk xm rk rm) (hl : 0 < lk) : ∃ p lm' xk', p ≤ rm ∧ (xk' + 1 = xk ∧ lm' = lm + 1 + p ∨ xk' = xk ∧ xk < lk ∧ lm' = lm + p) ∧ Nm (Ytoljllfbabahpaa.vis o k) k (lk - 1) lm' xk' (xm + p) rk (rm - p) := by
  obtain ⟨a, v, w⟩ := h
  have hj : 0 < (o.L k).length := by rw [n.lk]; exact hl
  obtain ⟨p, q1, q2, q3, q4, q5⟩ := v.num k hj 1000
  have d := dat_erase hj
  have dl := dat_le ((o.L k).eraseIdx 0)
  rw [vis_cons hj]
  rw [n.lk] at q2 d
  rw [n.xm] at q3
  rw [n.rm] at q4
  rw [n.rk] at q5
  rw [n.xk] at d
  refine ⟨p, ((dlv o k 0 1000).L (!k)).length, dat ((dlv o k 0 1000).L k), by omega, ?_, ⟨by omega, rfl, rfl, q3, q5, by omega⟩⟩
  rcases q1 with ⟨e1, e2, e3⟩ | ⟨e1, e2, e3⟩
  · rw [n.xk] at e2
    rw [n.lm] at e3
    exact .inl ⟨e2, e3⟩
  · rw [n.xk] at e2
    rw [n.lm] at e3
    rw [if_neg e1] at d
    exact .inr ⟨e2, by omega, e3⟩
theorem Okv.both0 (h : Okv Wn B o) {k : Bool} {lk lm xk xm rk rm : Nat} (n : Nm o k lk lm xk xm rk rm) (h1 : lk = 0) (h2 : lm = 0) : fin B o := by
  obtain ⟨a, v, w⟩ := h
  have e1 : o.L k = [] := List.eq_nil_of_length_eq_zero (by rw [n.lk]; exact h1)
  have e2 : o.L (!k) = [] := List.eq_nil_of_length_eq_zero (by rw [n.lm]; exact h2)
  have hl : ∀ i, o.L i = [] := both k e1 e2
  have ho := v.empty w hl
  exact v.none w (fun i => ⟨by rw [hl]; rfl, ho i⟩)
/-- how much is left at most -/
def mx (lk lm xk xm rk rm : Nat) : Nat := max (lk + xm) (lm + xk) + rk + rm
/-- how often nothing is gained yet -/
def fl (lk lm xk xm rk : Nat) : Nat := rk + xk + (lm - xm) + (if lk = 0 then 1 else 0)
theorem Okv.pair (h : Okv Wn B o) {k : Bool} {lk lm xk xm rk rm : Nat} (n : Nm o k lk lm xk xm rk rm) :
    fin B (Ytoljllfbabahpaa.vis (Ytoljllfbabahpaa.vis o k) (!k)) ∨ ∃ lk' lm' xk' xm' rk' rm', Nm (Ytoljllfbabahpaa.vis (Ytoljllfbabahpaa.vis o k) (!k)) k lk' lm' xk' xm' rk' rm' ∧ mx lk' lm' xk' xm' rk' rm' + fl lk' lm' xk' xm' rk' + 1 ≤ mx lk lm xk xm rk rm + fl lk lm xk xm rk ∧ rk' ≤ rk ∧ (mx lk' lm' xk' xm' rk' rm' + 1 ≤ mx lk lm xk xm rk rm ∨ lk = 0 ∧ lm = xm) := by
  obtain ⟨b1, b2⟩ := n.le
  by_cases hk : 0 < lk
  · obtain ⟨p, lm1, xk1, hp, hc, n1⟩ := h.num n hk
    have h1 := h.vis k
    obtain ⟨c1, c2⟩ := n1.le
    by_cases hm : 0 < lm1
    · obtain ⟨q, lk2, xm2, hq, hd, n2⟩ := h1.num n1.sw hm
      have n2 := n2.sw
      rw [Bool.not_not] at n2
      refine .inr ⟨_, _, _, _, _, _, n2, ?_⟩
      unfold mx fl
      rw [if_neg (show ¬ lk = 0 by omega)]
      obtain ⟨c3, c4⟩ := n2.le
      by_cases hz : lk2 = 0
      · rw [if_pos hz]
        rcases hc with hc | hc <;> rcases hd with hd | hd <;> (refine ⟨?_, by omega, .inl ?_⟩ <;> omega)
      · rw [if_neg hz]
        rcases hc with hc | hc <;> rcases hd with hd | hd <;> (refine ⟨?_, by omega, .inl ?_⟩ <;> omega)
    · have e : Ytoljllfbabahpaa.vis (Ytoljllfbabahpaa.vis o k) (!k) = Ytoljllfbabahpaa.vis o k := vis_nil (by rw [n1.lm]; omega)
      rw [e]
      by_cases hz : lk - 1 = 0
      · exact .inl (h1.both0 n1 hz (by omega))
      · refine .inr ⟨_, _, _, _, _, _, n1, ?_⟩
        unfold mx fl
        rw [if_neg (show ¬ lk = 0 by omega), if_neg hz]
        rcases hc with hc | hc <;> (refine ⟨?_, by omega, .inl ?_⟩ <;> omega)
  · have e : Ytoljllfbabahpaa.vis o k = o := vis_nil (by rw [n.lk]; omega)
    rw [e]
    by_cases hm : 0 < lm
    · obtain ⟨q, lk2, xm2, hq, hd, n2⟩ := h.num n.sw hm
      have n2 := n2.sw
      rw [Bool.not_not] at n2
      obtain ⟨c3, c4⟩ := n2.le
      refine .inr ⟨_, _, _, _, _, _, n2, ?_⟩
      unfold mx fl
      rw [if_pos (show lk = 0 by omega)]
      by_cases hz : lk2 = 0
      · rw [if_pos hz]
        rcases hd with hd | hd
        · refine ⟨?_, by omega, ?_⟩ <;> omega
        · refine ⟨?_, by omega, .inl ?_⟩ <;> omega
      · rw [if_neg hz]
        rcases hd with hd | hd
        · by_cases hx : lm = xm
          · refine ⟨?_, by omega, .inr ⟨by omega, hx⟩⟩
            omega
          · refine ⟨?_, by omega, .inl ?_⟩ <;> omega
        · refine ⟨?_, by omega, .inl ?_⟩ <;> omega
    · have f := h.both0 n (by omega) (by omega)
      exact .inl (h.fin_vis f (!k))
theorem visN_two (n : Nat) (k : Bool) (o : OS) : visN (2 * (n + 1)) k o = visN (2 * n) k (vis (vis o k) (!k)) := by
  rw [show 2 * (n + 1) = 2 * n + 1 + 1 by omega, visN, visN, Bool.not_not]
theorem Okv.post : ∀ (n : Nat) {o : OS} {k : Bool} {lk lm xk xm rk rm : Nat}, Okv Wn B o → Nm o k lk lm xk xm rk rm → mx lk lm xk xm rk rm + fl lk lm xk xm rk ≤ n → fin B (visN (2 * n) k o)
  | 0, o, k, lk, lm, xk, xm, rk, rm, h, nm, hn => by
    unfold mx at hn
    exact h.both0 nm (by omega) (by omega)
  | n + 1, o, k, lk, lm, xk, xm, rk, rm, h, nm, hn => by
    rw [visN_two]
    rcases h.pair nm with f | ⟨lk', lm', xk', xm', rk', rm', nm', h1, h2, h3⟩
    · exact Okv.fin_visN _ _ ((h.vis k).vis (!k)) f
    · exact Okv.post n ((h.vis k).vis (!k)) nm' (by omega)
theorem Okv.pre : ∀ (n : Nat) {o : OS} {k : Bool} {lk lm xk xm rk rm : Nat}, Okv Wn B o → Nm o k lk lm xk xm rk rm → mx lk lm xk xm rk rm + rk + 1 ≤ n → fin B (visN (2 * n) k o)
  | 0, o, k, lk, lm, xk, xm, rk, rm, h, nm, hn => by omega
  | n + 1, o, k, lk, lm, xk, xm, rk, rm, h, nm, hn => by
    by_cases hf : lk = 0 ∧ lm = xm
    · have := nm.le
      refine h.post (n + 1) nm ?_
      have e : fl lk lm xk xm rk = rk + 1 := by
        unfold fl
        rw [if_pos hf.1]
        omega
      omega
    · rw [visN_two]
      rcases h.pair nm with f | ⟨lk', lm', xk', xm', rk', rm', nm', h1, h2, h3⟩
      · exact Okv.fin_visN _ _ ((h.vis k).vis (!k)) f
      · refine Okv.pre n ((h.vis k).vis (!k)) nm' ?_
        rcases h3 with h3 | h3
        · omega
        · exact absurd h3 hf
end
end Go.Proofs.Ytoljllfbabahpaa
/-! ChannelOrder: what is pushed, doubled, lost; time; and the end. -/
namespace Go.Proofs.Ytoljllfbabahpaa
open Go Go.Ab
def psh (o : OS) (k : Bool) (b : List Int) : OS := ⟨updB o.W k (pushV (o.W k) 0 b).2, updB o.L k (o.L k ++ (pushV (o.W k) 0 b).1.1), o.G⟩
def dup (o : OS) (k : Bool) (j : Nat) : OS := ⟨o.W, updB o.L k (o.L k ++ [(o.L k).getD j gv0]), o.G⟩
def drp (o : OS) (k : Bool) (j : Nat) : OS := ⟨o.W, updB o.L k ((o.L k).eraseIdx j), o.G⟩
def pss (o : OS) (k : Bool) : OS := ⟨updB o.W k (passV (o.W k) 1000).2, updB o.L k (o.L k ++ (passV (o.W k) 1000).1.1), o.G⟩
def cnt2 (o : OS) : Nat := (o.L false).length + (o.L true).length + (o.W false).O.length + (o.W true).O.length
theorem cnt2_at (o : OS) (k : Bool) : cnt2 o = (o.L k).length + (o.L (!k)).length + (o.W k).O.length + (o.W (!k)).O.length := by
  unfold cnt2
  cases k
  · rfl
  · show _ = (o.L true).length + (o.L false).length + (o.W true).O.length + (o.W false).O.length
    omega
theorem Msg.app {B : List (List Int)} {v : CV} {g : GV} (m : Msg B v g) (c : List (List Int)) : Msg (B ++ c) v g :=
  ⟨m.conn, m.ack, m.kind.imp id (fun ⟨a, b, d⟩ => ⟨a, b.app c, d⟩)⟩
section
variable {Wn : Int} {B : Bool → List (List Int)} {o : OS} {a : Bool → Int}
theorem IV.a0 (v : IV Wn B o a) (k : Bool) : 0 ≤ a k := by
  have d := (v.d k).d
  have h1 := d.kr.le
  have h2 := d.ok.n0
  by_cases e : a k < (o.W k).s.N
  · exact (d.ok.kb _ ((d.kr.c _).2 ⟨Int.le_refl _, e⟩)).1
  · omega
theorem IV.psh (v : IV Wn B o a) (k : Bool) {b : List Int} (hb : b.length ≤ 100000) (hf : ¬ 64 ≤ (o.W k).O.length) : IV Wn (updB B k (B k ++ [b])) (psh o k b) a ∧ (pushV (o.W k) 0 b).1.2 = 0 ∧ cnt2 (Ytoljllfbabahpaa.psh o k b) ≤ cnt2 o + 1 := by
  have hov := (v.d k).d.ov
  obtain ⟨d1, p1, p2, p3, p4⟩ := ((v.d k).d.push b hb).pays 0
  have hv : pushV (o.W k) 0 b = (((paysV 0 (o.W k).s ((o.W k).O ++ [b])).1.map (pg (o.W k)), 0), (o.W k).to (paysV 0 (o.W k).s ((o.W k).O ++ [b])).2.1 (paysV 0 (o.W k).s ((o.W k).O ++ [b])).2.2) := by rw [pushV, if_neg (by rw [hov]; simp), if_neg hf]
  have w1 : (Ytoljllfbabahpaa.psh o k b).W k = (o.W k).to (paysV 0 (o.W k).s ((o.W k).O ++ [b])).2.1 (paysV 0 (o.W k).s ((o.W k).O ++ [b])).2.2 := (updB_same _ _ _).trans (by rw [hv])
  have w2 : (Ytoljllfbabahpaa.psh o k b).W (!k) = o.W (!k) := updB_ne _ _ (not_ne k)
  have l1 : (Ytoljllfbabahpaa.psh o k b).L k = o.L k ++ (paysV 0 (o.W k).s ((o.W k).O ++ [b])).1.map (pg (o.W k)) := (updB_same _ _ _).trans (by rw [hv])
  have l2 : (Ytoljllfbabahpaa.psh o k b).L (!k) = o.L (!k) := updB_ne _ _ (not_ne k)
  have b1 : updB B k (B k ++ [b]) k = B k ++ [b] := updB_same _ _ _
  have b2 : updB B k (B k ++ [b]) (!k) = B (!k) := updB_ne _ _ (not_ne k)
  refine ⟨⟨both k ?_ ?_, both k ?_ ?_, both k ?_ ?_⟩, by rw [hv], ?_⟩
  · rw [w1, w2, b1]
    exact d1
  · rw [Bool.not_not, w1, w2, b2]
    have := v.d (!k)
    rw [Bool.not_not] at this
    exact this
  · rw [w1]
    exact v.cn k
  · rw [w2]
    exact v.cn (!k)
  · rw [l1, w1, b1]
    intro g hg
    rcases List.mem_append.1 hg with hg | hg
    · exact ((v.m k g hg).app [b]).mono (Int.le_refl _) p4
    · obtain ⟨x, hx, rfl⟩ := List.mem_map.1 hg
      obtain ⟨q1, q2, q3⟩ := p1 x hx
      exact ⟨v.cn k, Int.le_refl _, .inr ⟨rfl, q1, q3⟩⟩
  · rw [l2, w2, b2]
    exact v.m (!k)
  · rw [cnt2_at _ k, cnt2_at o k, w1, w2, l1, l2, List.length_append, List.length_map]
    have e : ((o.W k).O ++ [b]).length = (o.W k).O.length + 1 := by simp
    show _ + _ + _ + (paysV 0 (o.W k).s ((o.W k).O ++ [b])).2.2.length + _ ≤ _
    omega
theorem IV.same (v : IV Wn B o a) {L' : Bool → List GV} (h : ∀ k, ∀ g ∈ L' k, g ∈ o.L k) : IV Wn B ⟨o.W, L', o.G⟩ a :=
  ⟨v.d, v.cn, fun k g hg => v.m k g (h k g hg)⟩
theorem IV.dup (v : IV Wn B o a) (k : Bool) {j : Nat} (hj : j < (o.L k).length) : IV Wn B (dup o k j) a ∧ cnt2 (Ytoljllfbabahpaa.dup o k j) = cnt2 o + 1 := by
  refine ⟨v.same (both k ?_ ?_), ?_⟩
  · rw [updB_same]
    intro g hg
    rcases List.mem_append.1 hg with hg | hg
    · exact hg
    · have : g = (o.L k).getD j gv0 := by simpa using hg
      rw [this]
      exact gv_mem hj
  · rw [updB_ne _ _ (not_ne k)]
    exact fun g hg => hg
  · rw [cnt2_at _ k, cnt2_at o k]
    have e1 : (Ytoljllfbabahpaa.dup o k j).L k = o.L k ++ [(o.L k).getD j gv0] := updB_same _ _ _
    have e2 : (Ytoljllfbabahpaa.dup o k j).L (!k) = o.L (!k) := updB_ne _ _ (not_ne k)
    rw [e1, e2, List.length_append]
    show _ + 1 + _ + (o.W k).O.length + (o.W (!k)).O.length = _
    omega
theorem IV.drp (v : IV Wn B o a) (k : Bool) {j : Nat} (hj : j < (o.L k).length) : IV Wn B (drp o k j) a ∧ cnt2 (Ytoljllfbabahpaa.drp o k j) ≤ cnt2 o := by
  refine ⟨v.same (both k ?_ ?_), ?_⟩
  · rw [updB_same]
    exact fun g hg => List.mem_of_mem_eraseIdx hg
  · rw [updB_ne _ _ (not_ne k)]
    exact fun g hg => hg
  · rw [cnt2_at _ k, cnt2_at o k]
    have e1 : (Ytoljllfbabahpaa.drp o k j).L k = (o.L k).eraseIdx j := updB_same _ _ _
    have e2 : (Ytoljllfbabahpaa.drp o k j).L (!k) = o.L (!k) := updB_ne _ _ (not_ne k)
    rw [e1, e2, List.length_eraseIdx_of_lt hj]
    show _ + _ + (o.W k).O.length + (o.W (!k)).O.length ≤ _
    omega
theorem IV.cnt_dlv (v : IV Wn B o a) (k : Bool) {j : Nat} (hj : j < (o.L k).length) (now : Int) : cnt2 (dlv o k j now) ≤ cnt2 o := by
  obtain ⟨p, q1, q2, q3, q4, q5⟩ := v.num k hj now
  rw [cnt2_at _ k, cnt2_at o k]
  rcases q1 with ⟨e1, e2, e3⟩ | ⟨e1, e2, e3⟩ <;> omega
/-- all that is under way is under way -/
def Und (o : OS) (a : Bool → Int) (k : Bool) : Prop := ∀ x, a k ≤ x → x < (o.W k).s.N → ∃ g ∈ o.L k, g.kind = 1 ∧ g.seq = x
theorem IV.pss (v : IV Wn B o a) (k : Bool) (t : TSI (o.W k).s) : IV Wn B (pss o k) a ∧ (passV (o.W k) 1000).1.2 = 0 ∧ Und (Ytoljllfbabahpaa.pss o k) a k ∧ (Und o a (!k) → Und (Ytoljllfbabahpaa.pss o k) a (!k)) ∧ (cnt2 (Ytoljllfbabahpaa.pss o k) : Int) = cnt2 o + ((o.W k).s.N - a k) ∧ ((Ytoljllfbabahpaa.pss o k).W k).O.length ≤ (o.W k).O.length ∧ (Ytoljllfbabahpaa.pss o k).W (!k) = o.W (!k) := by
  obtain ⟨l, P, s⟩ := psd (v.d k) (v.cn k) t
  have w1 : (Ytoljllfbabahpaa.pss o k).W k = (passV (o.W k) 1000).2 := updB_same _ _ _
  have w2 : (Ytoljllfbabahpaa.pss o k).W (!k) = o.W (!k) := updB_ne _ _ (not_ne k)
  have l1 : (Ytoljllfbabahpaa.pss o k).L k = o.L k ++ (passV (o.W k) 1000).1.1 := updB_same _ _ _
  have l2 : (Ytoljllfbabahpaa.pss o k).L (!k) = o.L (!k) := updB_ne _ _ (not_ne k)
  have hlen := s.len
  have hll := s.ll
  refine ⟨⟨both k ?_ ?_, both k ?_ ?_, both k ?_ ?_⟩, s.e, ?_, ?_, ?_, by rw [w1]; omega, w2⟩
  · rw [w1, w2]
    exact s.d
  · rw [Bool.not_not, w1, w2, s.n, s.c]
    have := v.d (!k)
    rw [Bool.not_not] at this
    exact this
  · rw [w1]
    exact s.conn
  · rw [w2]
    exact v.cn (!k)
  · rw [l1, w1]
    intro g hg
    rcases List.mem_append.1 hg with hg | hg
    · exact (v.m k g hg).mono (Int.le_of_eq s.n.symm) s.sn
    · rw [s.out] at hg
      rcases List.mem_append.1 hg with hg | hg
      · obtain ⟨x, hx, rfl⟩ := List.mem_map.1 hg
        have h2 := ((s.lm x).1 hx).2
        have h3 := s.sn
        exact ⟨rfl, Int.le_of_eq s.n.symm, .inr ⟨rfl, s.lb x hx, by show x < _; omega⟩⟩
      · obtain ⟨x, hx, rfl⟩ := List.mem_map.1 hg
        obtain ⟨q1, q2, q3⟩ := s.p x hx
        exact ⟨rfl, Int.le_of_eq s.n.symm, .inr ⟨rfl, q1, q3⟩⟩
  · rw [l2, w2]
    exact v.m (!k)
  · intro x h1 h2
    rw [w1] at h2
    rw [l1, s.out]
    by_cases hx : x < (o.W k).s.N
    · exact ⟨_, List.mem_append.2 (.inr (List.mem_append.2 (.inl (List.mem_map.2 ⟨x, (s.lm x).2 ⟨h1, hx⟩, rfl⟩)))), rfl, rfl⟩
    · obtain ⟨y, hy, e⟩ := s.all x (by omega) h2
      exact ⟨_, List.mem_append.2 (.inr (List.mem_append.2 (.inr (List.mem_map.2 ⟨y, hy, rfl⟩)))), rfl, e⟩
  · intro u x h1 h2
    rw [w2] at h2
    rw [l2]
    exact u x h1 h2
  · rw [cnt2_at _ k, cnt2_at o k, w1, w2, l1, l2, List.length_append, s.out, List.length_append, List.length_map, List.length_map]
    omega
theorem lv_of (v : IV Wn B o a) (u : ∀ k, Und o a k) : LV o a := by
  refine ⟨fun k x h1 h2 => .inl (u k x h1 h2), fun k => ?_⟩
  have h := (v.d k).d.ai
  by_cases e : a k = (o.W (!k)).N
  · exact .inl e
  · obtain ⟨g, hg, hk, _⟩ := u k (a k) (Int.le_refl _) (by omega)
    exact .inr (.inr ⟨g, hg, hk⟩)
def ps2 (o : OS) : OS := pss (pss o false) true
theorem IV.ph2 (v : IV Wn B o a) (t : ∀ k, TSI (o.W k).s) (hW : Wn ≤ 16) (hB : ∀ k, (B k).length ≤ 25) (hc : cnt2 o ≤ 130) : IV Wn B (ps2 o) a ∧ (∀ k, fin B (visN 400 k (ps2 o))) ∧ (passV (o.W false) 1000).1.2 = 0 ∧ (passV ((Ytoljllfbabahpaa.pss o false).W true) 1000).1.2 = 0 ∧ cnt2 (ps2 o) ≤ 200 := by
  obtain ⟨v1, e1, u1, _, c1, r1, x1⟩ := v.pss false (t false)
  have x1 : (Ytoljllfbabahpaa.pss o false).W true = o.W true := x1
  obtain ⟨v2, e2, u2, u3, c2, r2, x2⟩ := v1.pss true (by rw [x1]; exact t true)
  have x2 : (ps2 o).W false = (Ytoljllfbabahpaa.pss o false).W false := x2
  have u3 := u3 u1
  have hu : ∀ k, Und (ps2 o) a k := fun k => by
    cases k
    · exact u3
    · exact u2
  have ok : Okv Wn B (ps2 o) := ⟨a, v2, lv_of v2 hu⟩
  rw [x1] at c2 r2
  obtain ⟨w1, w2, w3⟩ := (v.d false).d.win
  obtain ⟨z1, z2, z3⟩ := (v.d true).d.win
  have a1 := v.a0 false
  have a2 := v.a0 true
  have b1 := hB false
  have b2 := hB true
  have c3 : (cnt2 (ps2 o) : Int) = cnt2 (Ytoljllfbabahpaa.pss o false) + ((o.W true).s.N - a true) := c2
  refine ⟨v2, fun k => ok.pre 200 (Nm.mk' (ps2 o) k) ?_, e1, e2, by omega⟩
  have q1 := dat_le ((ps2 o).L k)
  have q2 := dat_le ((ps2 o).L (!k))
  have q3 := cnt2_at (ps2 o) k
  have c2 : (cnt2 (ps2 o) : Int) = cnt2 (Ytoljllfbabahpaa.pss o false) + ((o.W true).s.N - a true) := c2
  have r2 : ((ps2 o).W true).O.length ≤ (o.W true).O.length := r2
  unfold mx
  cases k
  · have r1 : ((ps2 o).W false).O.length ≤ (o.W false).O.length := by rw [x2]; exact r1
    omega
  · omega
end
end Go.Proofs.Ytoljllfbabahpaa
