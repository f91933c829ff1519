/- ChannelOwes: in plain lists. -/
import Derived.Test.YtoljllfbabahpaaU28
set_option linter.unusedVariables false
namespace Go.Proofs.Ytoljllfbabahpaa
open Go Go.Ab
theorem KR.roomOf {s : SV} {a : Int} (k : KR s a) (o : SOk s) (hov : s.ov = false) : roomOf s = s.W - (s.N - a) := by
  have := (k.len o).1
  unfold Ytoljllfbabahpaa.roomOf roomV
  rw [if_neg (by rw [hov]; simp)]
  omega
theorem pays_kr (now a : Int) : ∀ (O : List (List Int)) {s : SV}, SOk s → KR s a → s.ov = false → (∀ b ∈ O, b.length ≤ 100000) →
    KR (paysV now s O).2.1 a ∧ (paysV now s O).2.1.ov = false ∧ ((paysV now s O).2.2 = [] ∨ (paysV now s O).2.1.N - a = s.W) ∧ (paysV now s O).2.2 = O.drop (paysV now s O).1.length ∧ (∀ j (hj : j < (paysV now s O).1.length), (paysV now s O).1[j].1 = s.N + (j : Int) ∧ O[j]? = some (paysV now s O).1[j].2)
  | [], s, o, k, hov, _ => ⟨k, hov, .inl rfl, rfl, fun j hj => absurd hj (Nat.not_lt_zero _)⟩
  | b :: O, s, o, k, hov, h => by
    have hr := k.roomOf o hov
    have hl := o.len
    have hkl := (k.len o).1
    by_cases hp : 0 < roomOf s
    · obtain ⟨z1, z2, z3, z4, z5, z6, z7⟩ := k.send o hov now b (by omega)
      obtain ⟨i1, i2, i3, i4, i5⟩ := pays_kr now a O (o.send now (body := b) (h b (by simp))) z2 z5 (fun c hc => h c (List.mem_cons_of_mem _ hc))
      rw [paysV, if_pos hp]
      refine ⟨i1, i2, ?_, ?_, fun j hj => ?_⟩
      · rw [← z4]
        exact i3
      · show (paysV now (sendV s now b).2 O).2.2 = O.drop (paysV now (sendV s now b).2 O).1.length
        exact i4
      · cases j with
        | zero => exact ⟨(Int.add_zero _).symm, rfl⟩
        | succ j =>
          have hj : j < (paysV now (sendV s now b).2 O).1.length := by
            have : j + 1 < (paysV now (sendV s now b).2 O).1.length + 1 := hj
            omega
          obtain ⟨x1, x2⟩ := i5 j hj
          refine ⟨?_, ?_⟩
          · show ((s.N, b) :: (paysV now (sendV s now b).2 O).1)[j + 1].1 = _
            rw [List.getElem_cons_succ, x1, z3]
            omega
          · show (b :: O)[j + 1]? = some ((s.N, b) :: (paysV now (sendV s now b).2 O).1)[j + 1].2
            rw [List.getElem_cons_succ, List.getElem?_cons_succ, x2]
    · rw [paysV, if_neg hp]
      exact ⟨k, hov, .inr (by show s.N - a = s.W; omega), rfl, fun j hj => absurd hj (Nat.not_lt_zero _)⟩
def BO (n : Int) (O : List (List Int)) : Prop := ∀ (j : Nat) (b : List Int), O[j]? = some b → b = [n + (j : Int)]
/-- what is owed, and under way -/
structure OwB (v : CV) (a p W : Int) : Prop where
  ok : COk v
  kr : KR v.s a
  ov : v.s.ov = false
  W : v.s.W = W
  conn : v.conn = 1
  tn : v.N = 0
  tc : v.C = []
  len : (v.O.length : Int) = p - v.s.N
  bo : BO v.s.N v.O
  a0 : 0 ≤ a
structure OwI (v : CV) (a p W : Int) : Prop where
  b : OwB v a p W
  full : v.O = [] ∨ v.s.N - a = W
theorem OwB.pays {v : CV} {a p W : Int} (o : OwB v a p W) (now : Int) :
    OwI (v.to (paysV now v.s v.O).2.1 (paysV now v.s v.O).2.2) a p W ∧ (paysV now v.s v.O).2.1.N = v.s.N + (paysV now v.s v.O).1.length ∧ (∀ j (hj : j < (paysV now v.s v.O).1.length), (paysV now v.s v.O).1[j] = (v.s.N + (j : Int), [v.s.N + (j : Int)])) := by
  obtain ⟨i1, i2, i3, i4, i5⟩ := pays_ok now v.O o.ok.s o.ok.ob
  obtain ⟨k1, k2, k3, k4, k5⟩ := pays_kr now a v.O o.ok.s o.kr o.ov o.ok.ob
  have hol := o.ok.o
  have hl := o.len
  have cok : COk (v.to (paysV now v.s v.O).2.1 (paysV now v.s v.O).2.2) := by
    refine ⟨i1, ?_, o.ok.n0, ?_, fun c hc => o.ok.ob c (i3 c hc)⟩
    · show OkH (paysV now v.s v.O).2.1.W v.N v.C
      rw [i2]
      exact o.ok.k
    · show (paysV now v.s v.O).2.2.length ≤ 1000
      omega
  refine ⟨⟨⟨cok, k1, k2, i2.trans o.W, o.conn, o.tn, o.tc, ?_, ?_, o.a0⟩, ?_⟩, i5, fun j hj => ?_⟩
  · show ((paysV now v.s v.O).2.2.length : Int) = p - (paysV now v.s v.O).2.1.N
    omega
  · show BO (paysV now v.s v.O).2.1.N (paysV now v.s v.O).2.2
    rw [k4, i5]
    intro j b hb
    rw [List.getElem?_drop] at hb
    have := o.bo _ b hb
    rw [this]
    congr 1
    omega
  · show (paysV now v.s v.O).2.2 = [] ∨ (paysV now v.s v.O).2.1.N - a = W
    rw [← o.W]
    exact k3
  · obtain ⟨x1, x2⟩ := k5 j hj
    have := o.bo j _ x2
    exact Prod.ext x1 this
/-- one is pushed -/
theorem OwI.push {v : CV} {a p W : Int} (o : OwI v a p W) (hf : ¬ 64 ≤ v.O.length) (now : Int) : ∃ (L : List (Int × List Int)) (v' : CV), pushV v now [p] = ((L.map (pg v), 0), v') ∧ OwI v' a (p + 1) W ∧ v'.s.N = v.s.N + L.length ∧ (∀ j (hj : j < L.length), L[j] = (v.s.N + (j : Int), [v.s.N + (j : Int)])) := by
  have hl := o.b.len
  have hO : (v.O ++ [[p]]).length = v.O.length + 1 := by simp
  have b2 : OwB (v.to v.s (v.O ++ [[p]])) a (p + 1) W := by
    refine ⟨⟨o.b.ok.s, o.b.ok.k, o.b.ok.n0, ?_, fun c hc => ?_⟩, o.b.kr, o.b.ov, o.b.W, o.b.conn, o.b.tn, o.b.tc, ?_, fun j b hb => ?_, o.b.a0⟩
    · show (v.O ++ [[p]]).length ≤ 1000
      omega
    · have hc : c ∈ v.O ++ [[p]] := hc
      rcases List.mem_append.1 hc with hc | hc
      · exact o.b.ok.ob c hc
      · have : c = [p] := by simpa using hc
        rw [this]
        simp
    · show ((v.O ++ [[p]]).length : Int) = p + 1 - v.s.N
      omega
    · have hb : (v.O ++ [[p]])[j]? = some b := hb
      show b = [v.s.N + (j : Int)]
      by_cases hj : j < v.O.length
      · rw [List.getElem?_append_left hj] at hb
        exact o.b.bo j b hb
      · rw [List.getElem?_append_right (by omega)] at hb
        have hj2 : j - v.O.length = 0 := by
          have := (List.getElem?_eq_some_iff.1 hb).1
          simp at this
          omega
        rw [hj2] at hb
        have : b = [p] := by simpa using hb.symm
        rw [this]
        congr 1
        omega
  obtain ⟨p1, p2, p3⟩ := b2.pays now
  refine ⟨(paysV now v.s (v.O ++ [[p]])).1, (v.to v.s (v.O ++ [[p]])).to (paysV now v.s (v.O ++ [[p]])).2.1 (paysV now v.s (v.O ++ [[p]])).2.2, ?_, p1, p2, p3⟩
  rw [pushV, if_neg (by rw [o.b.ov]; simp), if_neg hf]
  rfl
theorem OwI.ack {v : CV} {a p W : Int} (o : OwI v a p W) {k : Int} (h1 : a ≤ k) (h2 : k ≤ v.s.N) (now : Int) : ∃ (L : List (Int × List Int)) (v' : CV), recvV v now ⟨1, 2, 0, k, 0, []⟩ = (([], L.map (pg v)), v') ∧ OwI v' k p W ∧ v'.s.N = v.s.N + L.length ∧ (∀ j (hj : j < L.length), L[j] = (v.s.N + (j : Int), [v.s.N + (j : Int)])) := by
  obtain ⟨z1, z2, z3, z4, z5⟩ := o.b.kr.ack o.b.ok.s k
  have htk : a + tookV a v.s.N k = k := by
    rw [tookV, if_neg (by omega)]
    split <;> omega
  rw [htk] at z2
  have o2 := o.b.ok.s.ack k
  have ha0 := o.b.a0
  have b2 : OwB (v.to (ackV v.s k).2 v.O) k p W := by
    refine ⟨⟨o2, ?_, o.b.ok.n0, o.b.ok.o, o.b.ok.ob⟩, z2, z5.trans o.b.ov, z4.trans o.b.W, o.b.conn, o.b.tn, o.b.tc, ?_, ?_, by omega⟩
    · show OkH (ackV v.s k).2.W v.N v.C
      rw [z4]
      exact o.b.ok.k
    · show (v.O.length : Int) = p - (ackV v.s k).2.N
      rw [z3]
      exact o.b.len
    · show BO (ackV v.s k).2.N v.O
      rw [z3]
      exact o.b.bo
  obtain ⟨p1, p2, p3⟩ := b2.pays now
  have hB : recvB v ⟨1, 2, 0, k, 0, []⟩ = false := by
    rw [recvB, o.b.ov, o.b.conn]
    rfl
  have z3' : (v.to (ackV v.s k).2 v.O).s.N = v.s.N := z3
  rw [z3'] at p2 p3
  refine ⟨(paysV now (ackV v.s k).2 v.O).1, (v.to (ackV v.s k).2 v.O).to (paysV now (ackV v.s k).2 v.O).2.1 (paysV now (ackV v.s k).2 v.O).2.2, ?_, p1, p2, p3⟩
  rw [recvV, if_neg (by rw [hB]; simp)]
  rfl
theorem OwI.new {W : Int} (h1 : 1 ≤ W) (h2 : W ≤ 16) : okCh ⟨1, W, 0, 900, 900, 5⟩ 1 = true ∧ OwI (CV.new ⟨1, W, 0, 900, 900, 5⟩ 1) 0 0 W := by
  have e : inR W 1 16 = true := inR_iff.2 ⟨h1, h2⟩
  have ok : okCh ⟨1, W, 0, 900, 900, 5⟩ 1 = true := by
    rw [okCh, okCfg, e]
    rfl
  refine ⟨ok, ⟨⟨new_cok ok, KR.new W 900 900 0, rfl, rfl, rfl, rfl, rfl, rfl, (fun j b hb => by cases hb), Int.le_refl _⟩, .inl rfl⟩⟩
end Go.Proofs.Ytoljllfbabahpaa
