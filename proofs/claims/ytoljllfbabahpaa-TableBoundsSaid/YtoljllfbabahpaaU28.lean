/- Channels: the words that the document fixes. -/
import Derived.Test.YtoljllfbabahpaaU27
set_option linter.unusedVariables false
namespace Go.Proofs.Ytoljllfbabahpaa
open Go Go.Ab
def cfA : Cfg := ⟨1, 1, 0, 3, 3, 5⟩
theorem newC_yes {c : Cfg} {conn : Int} {h h' : H} {r : V} (q : NewCQ c conn h r h') (ok : okCh c conn = true) : ∃ d, r = .tup [.ptr (some (d.c, 0)), i64 0] ∧ ChS h' d none (CV.new c conn) ∧ (∀ i, d.all i → h.next ≤ i) ∧ Ab.Mod none_ h h' := by
  rcases q with ⟨e, _⟩ | ⟨_, q⟩
  · rw [ok] at e
    cases e
  · exact q
theorem newC_no {c : Cfg} {conn : Int} {h h' : H} {r : V} (q : NewCQ c conn h r h') (ok : okCh c conn = false) : r = .tup [.ptr none, i64 1] ∧ Ab.Mod none_ h h' := by
  rcases q with ⟨_, q⟩ | ⟨e, _⟩
  · exact q
  · rw [ok] at e
    cases e
def vA0 : CV := CV.new cfA 7
def vA1 : CV := ⟨⟨1, 1, false, [(0, [9])], 3, 3, 0, [(0, 3, 0)]⟩, 0, [], 7, []⟩
def vA2 : CV := ⟨⟨1, 1, false, [(0, [9])], 3, 3, 0, [(0, 3, 0)]⟩, 0, [], 7, [[8]]⟩
def vA3 : CV := ⟨⟨1, 2, false, [(1, [8])], 3, 3, 0, [(1, 4, 0)]⟩, 1, [], 7, []⟩
theorem eA1 : pushV vA0 0 [9] = (([⟨7, 1, 0, 0, 0, [9]⟩], 0), vA1) := rfl
theorem eA2 : pushV vA1 0 [8] = (([], 0), vA2) := rfl
theorem eA3 : recvV vA2 1 ⟨7, 1, 0, 1, 0, [5]⟩ = (([[5]], [⟨7, 2, 0, 1, 0, []⟩, ⟨7, 1, 1, 1, 0, [8]⟩]), vA3) := rfl
theorem eA4 : recvV vA3 1 ⟨8, 1, 0, 0, 0, []⟩ = (([], []), vA3) := rfl
theorem push_cok {v : CV} (o : COk v) (now : Int) {b : List Int} (hb : b.length ≤ 100000) : COk (pushV v now b).2 := by
  have hol := o.o
  unfold pushV
  split
  · exact o
  · split
    · exact o
    · rename_i h1 h2
      obtain ⟨i1, i2, i3, i4, i5⟩ := pays_ok now (v.O ++ [b]) o.s (fun c hc => by
        rcases List.mem_append.1 hc with hc | hc
        · exact o.ob c hc
        · have : c = b := by simpa using hc
          rw [this]; exact hb)
      have hl : (v.O ++ [b]).length = v.O.length + 1 := by simp
      refine ⟨i1, ?_, o.n0, ?_, fun c hc => ?_⟩
      · show OkH (paysV now v.s (v.O ++ [b])).2.1.W v.N v.C
        rw [i2]
        exact o.k
      · show (paysV now v.s (v.O ++ [b])).2.2.length ≤ 1000
        omega
      · have hc := i3 c hc
        rcases List.mem_append.1 hc with hc | hc
        · exact o.ob c hc
        · have : c = b := by simpa using hc
          rw [this]; exact hb
theorem recv_cok {v : CV} (o : COk v) (now : Int) (g : GV) : COk (recvV v now g).2 := by
  have hol := o.o
  have o2 : SOk (recvS v g) := o.s.ack g.ack
  have hW2 : (recvS v g).W = v.s.W := ackV_W v.s g.ack
  have hW : 1 ≤ v.s.W ∧ v.s.W ≤ 16 := by simpa [okW] using o.s.ok
  have okh : OkH (recvS v g).W v.N v.C := by rw [hW2]; exact o.k
  obtain ⟨oh2, on1, on2, on3⟩ := okh.take (by omega) g.seq g.body
  have hn0' := o.n0
  have oM : COk (recvM v g) := by
    unfold recvM
    split
    · exact ⟨o2, oh2, by show 0 ≤ (tkV (recvS v g).W v.N v.C g.seq g.body).2.2.1; omega, o.o, o.ob⟩
    · exact ⟨o2, okh, o.n0, o.o, o.ob⟩
  unfold recvV
  split
  · exact o
  · obtain ⟨i1, i2, i3, i4, i5⟩ := pays_ok now v.O oM.s o.ob
    refine ⟨i1, ?_, oM.n0, ?_, fun c hc => o.ob c (i3 c hc)⟩
    · show OkH (paysV now (recvM v g).s v.O).2.1.W (recvM v g).N (recvM v g).C
      rw [i2]
      exact oM.k
    · show (paysV now (recvM v g).s v.O).2.2.length ≤ 1000
      omega
set_option maxHeartbeats 2000000 in
set_option maxRecDepth 20000 in
theorem awake15 (h : H) : ACalls Try.prog 15 [] h (fun r h' => r = .bool true) := by
  refine call_ Try.func15 rfl rfl (by kernel_rfl) ?_
  conv => whnf
  refine ⟨_, _, H.obj_push_new _ _, Nat.le_of_ble_eq_true rfl, ?_⟩
  conv => whnf
  obtain ⟨gm, a0, n0⟩ := lay_row (h := h) (sz := 6) [i64 0, i64 0, i64 0, i64 0, i64 0, i64 0] cfA.cells
  refine ⟨cfA.cells, Cells.mk a0 (Nat.le_of_ble_eq_true rfl) rfl, ?_⟩
  conv => whnf
  refine (cNew _ cfA 7).mono ?_
  rintro _ h1 q
  obtain ⟨d, rfl, s1, hd, m1⟩ := newC_yes q rfl
  clear q
  have s1 : ChS h1 d none vA0 := s1
  have o1 : COk vA0 := new_cok rfl
  have a1 := m1.get a0 (.inl (fun k => k))
  conv => whnf
  refine ⟨_, rfl, ?_⟩
  conv => whnf
  refine ⟨_, rfl, ?_⟩
  conv => whnf
  refine ⟨cfA.cells, Cells.mk a1 (Nat.le_of_ble_eq_true rfl) rfl, ?_⟩
  conv => whnf
  refine (cNew _ cfA 0).mono ?_
  rintro _ h2 q
  obtain ⟨rfl, m2⟩ := newC_no q rfl
  clear q
  have s2 := s1.old m2
  have a2 := m2.get a1 (.inl (fun k => k))
  conv => whnf
  refine ⟨_, rfl, ?_⟩
  conv => whnf
  refine ⟨_, rfl, ?_⟩
  conv => whnf
  have hdh : ∀ i, d.all i → ¬ i = h.next := fun i hi e => by
    have : h.next + 1 ≤ i := hd i hi
    omega
  obtain ⟨l3, n3⟩ := laid_oct h2 [9]
  have o3 := push_cok o1 0 (b := [9]) (by simp)
  refine (cPush (s2.old n3) o1 (by decide) (now := 0) (by decide) (by decide) l3 (by simp)).mono ?_
  rintro _ h3 ⟨q3, po3, rfl, g3, s3, p3, m3⟩
  have a3 := m3.get (n3.get a2 (.inl (fun k => k))) (.inl (fun k => k.elim (fun k => hdh _ k rfl) (fun ⟨o, k⟩ => by cases k)))
  rw [eA1] at g3 s3 o3 ⊢
  conv => whnf
  refine ⟨_, rfl, ?_⟩
  conv => whnf
  refine ⟨_, rfl, ?_⟩
  conv => whnf
  have hn2 : h.next + 1 ≤ h2.next := Nat.le_trans (show h.next + 1 ≤ h1.next from m1.next) m2.next
  have q3' : ¬ chAll d po3 h.next := fun k => k.elim (fun k => hdh _ k rfl) (fun k => by
    rcases p3 _ k with ⟨o, e⟩ | e
    · cases e
    · have : h2.next + 1 ≤ h.next := e
      omega)
  obtain ⟨l4, n4⟩ := laid_oct h3 [8]
  have o4 := push_cok o3 0 (b := [8]) (by simp)
  refine (cPush (s3.old n4) o3 (by decide) (now := 0) (by decide) (by decide) l4 (by simp)).mono ?_
  rintro _ h4 ⟨q4, po4, rfl, g4, s4, p4, m4⟩
  have a4 := m4.get (n4.get a3 (.inl (fun k => k))) (.inl q3')
  have g3 := (g3.get n4).get m4
  rw [eA2] at g4 s4 o4 ⊢
  have hn3 : h2.next + 1 ≤ h3.next := m3.next
  have q4' : ¬ chAll d po4 h.next := fun k => k.elim (fun k => hdh _ k rfl) (fun k => by
    rcases p4 _ k with e | e
    · exact q3' (.inr e)
    · have : h3.next + 1 ≤ h.next := e
      omega)
  conv => whnf
  refine ⟨_, rfl, ?_⟩
  conv => whnf
  refine ⟨_, rfl, ?_⟩
  conv => whnf
  obtain ⟨l5, n5⟩ := laid_oct h4 [5]
  have o5 := recv_cok o4 1 ⟨7, 1, 0, 1, 0, [5]⟩
  have hl5 : ∀ h', Ab.Mod (chAll d po4) (h4.push (.row true 1 (ints .u8 [5]))) h' → SlIs h' (some (h4.next, 0)) 1 false 1 (ints .u8 [5]) := fun h' m => l5.get m (fun i o e => .inl (fun k => by
    injection e with e
    injection e with e _
    have := s4.lt k
    omega))
  refine (cRecv (g := ⟨7, 1, 0, 1, 0, [5]⟩) (p := some (h4.next, 0)) (s4.old n5) o4 (by decide) (by decide) (now := 1) (by decide) (by decide) hl5 (i64_in (by decide) (by decide)) (by simp)).mono ?_
  rintro _ h5 ⟨qr5, q5, po5, rfl, w5, g5, s5, p5, m5⟩
  have a5 := m5.get (n5.get a4 (.inl (fun k => k))) (.inl q4')
  have g3 := (g3.get n5).get m5
  rw [eA3] at w5 g5 s5 o5 ⊢
  have hn4 : h3.next + 1 ≤ h4.next := m4.next
  have q5' : ¬ chAll d po5 h.next := fun k => k.elim (fun k => hdh _ k rfl) (fun k => by
    rcases p5 _ k with e | e
    · exact q4' (.inr e)
    · have : h4.next + 1 ≤ h.next := e
      omega)
  conv => whnf
  refine ⟨_, rfl, ?_⟩
  conv => whnf
  refine ⟨_, rfl, ?_⟩
  conv => whnf
  have o6 := recv_cok o5 1 ⟨8, 1, 0, 0, 0, []⟩
  refine (cRecv (g := ⟨8, 1, 0, 0, 0, []⟩) (p := none) s5 o5 (by decide) (by decide) (now := 1) (by decide) (by decide) (fun h' m => (SlIs.nil _ false _)) (i64_in (by decide) (by decide)) (by simp)).mono ?_
  rintro _ h6 ⟨qr6, q6, po6, rfl, w6, g6, s6, p6, m6⟩
  have a6 := m6.get a5 (.inl q5')
  have g3 := g3.get m6
  have w5 := w5.get m6
  have g5 := g5.get m6
  rw [eA4] at w6 g6 s6 o6 ⊢
  conv => whnf
  refine ⟨_, rfl, ?_⟩
  conv => whnf
  refine ⟨_, rfl, ?_⟩
  conv => whnf
  have nP := Mod.push none_ h6 (.row true 1 [.int .u8 1])
  refine (push0 _ 0 _ _).mono ?_
  rintro _ h7 ⟨eh, rfl⟩
  subst eh
  conv => whnf
  refine ⟨_, rfl, ?_⟩
  conv => whnf
  refine ⟨_, rfl, ?_⟩
  conv => whnf
  have g3 := g3.get nP
  have g5 := g5.get nP
  have s6 := s6.old nP
  have a6 := nP.get a6 (.inl (fun k => k))
  obtain ⟨i3, c3, x3, y1, y2, y3, y4⟩ := g3.cell (j := 0) (by decide)
  refine ⟨i3, c3, 0, y1, rfl, by decide, ?_⟩
  conv => whnf
  refine ⟨_, y3 0 _ rfl, ?_⟩
  conv => whnf
  refine ⟨i3, c3, 0, y1, rfl, by decide, ?_⟩
  conv => whnf
  refine ⟨_, y3 1 _ rfl, ?_⟩
  conv => whnf
  refine ⟨i3, c3, 0, y1, rfl, by decide, ?_⟩
  conv => whnf
  refine ⟨_, y3 5 _ rfl, ?_⟩
  conv => whnf
  refine ⟨_, y4.is, by decide, ?_⟩
  conv => whnf
  obtain ⟨i5, c5, x5, u1, u2, u3, u4⟩ := g5.cell (j := 0) (by decide)
  obtain ⟨i7, c7, x7, w1, w2, w3, w4⟩ := g5.cell (j := 1) (by decide)
  refine ⟨i5, c5, 0, u1, rfl, by decide, ?_⟩
  conv => whnf
  refine ⟨_, u3 1 _ rfl, ?_⟩
  conv => whnf
  refine ⟨i5, c5, 0, u1, rfl, by decide, ?_⟩
  conv => whnf
  refine ⟨_, u3 3 _ rfl, ?_⟩
  conv => whnf
  refine ⟨i7, c7, 1, w1, rfl, by decide, ?_⟩
  conv => whnf
  refine ⟨_, w3 2 _ rfl, ?_⟩
  conv => whnf
  refine ⟨i7, c7, 1, w1, rfl, by decide, ?_⟩
  conv => whnf
  refine ⟨_, w3 3 _ rfl, ?_⟩
  conv => whnf
  refine (cConn s6).mono ?_
  rintro _ h8 ⟨eh, rfl⟩
  subst eh
  conv => whnf
  refine (cOwed s6).mono ?_
  rintro _ h8 ⟨eh, rfl⟩
  subst eh
  conv => whnf
  refine ⟨cfA.cells, Cells.mk a6 (Nat.le_of_ble_eq_true rfl) rfl, ?_⟩
  conv => whnf
  refine (cCheck _ cfA).mono ?_
  rintro _ h9 ⟨rfl, m9⟩
  conv => whnf
  refine (cCheck _ ⟨0, 0, 0, 0, 0, 0⟩).mono ?_
  rintro _ h10 ⟨rfl, m10⟩
  conv => whnf
  rfl
end Go.Proofs.Ytoljllfbabahpaa
