/- The driver: datagrams' bytes. -/
import Derived.Test.YtmififfaljihgaaD5
import Derived.Test.YtmififfaljihgaaE4
set_option linter.unusedVariables false
namespace Go.Proofs.Ytmififfaljihgaa
open Go Go.Ab
/-- a datagram, as the codec has it -/
def toG (g : GV) (p : Option (Nat × Nat)) : Grm := ⟨g.conn, g.kind, g.seq, g.ack, g.code, p, g.body⟩
def encV (g : GV) : List Int := encG (toG g none)
theorem encV_to (g : GV) (p : Option (Nat × Nat)) : encG (toG g p) = encV g := rfl
def bodyOk (g : GV) : Prop := Bts g.body ∧ g.body.length ≤ 100000
theorem toG_ok {h : H} {g : GV} {p : Option (Nat × Nat)} (o : gOk h (g, p)) (b : bodyOk g) : (toG g p).ok h := ⟨o.is, b⟩
def DgQ (L : List GV) (h : H) (r : V) (h' : H) : Prop := ∃ q, r = .sl q L.length ∧ Rws h' q (L.map encV) ∧ Ab.Mod none_ h h'
set_option maxHeartbeats 1000000 in
theorem dgrams41 {h : H} {q : Option (Nat × Nat)} {L : List GV} (s : Grams h q L) (hb : ∀ g ∈ L, bodyOk g) (hL : L.length ≤ 100000) : ACalls Try.prog 41 [.sl q L.length] h (DgQ L h) := by
  refine ACalls.ro (Q := fun r h' => ∃ (po : Option (Nat × Nat)) (G : List Bd), r = .sl po L.length ∧ NewSl h h' po L.length 1 (G.flatMap slC) ∧ (∀ x ∈ G, bOk h' x) ∧ G.map Prod.snd = L.map encV ∧ Ab.Mod none_ h h') ?_ (by
    rintro r h' ⟨po, G, rfl, n, ho, hG, m⟩
    obtain ⟨i, a1, a2, a3⟩ := n.freeze m
    exact ⟨i, po, rfl, ⟨G, by rw [List.length_map]; exact a2, fun x hx => (ho x hx).ro i, hG⟩, a3⟩)
  refine call_ Try.func41 rfl rfl (by kernel_rfl) ?_
  conv => whnf
  refine ⟨fun env hh => ∃ (j : Nat) (z : Int) (po : Option (Nat × Nat)) (G : List Bd), j ≤ L.length ∧ z = j ∧ NewSl h hh po j 1 (G.flatMap slC) ∧ (∀ x ∈ G, bOk hh x) ∧ G.map Prod.snd = (L.take j).map encV ∧ Ab.Mod none_ h hh ∧ env = [(9, i64 z), (2, .sl po j), (8, i64 L.length), (7, .sl q L.length)],
    fun env _ => match get env 9 with
      | .int _ z => ((L.length : Int) - z).toNat
      | _ => 0, ⟨_, Forget.cons rfl (Forget.cons rfl (Forget.cons rfl (Forget.cons rfl (Forget.nil _)))), 0, _, none, [], Nat.zero_le _, rfl, NewSl.nil _ _ _, fun x hx => (by cases hx), rfl, mod_refl _ _, rfl⟩, ?_⟩
  rintro _ hh ⟨j, z, po, G, hj, rfl, no, ho, hG, mo, rfl⟩
  conv => whnf
  refine br_mk (fun hd => ?_) (fun hd => ?_)
  rotate_left
  · conv => whnf
    have hd : ¬ j < L.length := by simpa using hd
    obtain rfl : j = L.length := by omega
    rw [List.take_length] at hG
    exact ⟨po, G, rfl, no, ho, hG, mo⟩
  have hd : j < L.length := by simpa using hd
  obtain ⟨i1, c1, p1, f1, f2, f3, f4⟩ := (s.get mo).cell hd
  have bj := hb _ (List.getElem_mem hd)
  conv => whnf
  refine ⟨i1, c1, j, f1, rfl, hd, ?_⟩
  conv => whnf
  refine ⟨_, f2, ?_⟩
  conv => whnf
  obtain ⟨g0, gx, mx⟩ := lay_row (h := hh) (sz := 6) [i64 0, i64 0, i64 0, i64 0, i64 0, .sl none 0] (gC (L[j], p1))
  refine ⟨_, _, g0, Nat.le_of_ble_eq_true rfl, ?_⟩
  conv => whnf
  refine ⟨gC (L[j], p1), Cells.mk gx (Nat.le_of_ble_eq_true rfl) rfl, ?_⟩
  conv => whnf
  refine (genc49 (toG L[j] p1) (toG_ok (f4.get mx) bj)).mono ?_
  rintro _ h3 ⟨q3, rfl, o3, m3⟩
  rw [encV_to] at o3 ⊢
  have mo3 := mod_none mo (mod_none mx m3)
  have no3 := NewSl.kept no (mod_none mx m3)
  have ho3 : ∀ x ∈ G, bOk h3 x := fun x hx => ((ho x hx).get mx).get m3
  conv => whnf
  refine ⟨_, rfl, ?_⟩
  conv => whnf
  refine ⟨_, rfl, ?_⟩
  conv => whnf
  obtain ⟨y1, y2, y3⟩ := app1 no3 mo3 [slV (q3, encV L[j])] rfl
  refine ⟨_, _, y1, y2, by rw [show (T.at_ 36).bytes = 24 from rfl]; omega, by omega, fun p' h' hs hm hf => ?_⟩
  obtain ⟨ng, mg, my⟩ := y3 p' h' hs hm hf
  have e6 : G.flatMap slC ++ [slV (q3, encV L[j])] = (G ++ [(q3, encV L[j])]).flatMap slC := by simp [slC]
  rw [e6] at ng
  conv => whnf
  rw [succ_i64 hd (by omega)]
  refine ⟨_, Forget.cons rfl (Forget.cons rfl (Forget.cons rfl (Forget.cons rfl (Forget.nil _)))), ⟨j + 1, _, p', G ++ [(q3, encV L[j])], hd, rfl, ng, fun x hx => ?_, ?_, mg, rfl⟩, ?_⟩
  · rcases List.mem_append.1 hx with hx | hx
    · exact (ho3 x hx).get my
    · rw [List.mem_singleton.1 hx]
      exact RoSl.get (show RoSl h3 q3 (encV L[j]).length 1 (ints .u8 (encV L[j])) from o3) my
  · rw [List.map_append, hG, List.take_succ_eq_append_getElem hd, List.map_append]
    rfl
  · show ((L.length : Int) - ((j + 1 : Nat) : Int)).toNat < ((L.length : Int) - (j : Int)).toNat
    omega
end Go.Proofs.Ytmififfaljihgaa
