/- Channels: what lies in memory; a datagram. -/
import Derived.Test.YtoljllfbabahpaaU16
set_option linter.unusedVariables false
namespace Go.Proofs.Ytoljllfbabahpaa
open Go Go.Ab
structure CId where
  s : SId
  c : Nat
  t : Nat
  tm : Nat
def CId.all (d : CId) : Nat → Prop := fun i => d.s.all i ∨ i = d.c ∨ i = d.t ∨ i = d.tm
structure CV where
  s : SV
  N : Int
  C : Hd
  conn : Int
  O : List (List Int)
/-- bodies that are owed: a row of one's own -/
def OwS (h : H) (po : Option (Nat × Nat)) (O : List (List Int)) : Prop := ∃ G : List Bd, SlIs h po O.length true 1 (G.flatMap slC) ∧ (∀ x ∈ G, bOk h x) ∧ G.map Prod.snd = O
theorem OwS.get {Z : Nat → Prop} {h h' : H} {po : Option (Nat × Nat)} {O : List (List Int)} (s : OwS h po O) (m : Ab.Mod Z h h') (hz : ∀ i, inSl po i → ¬ Z i) : OwS h' po O := by
  obtain ⟨G, h1, h2, h3⟩ := s
  exact ⟨G, h1.get m (fun i o e => .inl (hz i ⟨o, e⟩)), fun x hx => (h2 x hx).get m, h3⟩
theorem OwS.lt {h : H} {po : Option (Nat × Nat)} {O : List (List Int)} (s : OwS h po O) {i : Nat} (hi : inSl po i) : i < h.next := by
  obtain ⟨G, h1, _⟩ := s
  exact SlIs.own_lt h1 hi
structure ChS (h : H) (d : CId) (po : Option (Nat × Nat)) (v : CV) : Prop where
  box : h.obj d.c = some (.row true 4 [.ptr (some (d.s.g, 0)), i64 v.conn, .ptr (some (d.t, 0)), .sl po v.O.length])
  sd : SdC h d.s v.s
  tk : TkC h d.t d.tm v.s.W v.N v.C
  ow : OwS h po v.O
  sepo : ∀ i, inSl po i → ¬ d.all i
  sep : ¬ d.s.all d.c ∧ ¬ d.s.all d.t ∧ ¬ d.s.all d.tm ∧ d.c ≠ d.t ∧ d.c ≠ d.tm
def chAll (d : CId) (po : Option (Nat × Nat)) : Nat → Prop := fun i => d.all i ∨ inSl po i
theorem ChS.get {Z : Nat → Prop} {h h' : H} {d : CId} {po : Option (Nat × Nat)} {v : CV} (s : ChS h d po v) (m : Ab.Mod Z h h') (hz : ∀ i, chAll d po i → ¬ Z i) : ChS h' d po v :=
  ⟨m.get s.box (.inl (hz _ (.inl (.inr (.inl rfl))))), s.sd.get m (fun i hi => hz i (.inl (.inl hi))), s.tk.get m (hz _ (.inl (.inr (.inr (.inl rfl))))) (hz _ (.inl (.inr (.inr (.inr rfl))))), s.ow.get m (fun i hi => hz i (.inr hi)), s.sepo, s.sep⟩
theorem ChS.old {h h' : H} {d : CId} {po : Option (Nat × Nat)} {v : CV} (s : ChS h d po v) (m : Ab.Mod none_ h h') : ChS h' d po v := s.get m (fun _ _ k => k)
theorem ChS.lt {h : H} {d : CId} {po : Option (Nat × Nat)} {v : CV} (s : ChS h d po v) {i : Nat} (hi : chAll d po i) : i < h.next := by
  rcases hi with (hi | rfl | rfl | rfl) | hi
  · exact s.sd.lt hi
  · exact h.lt _ _ s.box
  · exact s.tk.lt.1
  · exact s.tk.lt.2
  · exact s.ow.lt hi
structure COk (v : CV) : Prop where
  s : SOk v.s
  k : OkH v.s.W v.N v.C
  n0 : 0 ≤ v.N
  o : v.O.length ≤ 1000
  ob : ∀ b ∈ v.O, b.length ≤ 100000
/-- a datagram -/
structure GV where
  conn : Int
  kind : Int
  seq : Int
  ack : Int
  code : Int
  body : List Int
abbrev GP := GV × Option (Nat × Nat)
def gC (x : GP) : List V := [i64 x.1.conn, i64 x.1.kind, i64 x.1.seq, i64 x.1.ack, i64 x.1.code, .sl x.2 x.1.body.length]
theorem gC_len (x : GP) : (gC x).length = 6 := rfl
def gOk (h : H) (x : GP) : Prop := RoSl h x.2 x.1.body.length 1 (ints .u8 x.1.body)
def Grams (h : H) (q : Option (Nat × Nat)) (L : List GV) : Prop := ∃ G : List GP, RoSl h q L.length 6 (G.flatMap gC) ∧ (∀ x ∈ G, gOk h x) ∧ G.map Prod.fst = L
theorem Grams.get {Z : Nat → Prop} {h h' : H} {q : Option (Nat × Nat)} {L : List GV} (s : Grams h q L) (m : Ab.Mod Z h h') : Grams h' q L := by
  obtain ⟨G, h1, h2, h3⟩ := s
  exact ⟨G, h1.get m, fun x hx => (h2 x hx).get m, h3⟩
theorem Grams.cell {h : H} {q : Option (Nat × Nat)} {L : List GV} (s : Grams h q L) {j : Nat} (hj : j < L.length) :
    ∃ i c p, q = some (i, c) ∧ Cells h i (c + j * 6) 6 (gC (L[j], p)) ∧ (∀ k v, (gC (L[j], p))[k]? = some v → Cell h i (c + j * 6 + k) v) ∧ RoSl h p (L[j]).body.length 1 (ints .u8 (L[j]).body) := by
  obtain ⟨G, h1, h2, rfl⟩ := s
  have hl : j < G.length := by simpa using hj
  have e1 : (G.map Prod.fst).length = G.length := by simp
  rw [e1] at h1
  obtain ⟨i, c, f1, f2, f3⟩ := sls_get gC_len h1.is rfl hl
  have e2 : (G.map Prod.fst)[j] = G[j].1 := by rw [List.getElem_map]
  refine ⟨i, c, G[j].2, f1, ?_, ?_, ?_⟩
  · rw [e2]; exact f2
  · rw [e2]; exact f3
  · rw [e2]; exact h2 _ (List.getElem_mem hl)
/-- a Data of one that is under way -/
def dataV (v : CV) (seq : Int) : GV := ⟨v.conn, 1, seq, v.N, 0, bodyV v.s.C seq⟩
theorem cData {h : H} {d : CId} {po : Option (Nat × Nat)} {v : CV} (s : ChS h d po v) (o : SOk v.s) (seq : Int) :
    ACalls Try.prog 92 [.ptr (some (d.c, 0)), i64 seq] h (fun r h' => ∃ p, r = .agg (gC (dataV v seq, p)) ∧ gOk h' (dataV v seq, p) ∧ Ab.Mod none_ h h') := by
  refine call_ Try.func92 rfl rfl (by kernel_rfl) ?_
  conv => whnf
  obtain ⟨gm, _, _⟩ := lay_row (h := h) (sz := 6) [i64 0, i64 0, i64 0, i64 0, i64 0, .sl none 0] []
  have mP := Mod.push none_ h (.row true 6 [i64 0, i64 0, i64 0, i64 0, i64 0, .sl none 0])
  have s1 := s.old mP
  refine ⟨_, Cell.mk s1.box rfl, ?_⟩
  conv => whnf
  refine (cBody s1.sd o seq).mono ?_
  rintro _ h2 ⟨q, rfl, b2, m2⟩
  have s2 := s1.old m2
  have g2 := m2.get gm (.inl (fun k => k))
  conv => whnf
  refine ⟨_, rfl, ?_⟩
  conv => whnf
  refine ⟨_, rfl, ?_⟩
  conv => whnf
  refine ⟨[0, 1, 2, 3, 4, 5, 6, 7, 8, 10, 9, 11, 12], [0, 1, 3, 7, 0, 0, 32, 96, 224, 480, 0, 2047, 4095], by kernel_rfl, ?_⟩
  conv => whnf
  refine ⟨_, Cell.mk s2.box rfl, ?_⟩
  conv => whnf
  refine ⟨_, Cell.mk s2.box rfl, ?_⟩
  conv => whnf
  refine (next32c s2.tk).mono ?_
  rintro _ h3 ⟨eh, rfl⟩
  subst eh
  conv => whnf
  refine ⟨⟨_, Cell.mk s2.box rfl, rfl⟩, ?_⟩
  conv => whnf
  refine ⟨_, _, g2, Nat.le_of_ble_eq_true rfl, ?_⟩
  conv => whnf
  have gS : (h3.set h.next (.row true 6 (gC (dataV v seq, q)))).obj h.next = some (.row true 6 (gC (dataV v seq, q))) := H.obj_set_same g2
  have mS : Ab.Mod (one h.next) h3 (h3.set h.next (.row true 6 (gC (dataV v seq, q)))) := Mod.set rfl g2 rfl
  refine ⟨gC (dataV v seq, q), Cells.mk gS (Nat.le_of_ble_eq_true rfl) rfl, ?_⟩
  conv => whnf
  exact ⟨q, rfl, b2.get mS, (mod_none mP m2).trans' mS (S2 := none_) (fun _ _ k => k) (fun i hi k => by
    have : i = h.next := k
    omega)⟩
end Go.Proofs.Ytoljllfbabahpaa
