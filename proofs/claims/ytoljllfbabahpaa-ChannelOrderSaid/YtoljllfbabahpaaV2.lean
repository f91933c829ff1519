/- V2: several texts in one. -/
import Derived.Test.YtoljllfbabahpaaV1
set_option linter.unusedVariables false
/-! Parts of the memory that are apart; two channels, their bags; rows of datagrams alike. -/
namespace Go.Proofs.Ytoljllfbabahpaa
open Go Go.Ab
/-- a part of the memory: its objects, and what lies there -/
structure Part where
  F : Nat → Prop
  P : H → Prop
  lt : ∀ {h : H} {i : Nat}, P h → F i → i < h.next
  get : ∀ {h h' : H} {Z : Nat → Prop}, P h → Ab.Mod Z h h' → (∀ i, F i → ¬ Z i) → P h'
def Sep (h : H) (ps : Nat → Part) : Prop := (∀ n, (ps n).P h) ∧ ∃ tg : Nat → Nat, ∀ n i, (ps n).F i → tg i = n
def upd {α : Type} (ps : Nat → α) (n : Nat) (q : α) : Nat → α := fun m => if m = n then q else ps m
theorem upd_same {α : Type} (ps : Nat → α) (n : Nat) (q : α) : upd ps n q n = q := if_pos rfl
theorem upd_ne {α : Type} (ps : Nat → α) {n m : Nat} (q : α) (h : m ≠ n) : upd ps n q m = ps m := if_neg h
theorem Sep.turn {h h' : H} {ps : Nat → Part} (s : Sep h ps) (n : Nat) {q : Part} (hq : q.P h') (m : Ab.Mod (ps n).F h h') (hF : ∀ i, q.F i → (ps n).F i ∨ h.next ≤ i) : Sep h' (upd ps n q) := by
  obtain ⟨s1, tg, s2⟩ := s
  refine ⟨fun k => ?_, fun i => if h.next ≤ i then n else tg i, fun k i hi => ?_⟩
  · by_cases e : k = n
    · subst e
      rw [upd_same]
      exact hq
    · rw [upd_ne _ _ e]
      exact (ps k).get (s1 k) m (fun i hi hz => e ((s2 k i hi).symm.trans (s2 n i hz)))
  · by_cases e : k = n
    · subst e
      rw [upd_same] at hi
      show (if h.next ≤ i then k else tg i) = k
      by_cases hn : h.next ≤ i
      · rw [if_pos hn]
      · rw [if_neg hn]
        rcases hF i hi with q | q
        · exact s2 k i q
        · exact absurd q hn
    · rw [upd_ne _ _ e] at hi
      have := (ps k).lt (s1 k) hi
      show (if h.next ≤ i then n else tg i) = k
      rw [if_neg (by omega)]
      exact s2 k i hi
theorem Sep.get {h h' : H} {ps : Nat → Part} (s : Sep h ps) {Z : Nat → Prop} (m : Ab.Mod Z h h') (hz : ∀ n i, (ps n).F i → ¬ Z i) : Sep h' ps :=
  ⟨fun k => (ps k).get (s.1 k) m (hz k), s.2⟩
theorem Sep.old {h h' : H} {ps : Nat → Part} (s : Sep h ps) (m : Ab.Mod none_ h h') : Sep h' ps := s.get m (fun _ _ _ k => k)
theorem Sep.lt {h : H} {ps : Nat → Part} (s : Sep h ps) {n i : Nat} (hi : (ps n).F i) : i < h.next := (ps n).lt (s.1 n) hi
theorem Sep.ne {h : H} {ps : Nat → Part} (s : Sep h ps) {n m i : Nat} (hi : (ps n).F i) (hj : (ps m).F i) : n = m := by
  obtain ⟨_, tg, s2⟩ := s
  rw [← s2 n i hi, ← s2 m i hj]
def noP : Part := ⟨fun _ => False, fun _ => True, fun _ h => h.elim, fun _ _ _ => trivial⟩
def cellP (i : Nat) (ob : Ab.Obj) : Part := ⟨one i, fun h => h.obj i = some ob, fun {h j} p e => by
    have : j = i := e
    rw [this]
    exact h.lt i ob p, fun p m hz => m.get p (.inl (hz i rfl))⟩
def chP (d : CId) (po : Option (Nat × Nat)) (v : CV) : Part := ⟨chAll d po, fun h => ChS h d po v, fun p e => p.lt e, fun p m hz => p.get m hz⟩
def rcP (d : RCId) (v : CV) : Part := ⟨d.all, fun h => RChS h d v, fun p e => p.lt e, fun p m hz => p.get m hz⟩
/-- datagrams: a row of one's own -/
def Bag (h : H) (p : Option (Nat × Nat)) (L : List GV) : Prop := ∃ G : List GP, SlIs h p L.length true 6 (G.flatMap gC) ∧ (∀ x ∈ G, gOk h x) ∧ G.map Prod.fst = L
theorem Bag.get {Z : Nat → Prop} {h h' : H} {p : Option (Nat × Nat)} {L : List GV} (s : Bag h p L) (m : Ab.Mod Z h h') (hz : ∀ i, inSl p i → ¬ Z i) : Bag h' p L := by
  obtain ⟨G, h1, h2, h3⟩ := s
  exact ⟨G, h1.get m (fun i o e => .inl (hz i ⟨o, e⟩)), fun x hx => (h2 x hx).get m, h3⟩
theorem Bag.lt {h : H} {p : Option (Nat × Nat)} {L : List GV} (s : Bag h p L) {i : Nat} (hi : inSl p i) : i < h.next := by
  obtain ⟨G, h1, _⟩ := s
  exact SlIs.own_lt h1 hi
def bgP (p : Option (Nat × Nat)) (L : List GV) : Part := ⟨inSl p, fun h => Bag h p L, fun s e => s.lt e, fun s m hz => s.get m hz⟩
theorem Bag.nil (h : H) : Bag h none [] := ⟨[], SlIs.nil _ _ _, (fun x hx => by cases hx), rfl⟩
theorem Bag.row {h : H} {p : Option (Nat × Nat)} {L : List GV} (s : Bag h p L) : SlIs h p L.length true 6 (s.choose.flatMap gC) := s.choose_spec.1
theorem gp_len {G : List GP} {L : List GV} (h : G.map Prod.fst = L) : G.length = L.length := by
  rw [← h, List.length_map]
/-- one of a bag -/
theorem Bag.cell {h : H} {q : Option (Nat × Nat)} {L : List GV} (s : Bag h q L) {j : Nat} (hj : j < L.length) :
    ∃ i c p, q = some (i, c) ∧ Cells h i (c + j * 6) 6 (gC (L[j], p)) ∧ RoSl h p (L[j]).body.length 1 (ints .u8 (L[j]).body) := by
  obtain ⟨G, h1, h2, rfl⟩ := s
  have hl : j < G.length := by simpa using hj
  have e1 : (G.map Prod.fst).length = G.length := by simp
  rw [e1] at h1
  obtain ⟨i, c, f1, f2, f3⟩ := sls_get gC_len h1 rfl hl
  have e2 : (G.map Prod.fst)[j] = G[j].1 := by rw [List.getElem_map]
  refine ⟨i, c, G[j].2, f1, ?_, ?_⟩
  · rw [e2]; exact f2
  · rw [e2]; exact h2 _ (List.getElem_mem hl)
/-- others are appended to a bag -/
theorem Bag.app {h : H} {p q : Option (Nat × Nat)} {L K : List GV} (s : Bag h p L) (g : Grams h q K) : ∃ xs ys, SlIs h p L.length true 6 xs ∧ SlIs h q K.length false 6 ys ∧ ∀ p' h', SlIs h' p' (L.length + K.length) true 6 (xs ++ ys) → Ab.Mod (inSl p) h h' → isFresh h p p' →
    Bag h' p' (L ++ K) ∧ ∀ i, inSl p' i → inSl p i ∨ h.next ≤ i := by
  obtain ⟨G, h1, h2, h3⟩ := s
  obtain ⟨G', k1, k2, k3⟩ := g
  refine ⟨_, _, h1, k1.is, fun p' h' hs hm hf => ⟨⟨G ++ G', ?_, fun x hx => ?_, by rw [List.map_append, h3, k3]⟩, fun i ⟨o, e⟩ => ?_⟩⟩
  · rw [List.length_append, List.flatMap_append]
    exact hs
  · rcases List.mem_append.1 hx with hx | hx
    · exact (h2 x hx).get hm
    · exact (k2 x hx).get hm
  · rcases hf i o e with k | k
    · exact .inl ⟨o, by rw [← k, e]⟩
    · exact .inr k
/-- and one that is handed in -/
theorem Bag.app1 {h : H} {p : Option (Nat × Nat)} {L : List GV} {g : GV} {q : Option (Nat × Nat)} (s : Bag h p L) (hg : gOk h (g, q)) : ∃ xs, SlIs (h.push (.row true 6 (gC (g, q)))) p L.length true 6 xs ∧ SlIs (h.push (.row true 6 (gC (g, q)))) (some (h.next, 0)) 1 false 6 (gC (g, q)) ∧ ∀ p' h', SlIs h' p' (L.length + 1) true 6 (xs ++ gC (g, q)) → Ab.Mod (inSl p) (h.push (.row true 6 (gC (g, q)))) h' → isFresh (h.push (.row true 6 (gC (g, q)))) p p' →
    Bag h' p' (L ++ [g]) ∧ (∀ i, inSl p' i → inSl p i ∨ h.next ≤ i) ∧ Ab.Mod (inSl p) h h' := by
  obtain ⟨G, h1, h2, h3⟩ := s
  have mP := Mod.push none_ h (.row true 6 (gC (g, q)))
  refine ⟨_, SlIs.old h1 mP (fun _ _ k => k), (SlIs.row (n := 1) (H.obj_push_new _ _) rfl).weak, fun p' h' hs hm hf => ⟨⟨G ++ [(g, q)], ?_, fun x hx => ?_, by rw [List.map_append, h3]; rfl⟩, fun i ⟨o, e⟩ => ?_, mP.trans' hm (fun _ _ k => k.elim) (fun _ _ k => k)⟩⟩
  · rw [List.length_append, List.flatMap_append, show ([(g, q)] : List GP).flatMap gC = gC (g, q) by simp]
    exact hs
  · rcases List.mem_append.1 hx with hx | hx
    · exact ((h2 x hx).get mP).get hm
    · have : x = (g, q) := by simpa using hx
      rw [this]
      exact (hg.get mP).get hm
  · rcases hf i o e with k | k
    · exact .inl ⟨o, by rw [← k, e]⟩
    · exact .inr (Nat.le_trans (Nat.le_succ _) k)
theorem gflat_take (G : List GP) {k : Nat} (hk : k ≤ G.length) : (G.flatMap gC).take (k * 6) = (G.take k).flatMap gC := flat_take gC_len G hk
theorem gflat_drop (G : List GP) {k : Nat} (hk : k ≤ G.length) : (G.flatMap gC).drop (k * 6) = (G.drop k).flatMap gC := flat_drop gC_len G hk
/-- one of a bag is taken out: a row of the others -/
theorem Bag.out {h : H} {p : Option (Nat × Nat)} {L : List GV} (s : Bag h p L) {j : Nat} (hj : j < L.length) : ∃ xs ys : List V, SlIs h (slp p (0 * 6)) (j - 0) false 6 xs ∧ SlIs h (slp p ((j + 1) * 6)) (L.length - (j + 1)) false 6 ys ∧
    ∀ {h2 : H} {q : Option (Nat × Nat)}, SlIs h2 q (j - 0 + (L.length - (j + 1))) true 6 (xs ++ ys) → (∀ Z, Ab.Mod Z h h2 → Bag h2 q (L.eraseIdx j)) := by
  obtain ⟨G, h1, h2, h3⟩ := s
  have hGl := gp_len h3
  have hjG : j ≤ G.length := by omega
  have t1 := SlIs.cut h1.weak (Nat.zero_le j) (show j ≤ L.length by omega)
  have t2 := SlIs.cut h1.weak (show j + 1 ≤ L.length by omega) (Nat.le_refl _)
  refine ⟨_, _, t1, t2, fun {h2' q} hs Z m => ⟨G.take j ++ G.drop (j + 1), ?_, fun x hx => ?_, ?_⟩⟩
  · have el : (L.eraseIdx j).length = j - 0 + (L.length - (j + 1)) := by rw [List.length_eraseIdx_of_lt hj]; omega
    rw [el, List.flatMap_append]
    have e1 : ((G.flatMap gC).drop (0 * 6)).take ((j - 0) * 6) = (G.take j).flatMap gC := by rw [Nat.zero_mul, List.drop_zero, Nat.sub_zero, gflat_take G hjG]
    have e2 : ((G.flatMap gC).drop ((j + 1) * 6)).take ((L.length - (j + 1)) * 6) = (G.drop (j + 1)).flatMap gC := by
      rw [gflat_drop G (by omega), List.take_of_length_le (by rw [flat_length gC_len, List.length_drop, hGl]; exact Nat.le_refl _)]
    rw [e1, e2] at hs
    exact hs
  · rcases List.mem_append.1 hx with hx | hx
    · exact (h2 x (List.mem_of_mem_take hx)).get m
    · exact (h2 x (List.mem_of_mem_drop hx)).get m
  · rw [List.map_append, List.map_take, List.map_drop, h3, List.eraseIdx_eq_take_drop_succ]
/-! Two of each -/
def kn (k : Bool) : Nat := match k with
  | true => 1
  | false => 0
theorem kn_lt (k : Bool) : kn k < 2 := by cases k <;> decide
theorem kn_of {z : Int} (h0 : 0 ≤ z) (h1 : z < 2) : ∃ k, z = (kn k : Int) := by
  by_cases e : z = 0
  · exact ⟨false, by rw [e]; rfl⟩
  · exact ⟨true, by show z = 1; omega⟩
theorem kn_not (k : Bool) : IntKind.i64.wrap (1 - (kn k : Int)) = (kn (!k) : Int) := by cases k <;> rfl
def updB {α : Type} (f : Bool → α) (k : Bool) (v : α) : Bool → α := fun j => if j = k then v else f j
theorem updB_same {α : Type} (f : Bool → α) (k : Bool) (v : α) : updB f k v k = v := if_pos rfl
theorem updB_ne {α : Type} (f : Bool → α) {k j : Bool} (v : α) (h : j ≠ k) : updB f k v j = f j := if_neg h
def pair {α : Type} (f : Bool → α) : List α := [f false, f true]
theorem pair_at {α : Type} (f : Bool → α) (k : Bool) : (pair f)[0 + kn k * 1]? = some (f k) := by cases k <;> rfl
theorem pair_set {α : Type} (f : Bool → α) (k : Bool) (v : α) : splice (pair f) (0 + kn k * 1) [v] = pair (updB f k v) := by cases k <;> rfl
theorem pair_fit (k : Bool) : 0 + kn k * 1 + 1 ≤ 2 := by cases k <;> decide
theorem updB_idem {α : Type} (f : Bool → α) (k : Bool) : updB f k (f k) = f := by
  funext j
  by_cases e : j = k
  · subst e
    exact updB_same _ _ _
  · exact updB_ne _ _ e
theorem updB_forall {α : Type} {Q : Bool → α → Prop} {f : Bool → α} (h : ∀ j, Q j (f j)) {k : Bool} {v : α} (hv : Q k v) : ∀ j, Q j (updB f k v j) := fun j => by
  by_cases e : j = k
  · subst e
    rw [updB_same]
    exact hv
  · rw [updB_ne _ _ e]
    exact h j
theorem updB_map {α β : Type} (g : α → β) (f : Bool → α) (k : Bool) (v : α) : (fun j => g (updB f k v j)) = updB (fun j => g (f j)) k (g v) := by
  funext j
  by_cases e : j = k
  · subst e
    rw [updB_same, updB_same]
  · rw [updB_ne _ _ e, updB_ne _ _ e]
/-! Alike -/
set_option maxHeartbeats 1000000 in
theorem sameGram (h : H) (g : GV) (hg : Oct g.body) {p q : Option (Nat × Nat)} (gp : gOk h (g, p)) (gq : gOk h (g, q)) : ACalls Try.prog 94 [.agg (gC (g, p)), .agg (gC (g, q))] h (fun r h' => r = .bool true ∧ Ab.Mod none_ h h') := by
  have m1 := Mod.push none_ h (.row true 6 (gC (g, p)))
  have m2 := Mod.push none_ (h.push (.row true 6 (gC (g, p)))) (.row true 6 (gC (g, q)))
  have a2 : ((h.push (.row true 6 (gC (g, p)))).push (.row true 6 (gC (g, q)))).obj h.next = some (.row true 6 (gC (g, p))) := m2.get (H.obj_push_new _ _) (.inl (fun k => k))
  have b2 : ((h.push (.row true 6 (gC (g, p)))).push (.row true 6 (gC (g, q)))).obj (h.next + 1) = some (.row true 6 (gC (g, q))) := H.obj_push_new _ _
  refine call_ Try.func94 rfl rfl (by kernel_rfl) ?_
  conv => whnf
  refine ⟨_, Cell.mk a2 rfl, ?_⟩
  conv => whnf
  refine ⟨_, Cell.mk b2 rfl, ?_⟩
  conv => whnf
  refine br_mk (fun hI => ?_) (fun hI => ?_)
  rotate_left
  · exact absurd hI (by simp)
  conv => whnf
  refine ⟨_, Cell.mk a2 rfl, ?_⟩
  conv => whnf
  refine ⟨_, Cell.mk b2 rfl, ?_⟩
  conv => whnf
  refine br_mk (fun hI => ?_) (fun hI => ?_)
  rotate_left
  · exact absurd hI (by simp)
  conv => whnf
  refine ⟨_, Cell.mk a2 rfl, ?_⟩
  conv => whnf
  refine ⟨_, Cell.mk b2 rfl, ?_⟩
  conv => whnf
  refine br_mk (fun hI => ?_) (fun hI => ?_)
  rotate_left
  · exact absurd hI (by simp)
  conv => whnf
  refine ⟨_, Cell.mk a2 rfl, ?_⟩
  conv => whnf
  refine ⟨_, Cell.mk b2 rfl, ?_⟩
  conv => whnf
  refine br_mk (fun hI => ?_) (fun hI => ?_)
  rotate_left
  · exact absurd hI (by simp)
  conv => whnf
  refine ⟨_, Cell.mk a2 rfl, ?_⟩
  conv => whnf
  refine ⟨_, Cell.mk b2 rfl, ?_⟩
  conv => whnf
  refine br_mk (fun hI => ?_) (fun hI => ?_)
  rotate_left
  · exact absurd hI (by simp)
  conv => whnf
  refine ⟨_, Cell.mk a2 rfl, ?_⟩
  conv => whnf
  refine ⟨_, ((gp.get m1).get m2).is, hg, ?_⟩
  conv => whnf
  refine ⟨_, Cell.mk b2 rfl, ?_⟩
  conv => whnf
  refine ⟨_, ((gq.get m1).get m2).is, hg, ?_⟩
  conv => whnf
  exact ⟨by simp, mod_none m1 m2⟩
set_option maxHeartbeats 1000000 in
theorem alike64 {h : H} {p q : Option (Nat × Nat)} {L : List GV} (a : Grams h p L) (b : Grams h q L) (ho : ∀ g ∈ L, Oct g.body) (hL : L.length ≤ 1000000) : ACalls Try.prog 64 [.sl p L.length, .sl q L.length] h (fun r h' => r = .bool true ∧ Ab.Mod none_ h h') := by
  refine call_ Try.func64 rfl rfl (by kernel_rfl) ?_
  conv => whnf
  refine br_mk (fun hI => ?_) (fun hI => ?_)
  · exact absurd hI (by simp)
  conv => whnf
  refine ⟨fun env hh => ∃ (k : Nat) (zk : Int), k ≤ L.length ∧ zk = k ∧ Ab.Mod none_ h hh ∧ env = [(5, i64 zk), (0, .sl p L.length), (1, .sl q L.length)],
    fun env _ => match get env 5 with
      | .int _ z => ((L.length : Int) - z).toNat
      | _ => 0, ⟨_, Forget.cons rfl (Forget.cons rfl (Forget.cons rfl (Forget.nil _))), 0, _, Nat.zero_le _, rfl, mod_refl _ _, rfl⟩, ?_⟩
  rintro _ hh ⟨k, zk, hk, rfl, mo, rfl⟩
  conv => whnf
  refine br_mk (fun hx => ?_) (fun hx => ?_)
  rotate_left
  · conv => whnf
    exact ⟨rfl, mo⟩
  conv => whnf
  have hx : k < L.length := by simpa using hx
  refine ⟨[0, 1, 2, 3, 4, 5, 6, 7, 8, 9], [0, 0, 3, 7, 0, 0, 48, 112, 255, 511], by kernel_rfl, ?_⟩
  conv => whnf
  obtain ⟨i1, c1, p1, x1, x2, _, x4⟩ := (a.get mo).cell hx
  refine ⟨i1, c1, k, x1, rfl, hx, ?_⟩
  conv => whnf
  refine ⟨_, x2, ?_⟩
  conv => whnf
  obtain ⟨i2, c2, p2, y1, y2, _, y4⟩ := (b.get mo).cell hx
  refine ⟨i2, c2, k, y1, rfl, hx, ?_⟩
  conv => whnf
  refine ⟨_, y2, ?_⟩
  conv => whnf
  refine (sameGram hh L[k] (ho _ (List.getElem_mem hx)) x4 y4).mono ?_
  rintro _ h3 ⟨rfl, m3⟩
  conv => whnf
  rw [succ_i64 hx (by omega)]
  refine ⟨_, Forget.cons rfl (Forget.cons rfl (Forget.cons rfl (Forget.nil _))), ⟨k + 1, _, hx, rfl, mod_none mo m3, rfl⟩, ?_⟩
  show ((L.length : Int) - ((k + 1 : Nat) : Int)).toNat < ((L.length : Int) - (k : Int)).toNat
  omega
end Go.Proofs.Ytoljllfbabahpaa
/-! Two channels, what lies beside them, and their bags: how it turns. -/
namespace Go.Proofs.Ytoljllfbabahpaa
open Go Go.Ab
theorem fam_upd {ps : Nat → Part} {b : Nat} {F : Bool → Part} (h : ∀ k, ps (b + kn k) = F k) (k : Bool) (q : Part) : ∀ j, upd ps (b + kn k) q (b + kn j) = updB F k q j := fun j => by
  by_cases e : j = k
  · subst e
    rw [upd_same, updB_same]
  · rw [upd_ne _ _ (by cases j <;> cases k <;> first | exact absurd rfl e | (show b + _ ≠ b + _; simp [kn])), updB_ne _ _ e, h]
theorem fam_ne {ps : Nat → Part} {b : Nat} {F : Bool → Part} (h : ∀ k, ps (b + kn k) = F k) {n : Nat} (q : Part) (hn : ∀ k, b + kn k ≠ n) : ∀ j, upd ps n q (b + kn j) = F j := fun j => by
  rw [upd_ne _ _ (hn j), h]
structure WA (h : H) (D : Bool → CId) (PC : Bool → Option (Nat × Nat)) (W : Bool → CV) (X : Bool → Part) (PB : Bool → Option (Nat × Nat)) (L : Bool → List GV) (Z : Nat → Part) (ps : Nat → Part) : Prop where
  s : Sep h ps
  c : ∀ k, ps (0 + kn k) = chP (D k) (PC k) (W k)
  x : ∀ k, ps (2 + kn k) = X k
  b : ∀ k, ps (4 + kn k) = bgP (PB k) (L k)
  z : ∀ n, ps (6 + n) = Z n
section
variable {h h' : H} {D : Bool → CId} {PC : Bool → Option (Nat × Nat)} {W : Bool → CV} {X : Bool → Part} {PB : Bool → Option (Nat × Nat)} {L : Bool → List GV} {Z : Nat → Part} {ps : Nat → Part}
theorem WA.old (w : WA h D PC W X PB L Z ps) (m : Ab.Mod none_ h h') : WA h' D PC W X PB L Z ps := ⟨w.s.old m, w.c, w.x, w.b, w.z⟩
theorem WA.chan (w : WA h D PC W X PB L Z ps) (k : Bool) : ChS h (D k) (PC k) (W k) := by
  have := w.s.1 (0 + kn k)
  rw [w.c] at this
  exact this
theorem WA.ex (w : WA h D PC W X PB L Z ps) (k : Bool) : (X k).P h := by
  have := w.s.1 (2 + kn k)
  rw [w.x] at this
  exact this
theorem WA.bag (w : WA h D PC W X PB L Z ps) (k : Bool) : Bag h (PB k) (L k) := by
  have := w.s.1 (4 + kn k)
  rw [w.b] at this
  exact this
theorem WA.ze (w : WA h D PC W X PB L Z ps) (n : Nat) : (Z n).P h := by
  have := w.s.1 (6 + n)
  rw [w.z] at this
  exact this
theorem WA.turnC (w : WA h D PC W X PB L Z ps) (k : Bool) {pc : Option (Nat × Nat)} {v : CV} (s : ChS h' (D k) pc v) (m : Ab.Mod (chAll (D k) (PC k)) h h') (hp : ∀ i, inSl pc i → inSl (PC k) i ∨ h.next ≤ i) : ∃ ps', WA h' D (updB PC k pc) (updB W k v) X PB L Z ps' := by
  have e := w.c k
  refine ⟨upd ps (0 + kn k) (chP (D k) pc v), w.s.turn (0 + kn k) s (by rw [e]; exact m) (fun i hi => ?_), fun j => ?_, fam_ne w.x _ (fun j => by have := kn_lt k; omega), fam_ne w.b _ (fun j => by have := kn_lt k; omega), fun n => by rw [upd_ne _ _ (by have := kn_lt k; omega), w.z]⟩
  · rw [e]
    rcases hi with hi | hi
    · exact .inl (.inl hi)
    · rcases hp i hi with q | q
      · exact .inl (.inr q)
      · exact .inr q
  · rw [fam_upd w.c k _ j]
    by_cases e : j = k
    · subst e
      rw [updB_same, updB_same, updB_same]
    · rw [updB_ne _ _ e, updB_ne _ _ e, updB_ne _ _ e]
theorem WA.turnX (w : WA h D PC W X PB L Z ps) (k : Bool) {q : Part} (s : q.P h') (m : Ab.Mod (X k).F h h') (hp : ∀ i, q.F i → (X k).F i ∨ h.next ≤ i) : ∃ ps', WA h' D PC W (updB X k q) PB L Z ps' := by
  have e := w.x k
  exact ⟨upd ps (2 + kn k) q, w.s.turn (2 + kn k) s (by rw [e]; exact m) (fun i hi => by rw [e]; exact hp i hi), fam_ne w.c _ (fun j => by have := kn_lt j; omega), fam_upd w.x k q, fam_ne w.b _ (fun j => by have := kn_lt k; omega), fun n => by rw [upd_ne _ _ (by have := kn_lt k; omega), w.z]⟩
theorem WA.turnB (w : WA h D PC W X PB L Z ps) (k : Bool) {p : Option (Nat × Nat)} {K : List GV} (s : Bag h' p K) (m : Ab.Mod (inSl (PB k)) h h') (hp : ∀ i, inSl p i → inSl (PB k) i ∨ h.next ≤ i) : ∃ ps', WA h' D PC W X (updB PB k p) (updB L k K) Z ps' := by
  have e := w.b k
  refine ⟨upd ps (4 + kn k) (bgP p K), w.s.turn (4 + kn k) s (by rw [e]; exact m) (fun i hi => by rw [e]; exact hp i hi), fam_ne w.c _ (fun j => by have := kn_lt j; omega), fam_ne w.x _ (fun j => by have := kn_lt j; omega), fun j => ?_, fun n => by rw [upd_ne _ _ (by have := kn_lt k; omega), w.z]⟩
  rw [fam_upd w.b k _ j]
  by_cases e : j = k
  · subst e
    rw [updB_same, updB_same, updB_same]
  · rw [updB_ne _ _ e, updB_ne _ _ e, updB_ne _ _ e]
theorem WA.turnZ (w : WA h D PC W X PB L Z ps) (n : Nat) {q : Part} (s : q.P h') (m : Ab.Mod (Z n).F h h') (hp : ∀ i, q.F i → (Z n).F i ∨ h.next ≤ i) : ∃ ps', WA h' D PC W X PB L (upd Z n q) ps' := by
  have e := w.z n
  refine ⟨upd ps (6 + n) q, w.s.turn (6 + n) s (by rw [e]; exact m) (fun i hi => by rw [e]; exact hp i hi), fam_ne w.c _ (fun j => by have := kn_lt j; omega), fam_ne w.x _ (fun j => by have := kn_lt j; omega), fam_ne w.b _ (fun j => by have := kn_lt j; omega), fun m => ?_⟩
  by_cases e : m = n
  · subst e
    rw [upd_same, upd_same]
  · rw [upd_ne _ _ (by omega), upd_ne _ _ e, w.z]
/-- what one of the parts does not own is none of a bag's -/
theorem WA.notB (w : WA h D PC W X PB L Z ps) {k j : Bool} {i : Nat} (hi : chAll (D k) (PC k) i) : ¬ inSl (PB j) i := fun q => by
  have := w.s.ne (n := 0 + kn k) (m := 4 + kn j) (i := i) (by rw [w.c]; exact hi) (by rw [w.b]; exact q)
  have := kn_lt k
  omega
end
/-- a cell of a row turns -/
theorem WA.setZ {h : H} {D : Bool → CId} {PC : Bool → Option (Nat × Nat)} {W : Bool → CV} {X : Bool → Part} {PB : Bool → Option (Nat × Nat)} {L : Bool → List GV} {Z : Nat → Part} {ps : Nat → Part} (w : WA h D PC W X PB L Z ps) (n : Nat) {a : Nat} {ob ob' : Ab.Obj} (e : Z n = cellP a ob) (ho : ob.own = true) : ∃ ps', WA (h.set a ob') D PC W X PB L (upd Z n (cellP a ob')) ps' := by
  have q := w.ze n
  rw [e] at q
  have q : h.obj a = some ob := q
  exact w.turnZ n (q := cellP a ob') (H.obj_set_same q) (by rw [e]; exact Mod.set rfl q ho) (fun i hi => .inl (by rw [e]; exact hi))
def z3 (a b c : Part) : Nat → Part := fun n => match n with
  | 0 => a
  | 1 => b
  | 2 => c
  | _ => noP
theorem z3_0 (a b c q : Part) : upd (z3 a b c) 0 q = z3 q b c := by
  funext n
  match n with
  | 0 => rfl
  | 1 => rfl
  | 2 => rfl
  | n + 3 => rfl
theorem z3_1 (a b c q : Part) : upd (z3 a b c) 1 q = z3 a q c := by
  funext n
  match n with
  | 0 => rfl
  | 1 => rfl
  | 2 => rfl
  | n + 3 => rfl
theorem z3_2 (a b c q : Part) : upd (z3 a b c) 2 q = z3 a b q := by
  funext n
  match n with
  | 0 => rfl
  | 1 => rfl
  | 2 => rfl
  | n + 3 => rfl
/-- the row of two bags' slices -/
def rowB (PB : Bool → Option (Nat × Nat)) (L : Bool → List GV) : Bool → V := fun k => .sl (PB k) (L k).length
theorem rowB_upd (PB : Bool → Option (Nat × Nat)) (L : Bool → List GV) (k : Bool) (p : Option (Nat × Nat)) (K : List GV) : updB (rowB PB L) k (.sl p K.length) = rowB (updB PB k p) (updB L k K) := by
  funext j
  unfold rowB
  by_cases e : j = k
  · subst e
    rw [updB_same, updB_same, updB_same]
  · rw [updB_ne _ _ e, updB_ne _ _ e, updB_ne _ _ e]
def prow (f : Bool → V) : Ab.Obj := .row true 2 (pair f)
end Go.Proofs.Ytoljllfbabahpaa
/-! ChannelActs: two channels, and the document's, are made. -/
namespace Go.Proofs.Ytoljllfbabahpaa
open Go Go.Ab
def cPtr (D : Bool → CId) : Bool → V := fun k => .ptr (some ((D k).c, 0))
def rPtr (E : Bool → RCId) : Bool → V := fun k => .ptr (some ((E k).c, 0))
def upto (i : Nat) (f : Bool → V) : Bool → V := fun k => if kn k < i then f k else .ptr none
def uptoP (i : Nat) (f : Bool → Part) : Bool → Part := fun k => if kn k < i then f k else noP
theorem kn_inj {j k : Bool} (h : kn j = kn k) : j = k := by
  cases j <;> cases k <;> first
    | rfl
    | exact absurd h (by decide)
theorem upto_step {α : Type} (P : Bool → α → V) (D : Bool → α) (k : Bool) (d : α) : upto (kn k + 1) (fun j => P j (updB D k d j)) = updB (upto (kn k) fun j => P j (D j)) k (P k d) := by
  funext j
  show (if kn j < kn k + 1 then P j (updB D k d j) else .ptr none) = updB (fun j => if kn j < kn k then P j (D j) else .ptr none) k (P k d) j
  by_cases e : j = k
  · subst e
    rw [updB_same, updB_same, if_pos (Nat.lt_succ_self _)]
  · rw [updB_ne _ _ e, updB_ne _ _ e]
    have hne : kn j ≠ kn k := fun q => e (kn_inj q)
    by_cases q : kn j < kn k
    · simp only [if_pos q, if_pos (show kn j < kn k + 1 by omega)]
    · simp only [if_neg q, if_neg (show ¬ kn j < kn k + 1 by omega)]
theorem uptoP_step {α : Type} (P : Bool → α → Part) (D : Bool → α) (k : Bool) (d : α) : ∀ j, updB (uptoP (kn k) fun j => P j (D j)) k (P k d) j = uptoP (kn k + 1) (fun j => P j (updB D k d j)) j := fun j => by
  show updB (fun j => if kn j < kn k then P j (D j) else noP) k (P k d) j = if kn j < kn k + 1 then P j (updB D k d j) else noP
  by_cases e : j = k
  · subst e
    rw [updB_same, updB_same, if_pos (Nat.lt_succ_self _)]
  · rw [updB_ne _ _ e, updB_ne _ _ e]
    have hne : kn j ≠ kn k := fun q => e (kn_inj q)
    by_cases q : kn j < kn k
    · simp only [if_pos q, if_pos (show kn j < kn k + 1 by omega)]
    · simp only [if_neg q, if_neg (show ¬ kn j < kn k + 1 by omega)]
/-- so far made -/
structure WN (h : H) (i : Nat) (v0 : CV) (D : Bool → CId) (E : Bool → RCId) (a7 a8 : Nat) (ps : Nat → Part) : Prop where
  s : Sep h ps
  c : ∀ k, ps (0 + kn k) = uptoP i (fun j => chP (D j) none v0) k
  x : ∀ k, ps (2 + kn k) = uptoP i (fun j => rcP (E j) v0) k
  b : ∀ k, ps (4 + kn k) = bgP none []
  z : ∀ n, ps (6 + n) = z3 (cellP a7 (prow (upto i (cPtr D)))) (cellP a8 (prow (upto i (rPtr E)))) noP n
theorem WN.new {h : H} (v0 : CV) (D : Bool → CId) (E : Bool → RCId) : ∃ ps, WN ((h.push (prow fun _ => .ptr none)).push (prow fun _ => .ptr none)) 0 v0 D E h.next (h.next + 1) ps := by
  refine ⟨fun n => match n with
    | 4 => bgP none []
    | 5 => bgP none []
    | 6 => cellP h.next (prow fun _ => .ptr none)
    | 7 => cellP (h.next + 1) (prow fun _ => .ptr none)
    | _ => noP, ⟨fun n => ?_, fun i => if i = h.next then 6 else 7, fun n i hi => ?_⟩, fun k => by cases k <;> rfl, fun k => by cases k <;> rfl, fun k => by cases k <;> rfl, fun n => ?_⟩
  · match n with
    | 0 => trivial
    | 1 => trivial
    | 2 => trivial
    | 3 => trivial
    | 4 => exact Bag.nil _
    | 5 => exact Bag.nil _
    | 6 => exact H.obj_push _ (H.obj_push_new h _)
    | 7 => exact H.obj_push_new (h.push _) _
    | n + 8 => trivial
  · match n with
    | 0 => exact hi.elim
    | 1 => exact hi.elim
    | 2 => exact hi.elim
    | 3 => exact hi.elim
    | 4 =>
      obtain ⟨o, e⟩ := hi
      cases e
    | 5 =>
      obtain ⟨o, e⟩ := hi
      cases e
    | 6 => exact if_pos hi
    | 7 =>
      have hi : i = h.next + 1 := hi
      exact if_neg (by omega)
    | n + 8 => exact hi.elim
  · match n with
    | 0 => rfl
    | 1 => rfl
    | 2 => rfl
    | n + 3 =>
      have : 6 + (n + 3) = n + 9 := by omega
      rw [this]
      rfl
section
variable {h h' : H} {i : Nat} {v0 : CV} {D : Bool → CId} {E : Bool → RCId} {a7 a8 : Nat} {ps : Nat → Part}
theorem WN.r7 (w : WN h i v0 D E a7 a8 ps) : h.obj a7 = some (prow (upto i (cPtr D))) := by
  have := w.s.1 (6 + 0)
  rw [w.z] at this
  exact this
theorem WN.r8 (w : WN h i v0 D E a7 a8 ps) : h.obj a8 = some (prow (upto i (rPtr E))) := by
  have := w.s.1 (6 + 1)
  rw [w.z] at this
  exact this
theorem WN.old (w : WN h i v0 D E a7 a8 ps) (m : Ab.Mod none_ h h') : WN h' i v0 D E a7 a8 ps := ⟨w.s.old m, w.c, w.x, w.b, w.z⟩
theorem WN.step {k : Bool} {h1 h2 : H} (w : WN h (kn k) v0 D E a7 a8 ps) {d : CId} {e : RCId} (sd : ChS h1 d none v0) (hd : ∀ i, d.all i → h.next ≤ i) (m1 : Ab.Mod none_ h h1) (se : RChS h2 e v0) (he : ∀ i, e.all i → h1.next ≤ i) (m2 : Ab.Mod none_ h1 h2) :
    ∃ ps', WN ((h2.set a7 (prow (updB (upto (kn k) (cPtr D)) k (.ptr (some (d.c, 0)))))).set a8 (prow (updB (upto (kn k) (rPtr E)) k (.ptr (some (e.c, 0)))))) (kn k + 1) v0 (updB D k d) (updB E k e) a7 a8 ps' := by
  have e0 : ps (0 + kn k) = noP := by
    rw [w.c, uptoP, if_neg (Nat.lt_irrefl _)]
  have e2 : ps (2 + kn k) = noP := by
    rw [w.x, uptoP, if_neg (Nat.lt_irrefl _)]
  have s1 := w.s.turn (0 + kn k) (q := chP d none v0) sd (m1.mono (fun _ _ k => k.elim)) (fun i hi => by
    rcases hi with hi | ⟨o, hi⟩
    · exact .inr (hd i hi)
    · cases hi)
  have s2 := s1.turn (2 + kn k) (q := rcP e v0) se (m2.mono (fun _ _ k => k.elim)) (fun i hi => .inr (he i hi))
  have z6 : upd (upd ps (0 + kn k) (chP d none v0)) (2 + kn k) (rcP e v0) (6 + 0) = cellP a7 (prow (upto (kn k) (cPtr D))) := by
    rw [upd_ne _ _ (by have := kn_lt k; omega), upd_ne _ _ (by have := kn_lt k; omega), w.z]
    rfl
  have g7 : h2.obj a7 = some (prow (upto (kn k) (cPtr D))) := by
    have := s2.1 (6 + 0)
    rw [z6] at this
    exact this
  have s3 := s2.turn (6 + 0) (q := cellP a7 (prow (updB (upto (kn k) (cPtr D)) k (.ptr (some (d.c, 0)))))) (H.obj_set_same g7) (by rw [z6]; exact Mod.set rfl g7 rfl) (fun i hi => .inl (by rw [z6]; exact hi))
  have z7 : upd (upd (upd ps (0 + kn k) (chP d none v0)) (2 + kn k) (rcP e v0)) (6 + 0) (cellP a7 (prow (updB (upto (kn k) (cPtr D)) k (.ptr (some (d.c, 0)))))) (6 + 1) = cellP a8 (prow (upto (kn k) (rPtr E))) := by
    rw [upd_ne _ _ (by omega), upd_ne _ _ (by have := kn_lt k; omega), upd_ne _ _ (by have := kn_lt k; omega), w.z]
    rfl
  have g8 : (h2.set a7 (prow (updB (upto (kn k) (cPtr D)) k (.ptr (some (d.c, 0)))))).obj a8 = some (prow (upto (kn k) (rPtr E))) := by
    have := s3.1 (6 + 1)
    rw [z7] at this
    exact this
  have s4 := s3.turn (6 + 1) (q := cellP a8 (prow (updB (upto (kn k) (rPtr E)) k (.ptr (some (e.c, 0)))))) (H.obj_set_same g8) (by rw [z7]; exact Mod.set rfl g8 rfl) (fun i hi => .inl (by rw [z7]; exact hi))
  refine ⟨_, s4, fun j => ?_, fun j => ?_, fun j => ?_, fun n => ?_⟩
  · rw [upd_ne _ _ (by have := kn_lt j; omega), upd_ne _ _ (by have := kn_lt j; omega), upd_ne _ _ (by have := kn_lt j; omega), fam_upd w.c k _ j]
    exact uptoP_step (fun _ x => chP x none v0) D k d j
  · rw [upd_ne _ _ (by have := kn_lt j; omega), upd_ne _ _ (by have := kn_lt j; omega), fam_upd (fam_ne w.x _ (fun j => by have := kn_lt k; omega)) k _ j]
    exact uptoP_step (fun _ x => rcP x v0) E k e j
  · rw [upd_ne _ _ (by have := kn_lt j; omega), upd_ne _ _ (by have := kn_lt j; omega), upd_ne _ _ (by have := kn_lt k; omega), upd_ne _ _ (by have := kn_lt k; omega), w.b]
  · have u7 : upto (kn k + 1) (cPtr (updB D k d)) = updB (upto (kn k) (cPtr D)) k (.ptr (some (d.c, 0))) := upto_step (fun _ (x : CId) => V.ptr (some (x.c, 0))) D k d
    have u8 : upto (kn k + 1) (rPtr (updB E k e)) = updB (upto (kn k) (rPtr E)) k (.ptr (some (e.c, 0))) := upto_step (fun _ (x : RCId) => V.ptr (some (x.c, 0))) E k e
    rw [u7, u8]
    match n with
    | 0 =>
      rw [upd_ne _ _ (by omega), upd_same]
      rfl
    | 1 =>
      rw [upd_same]
      rfl
    | n + 2 =>
      rw [upd_ne _ _ (by omega), upd_ne _ _ (by omega), upd_ne _ _ (by have := kn_lt k; omega), upd_ne _ _ (by have := kn_lt k; omega), w.z]
      match n with
      | 0 => rfl
      | n + 1 => rfl
theorem upto_two (f : Bool → V) : upto 2 f = f := by
  funext k
  exact if_pos (kn_lt k)
/-- all made -/
theorem WN.done (w : WN h 2 v0 D E a7 a8 ps) : ∃ ps', WA (h.push (prow fun _ => .sl none 0)) D (fun _ => none) (fun _ => v0) (fun k => rcP (E k) v0) (fun _ => none) (fun _ => []) (z3 (cellP a7 (prow (cPtr D))) (cellP a8 (prow (rPtr E))) (cellP h.next (prow fun _ => .sl none 0))) ps' := by
  have m := Mod.push none_ h (prow fun _ => .sl none 0)
  have e8 : ps (6 + 2) = noP := w.z 2
  refine ⟨upd ps (6 + 2) (cellP h.next (prow fun _ => .sl none 0)), w.s.turn (6 + 2) (H.obj_push_new h _) (by rw [e8]; exact m.mono (fun _ _ k => k.elim)) (fun i hi => .inr (by have : i = h.next := hi; omega)), fun k => ?_, fun k => ?_, fun k => ?_, fun n => ?_⟩
  · rw [upd_ne _ _ (by have := kn_lt k; omega), w.c, uptoP, if_pos (kn_lt k)]
  · rw [upd_ne _ _ (by have := kn_lt k; omega), w.x, uptoP, if_pos (kn_lt k)]
  · rw [upd_ne _ _ (by have := kn_lt k; omega), w.b]
  · match n with
    | 0 =>
      rw [upd_ne _ _ (by omega), w.z]
      show cellP a7 (prow (upto 2 (cPtr D))) = _
      rw [upto_two]
      rfl
    | 1 =>
      rw [upd_ne _ _ (by omega), w.z]
      show cellP a8 (prow (upto 2 (rPtr E))) = _
      rw [upto_two]
      rfl
    | 2 => exact upd_same _ _ _
    | n + 3 => rw [upd_ne _ _ (by omega), w.z]; rfl
end
end Go.Proofs.Ytoljllfbabahpaa
/-! ChannelActs: its walk. -/
namespace Go.Proofs.Ytoljllfbabahpaa
open Go Go.Ab
structure ActC where
  kind : Int
  side : Int
  n : Int
  bp : Option (Nat × Nat)
  bs : List Int
  gp : Option (Nat × Nat)
  g : GV
def ActC.cells (e : ActC) : List V := [i64 e.kind, i64 e.side, i64 e.n, .sl e.bp e.bs.length] ++ gC (e.g, e.gp)
theorem actC_len (e : ActC) : e.cells.length = 10 := rfl
structure ActsC (h : H) (p : Option (Nat × Nat)) (n : Nat) (es : List ActC) : Prop where
  sl : RoSl h p n 10 (es.flatMap ActC.cells)
  ln : es.length = n
  ok : ∀ e ∈ es, RoSl h e.bp e.bs.length 1 (ints .u8 e.bs) ∧ Oct e.bs ∧ gOk h (e.g, e.gp) ∧ Oct e.g.body ∧ inI e.g.seq
theorem ActsC.get {Z : Nat → Prop} {h h' : H} {p : Option (Nat × Nat)} {n : Nat} {es : List ActC} (s : ActsC h p n es) (m : Ab.Mod Z h h') : ActsC h' p n es :=
  ⟨s.sl.get m, s.ln, fun e he => ⟨(s.ok e he).1.get m, (s.ok e he).2.1, (s.ok e he).2.2.1.get m, (s.ok e he).2.2.2⟩⟩
/-- what holds of a channel's value -/
structure CHk (v : CV) (conn : Int) (j : Nat) : Prop where
  ok : COk v
  ov : OV v
  cnt : v.cnt ≤ j
  n : v.N ≤ 16 * j
  conn : v.conn = conn
theorem CHk.mono {v : CV} {conn : Int} {j : Nat} (c : CHk v conn j) : CHk v conn (j + 1) := ⟨c.ok, c.ov, by have := c.cnt; omega, by have := c.n; omega, c.conn⟩
theorem CHk.room {v : CV} {conn : Int} {j : Nat} (c : CHk v conn j) (hj : j ≤ 1000) : v.s.N + v.O.length ≤ 10000000 ∧ v.N ≤ 1000000 ∧ v.cnt ≤ 10000000 := by
  have h1 := c.cnt
  have h2 := c.n
  unfold CV.cnt at h1 ⊢
  omega
theorem pays_len {v : CV} {s : SV} (o : COk v) (os : SOk s) (now : Int) : (paysV now s v.O).1.length ≤ 1000 := by
  have h1 := (pays_ok now v.O os o.ob).2.2.2.1
  have h2 := o.o
  omega
theorem push_len {v : CV} (o : COk v) (now : Int) {b : List Int} (hb : b.length ≤ 100000) : (pushV v now b).1.1.length ≤ 1001 := by
  unfold pushV
  split
  · exact Nat.zero_le _
  · split
    · exact Nat.zero_le _
    · have h1 := (pays_ok now (v.O ++ [b]) o.s (fun c hc => by
        rcases List.mem_append.1 hc with hc | hc
        · exact o.ob c hc
        · have : c = b := by simpa using hc
          rw [this]; exact hb)).2.2.2.1
      have h2 := o.o
      have h3 : (v.O ++ [b]).length = v.O.length + 1 := by simp
      show ((paysV now v.s (v.O ++ [b])).1.map (pg v)).length ≤ 1001
      rw [List.length_map]
      omega
theorem recv_len {v : CV} (o : COk v) (now : Int) (g : GV) : (recvV v now g).1.2.length ≤ 1001 := by
  unfold recvV
  split
  · exact Nat.zero_le _
  · have hs : (recvM v g).s = recvS v g := by
      unfold recvM
      split <;> rfl
    have h1 := pays_len (s := recvS v g) o (o.s.ack g.ack) now
    show ((if g.kind = 1 then [(⟨v.conn, 2, 0, (recvM v g).N, 0, []⟩ : GV)] else []) ++ (paysV now (recvM v g).s v.O).1.map (pg (recvM v g))).length ≤ 1001
    rw [List.length_append, List.length_map, hs]
    split
    · simp
      omega
    · simp
      omega
theorem pass_len {v : CV} (o : COk v) (now : Int) : (passV v now).1.1.length ≤ 1016 := by
  unfold passV
  split
  · have h1 := pays_len (s := (passM v now).s) o (o.s.again now) now
    have h2 := again_len o.s now
    show ((againV v.s now).1.1.map (dataV (passM v now)) ++ (paysV now (passM v now).s v.O).1.map (pg (passM v now))).length ≤ 1016
    rw [List.length_append, List.length_map, List.length_map]
    omega
  · exact Nat.zero_le _
theorem CHk.push {v : CV} {conn : Int} {j : Nat} (c : CHk v conn j) (hj : j ≤ 1000) (now : Int) {b : List Int} (hb : Oct b) (hl : b.length ≤ 100000) : CHk (pushV v now b).2 conn (j + 1) ∧ (∀ g ∈ (pushV v now b).1.1, GO g) := by
  obtain ⟨r1, r2, r3⟩ := c.room hj
  obtain ⟨q1, q2, q3, q4, q5⟩ := push_ov c.ok c.ov r3 now hb hl
  have h1 := c.cnt
  have h2 := c.n
  exact ⟨⟨push_cok c.ok now hl, q1, by omega, by omega, q5.trans c.conn⟩, q2⟩
theorem CHk.recv {v : CV} {conn : Int} {j : Nat} (c : CHk v conn j) (hj : j ≤ 1000) (now : Int) {g : GV} (hg : GO g) : CHk (recvV v now g).2 conn (j + 1) ∧ (∀ b ∈ (recvV v now g).1.1, Oct b) ∧ (∀ g' ∈ (recvV v now g).1.2, GO g') ∧ (recvV v now g).1.1.length ≤ 16 := by
  obtain ⟨r1, r2, r3⟩ := c.room hj
  obtain ⟨q1, q2, q3, q4, q5, q6, q7⟩ := recv_ov c.ok c.ov r3 now hg
  have h1 := c.cnt
  have h2 := c.n
  exact ⟨⟨recv_cok c.ok now g, q1, by omega, by omega, q6.trans c.conn⟩, q2, q3, q7⟩
theorem CHk.pass {v : CV} {conn : Int} {j : Nat} (c : CHk v conn j) (hj : j ≤ 1000) (now : Int) : CHk (passV v now).2 conn (j + 1) ∧ (∀ g ∈ (passV v now).1.1, GO g) := by
  obtain ⟨r1, r2, r3⟩ := c.room hj
  obtain ⟨q1, q2, q3, q4, q5⟩ := pass_ov c.ok c.ov r3 now
  have h1 := c.cnt
  have h2 := c.n
  exact ⟨⟨pass_cok c.ok now, q1, by omega, by omega, q5.trans c.conn⟩, q2⟩
/-- the world between two acts -/
def W0 (h : H) (D : Bool → CId) (E : Bool → RCId) (a7 a8 a13 : Nat) (PC : Bool → Option (Nat × Nat)) (W W' : Bool → CV) (PB : Bool → Option (Nat × Nat)) (L : Bool → List GV) (R : Bool → V) : Prop :=
  ∃ ps, WA h D PC W (fun k => rcP (E k) (W' k)) PB L (z3 (cellP a7 (prow (cPtr D))) (cellP a8 (prow (rPtr E))) (cellP a13 (prow R))) ps
section
variable {h h' : H} {D : Bool → CId} {E : Bool → RCId} {a7 a8 a13 : Nat} {PC : Bool → Option (Nat × Nat)} {W W' : Bool → CV} {PB : Bool → Option (Nat × Nat)} {L : Bool → List GV} {R : Bool → V}
theorem W0.old (w : W0 h D E a7 a8 a13 PC W W' PB L R) (m : Ab.Mod none_ h h') : W0 h' D E a7 a8 a13 PC W W' PB L R := by
  obtain ⟨ps, w⟩ := w
  exact ⟨ps, w.old m⟩
theorem W0.chan (w : W0 h D E a7 a8 a13 PC W W' PB L R) (k : Bool) : ChS h (D k) (PC k) (W k) := by
  obtain ⟨ps, w⟩ := w
  exact w.chan k
theorem W0.rch (w : W0 h D E a7 a8 a13 PC W W' PB L R) (k : Bool) : RChS h (E k) (W' k) := by
  obtain ⟨ps, w⟩ := w
  exact w.ex k
theorem W0.bag (w : W0 h D E a7 a8 a13 PC W W' PB L R) (k : Bool) : Bag h (PB k) (L k) := by
  obtain ⟨ps, w⟩ := w
  exact w.bag k
theorem W0.r7 (w : W0 h D E a7 a8 a13 PC W W' PB L R) : h.obj a7 = some (.row true 2 (pair (cPtr D))) := by
  obtain ⟨ps, w⟩ := w
  exact w.ze 0
theorem W0.r8 (w : W0 h D E a7 a8 a13 PC W W' PB L R) : h.obj a8 = some (.row true 2 (pair (rPtr E))) := by
  obtain ⟨ps, w⟩ := w
  exact w.ze 1
theorem W0.r13 (w : W0 h D E a7 a8 a13 PC W W' PB L R) : h.obj a13 = some (.row true 2 (pair R)) := by
  obtain ⟨ps, w⟩ := w
  exact w.ze 2
theorem W0.turnC (w : W0 h D E a7 a8 a13 PC W W' PB L R) (k : Bool) {pc : Option (Nat × Nat)} {v : CV} (s : ChS h' (D k) pc v) (m : Ab.Mod (chAll (D k) (PC k)) h h') (hp : ∀ i, inSl pc i → inSl (PC k) i ∨ h.next ≤ i) : W0 h' D E a7 a8 a13 (updB PC k pc) (updB W k v) W' PB L R := by
  obtain ⟨ps, w⟩ := w
  exact w.turnC k s m hp
theorem W0.turnR (w : W0 h D E a7 a8 a13 PC W W' PB L R) (k : Bool) {v : CV} (s : RChS h' (E k) v) (m : Ab.Mod (E k).all h h') : W0 h' D E a7 a8 a13 PC W (updB W' k v) PB L R := by
  obtain ⟨ps, w⟩ := w
  obtain ⟨ps', w'⟩ := w.turnX k (q := rcP (E k) v) s m (fun i hi => .inl hi)
  refine ⟨ps', ?_⟩
  have e : (fun j => rcP (E j) (updB W' k v j)) = updB (fun k => rcP (E k) (W' k)) k (rcP (E k) v) := by
    funext j
    by_cases e : j = k
    · subst e
      rw [updB_same, updB_same]
    · rw [updB_ne _ _ e, updB_ne _ _ e]
  rw [e]
  exact w'
theorem W0.turnB (w : W0 h D E a7 a8 a13 PC W W' PB L R) (k : Bool) {p : Option (Nat × Nat)} {K : List GV} (s : Bag h' p K) (m : Ab.Mod (inSl (PB k)) h h') (hp : ∀ i, inSl p i → inSl (PB k) i ∨ h.next ≤ i) : W0 h' D E a7 a8 a13 PC W W' (updB PB k p) (updB L k K) R := by
  obtain ⟨ps, w⟩ := w
  exact w.turnB k s m hp
theorem W0.set (w : W0 h D E a7 a8 a13 PC W W' PB L R) (k : Bool) (v : V) : W0 (h.set a13 (.row true 2 (splice (pair R) (0 + kn k * 1) [v]))) D E a7 a8 a13 PC W W' PB L (updB R k v) := by
  obtain ⟨ps, w⟩ := w
  obtain ⟨ps', w'⟩ := w.setZ 2 (a := a13) (ob := prow R) (ob' := .row true 2 (splice (pair R) (0 + kn k * 1) [v])) rfl rfl
  rw [z3_2, pair_set] at w'
  exact ⟨ps', by rw [pair_set]; exact w'⟩
/-- where a bag's slice is written -/
theorem W0.set13 (w : W0 h D E a7 a8 a13 PC W W' PB L R) (k : Bool) (v : V) : Ab.Mod (one a13) h (h.set a13 (.row true 2 (splice (pair R) (0 + kn k * 1) [v]))) := Mod.set rfl w.r13 rfl
end
end Go.Proofs.Ytoljllfbabahpaa
