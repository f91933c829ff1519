/- V4: several texts in one. -/
import Derived.Test.YtoljllfbabahpaaV3
set_option linter.unusedVariables false
/-! ChannelOrder: what lies in memory. -/
namespace Go.Proofs.Ytoljllfbabahpaa
open Go Go.Ab
/-- strings: a row of one's own -/
def Gts (h : H) (p : Option (Nat × Nat)) (S : List (List Int)) : Prop := SlIs h p S.length true 1 (S.map V.str)
theorem Gts.get {Z : Nat → Prop} {h h' : H} {p : Option (Nat × Nat)} {S : List (List Int)} (s : Gts h p S) (m : Ab.Mod Z h h') (hz : ∀ i, inSl p i → ¬ Z i) : Gts h' p S := SlIs.get s m (fun i o e => .inl (hz i ⟨o, e⟩))
def gtP (p : Option (Nat × Nat)) (S : List (List Int)) : Part := ⟨inSl p, fun h => Gts h p S, fun s e => SlIs.own_lt s e, fun s m hz => s.get m hz⟩
theorem Gts.nil (h : H) : Gts h none [] := SlIs.nil _ _ _
theorem Gts.cell {h : H} {p : Option (Nat × Nat)} {S : List (List Int)} (s : Gts h p S) {j : Nat} (hj : j < S.length) : ∃ i c, p = some (i, c) ∧ Cell h i (c + j * 1) (.str S[j]) := by
  have e : (S.map V.str)[j]? = some (.str S[j]) := by rw [List.getElem?_map, List.getElem?_eq_getElem hj]; rfl
  rw [Nat.mul_one]
  exact SlIs.cell s e
theorem Gts.app1 {h : H} {p : Option (Nat × Nat)} {S : List (List Int)} (s : Gts h p S) (b : List Int) : SlIs (h.push (.row true 1 [.str b])) p S.length true 1 (S.map V.str) ∧ SlIs (h.push (.row true 1 [.str b])) (some (h.next, 0)) 1 false 1 [.str b] ∧ ∀ p' h', SlIs h' p' (S.length + 1) true 1 (S.map V.str ++ [.str b]) → Ab.Mod (inSl p) (h.push (.row true 1 [.str b])) h' → isFresh (h.push (.row true 1 [.str b])) p p' →
    Gts h' p' (S ++ [b]) ∧ (∀ i, inSl p' i → inSl p i ∨ h.next ≤ i) ∧ Ab.Mod (inSl p) h h' := by
  have mP := Mod.push none_ h (.row true 1 [.str b])
  refine ⟨SlIs.old s mP (fun _ _ k => k), (SlIs.row (n := 1) (H.obj_push_new _ _) rfl).weak, fun p' h' hs hm hf => ⟨?_, fun i ⟨o, e⟩ => ?_, mP.trans' hm (fun _ _ k => k.elim) (fun _ _ k => k)⟩⟩
  · unfold Gts
    rw [List.length_append, List.map_append]
    exact hs
  · rcases hf i o e with k | k
    · exact .inl ⟨o, by rw [← k, e]⟩
    · exact .inr (Nat.le_trans (Nat.le_succ _) k)
def rowG (PG : Bool → Option (Nat × Nat)) (G : Bool → List (List Int)) : Bool → V := fun k => .sl (PG k) (G k).length
theorem rowG_upd (PG : Bool → Option (Nat × Nat)) (G : Bool → List (List Int)) (k : Bool) (p : Option (Nat × Nat)) (K : List (List Int)) : updB (rowG PG G) k (.sl p K.length) = rowG (updB PG k p) (updB G k K) := by
  funext j
  unfold rowG
  by_cases e : j = k
  · subst e
    rw [updB_same, updB_same, updB_same]
  · rw [updB_ne _ _ e, updB_ne _ _ e, updB_ne _ _ e]
def WO (h : H) (D : Bool → CId) (a14 a15 a16 : Nat) (PC : Bool → Option (Nat × Nat)) (W : Bool → CV) (PB : Bool → Option (Nat × Nat)) (L : Bool → List GV) (RB : Bool → V) (PG : Bool → Option (Nat × Nat)) (G : Bool → List (List Int)) (RG : Bool → V) : Prop :=
  ∃ ps, WA h D PC W (fun k => gtP (PG k) (G k)) PB L (z3 (cellP a14 (prow (cPtr D))) (cellP a15 (prow RB)) (cellP a16 (prow RG))) ps
section
variable {h h' : H} {D : Bool → CId} {a14 a15 a16 : Nat} {PC : Bool → Option (Nat × Nat)} {W : Bool → CV} {PB : Bool → Option (Nat × Nat)} {L : Bool → List GV} {RB : Bool → V} {PG : Bool → Option (Nat × Nat)} {G : Bool → List (List Int)} {RG : Bool → V}
theorem WO.old (w : WO h D a14 a15 a16 PC W PB L RB PG G RG) (m : Ab.Mod none_ h h') : WO h' D a14 a15 a16 PC W PB L RB PG G RG := by
  obtain ⟨ps, w⟩ := w
  exact ⟨ps, w.old m⟩
theorem WO.chan (w : WO h D a14 a15 a16 PC W PB L RB PG G RG) (k : Bool) : ChS h (D k) (PC k) (W k) := by
  obtain ⟨ps, w⟩ := w
  exact w.chan k
theorem WO.got (w : WO h D a14 a15 a16 PC W PB L RB PG G RG) (k : Bool) : Gts h (PG k) (G k) := by
  obtain ⟨ps, w⟩ := w
  exact w.ex k
theorem WO.bag (w : WO h D a14 a15 a16 PC W PB L RB PG G RG) (k : Bool) : Bag h (PB k) (L k) := by
  obtain ⟨ps, w⟩ := w
  exact w.bag k
theorem WO.r14 (w : WO h D a14 a15 a16 PC W PB L RB PG G RG) : h.obj a14 = some (.row true 2 (pair (cPtr D))) := by
  obtain ⟨ps, w⟩ := w
  exact w.ze 0
theorem WO.r15 (w : WO h D a14 a15 a16 PC W PB L RB PG G RG) : h.obj a15 = some (.row true 2 (pair RB)) := by
  obtain ⟨ps, w⟩ := w
  exact w.ze 1
theorem WO.r16 (w : WO h D a14 a15 a16 PC W PB L RB PG G RG) : h.obj a16 = some (.row true 2 (pair RG)) := by
  obtain ⟨ps, w⟩ := w
  exact w.ze 2
theorem WO.turnC (w : WO h D a14 a15 a16 PC W PB L RB PG G RG) (k : Bool) {pc : Option (Nat × Nat)} {v : CV} (s : ChS h' (D k) pc v) (m : Ab.Mod (chAll (D k) (PC k)) h h') (hp : ∀ i, inSl pc i → inSl (PC k) i ∨ h.next ≤ i) : WO h' D a14 a15 a16 (updB PC k pc) (updB W k v) PB L RB PG G RG := by
  obtain ⟨ps, w⟩ := w
  exact w.turnC k s m hp
theorem WO.turnB (w : WO h D a14 a15 a16 PC W PB L RB PG G RG) (k : Bool) {p : Option (Nat × Nat)} {K : List GV} (s : Bag h' p K) (m : Ab.Mod (inSl (PB k)) h h') (hp : ∀ i, inSl p i → inSl (PB k) i ∨ h.next ≤ i) : WO h' D a14 a15 a16 PC W (updB PB k p) (updB L k K) RB PG G RG := by
  obtain ⟨ps, w⟩ := w
  exact w.turnB k s m hp
theorem WO.turnG (w : WO h D a14 a15 a16 PC W PB L RB PG G RG) (k : Bool) {p : Option (Nat × Nat)} {K : List (List Int)} (s : Gts h' p K) (m : Ab.Mod (inSl (PG k)) h h') (hp : ∀ i, inSl p i → inSl (PG k) i ∨ h.next ≤ i) : WO h' D a14 a15 a16 PC W PB L RB (updB PG k p) (updB G k K) RG := by
  obtain ⟨ps, w⟩ := w
  obtain ⟨ps', w'⟩ := w.turnX k (q := gtP p K) s m hp
  refine ⟨ps', ?_⟩
  have e : (fun j => gtP (updB PG k p j) (updB G k K j)) = updB (fun k => gtP (PG k) (G k)) k (gtP p K) := by
    funext j
    by_cases e : j = k
    · subst e
      rw [updB_same, updB_same, updB_same]
    · rw [updB_ne _ _ e, updB_ne _ _ e, updB_ne _ _ e]
  rw [e]
  exact w'
theorem WO.set15 (w : WO h D a14 a15 a16 PC W PB L RB PG G RG) (k : Bool) (v : V) : WO (h.set a15 (.row true 2 (splice (pair RB) (0 + kn k * 1) [v]))) D a14 a15 a16 PC W PB L (updB RB k v) PG G RG ∧ Ab.Mod (one a15) h (h.set a15 (.row true 2 (splice (pair RB) (0 + kn k * 1) [v]))) := by
  refine ⟨?_, Mod.set rfl w.r15 rfl⟩
  obtain ⟨ps, w⟩ := w
  obtain ⟨ps', w'⟩ := w.setZ 1 (a := a15) (ob := prow RB) (ob' := .row true 2 (splice (pair RB) (0 + kn k * 1) [v])) rfl rfl
  rw [z3_1, pair_set] at w'
  exact ⟨ps', by rw [pair_set]; exact w'⟩
theorem WO.set16 (w : WO h D a14 a15 a16 PC W PB L RB PG G RG) (k : Bool) (v : V) : WO (h.set a16 (.row true 2 (splice (pair RG) (0 + kn k * 1) [v]))) D a14 a15 a16 PC W PB L RB PG G (updB RG k v) ∧ Ab.Mod (one a16) h (h.set a16 (.row true 2 (splice (pair RG) (0 + kn k * 1) [v]))) := by
  refine ⟨?_, Mod.set rfl w.r16 rfl⟩
  obtain ⟨ps, w⟩ := w
  obtain ⟨ps', w'⟩ := w.setZ 2 (a := a16) (ob := prow RG) (ob' := .row true 2 (splice (pair RG) (0 + kn k * 1) [v])) rfl rfl
  rw [z3_2, pair_set] at w'
  exact ⟨ps', by rw [pair_set]; exact w'⟩
end
def bsel {α : Type} (x y : α) : Bool → α := fun k => match k with
  | false => x
  | true => y
/-- begun -/
theorem WO.new {h0 h1 h2 : H} {da db : CId} {va vb : CV} (s1 : ChS h1 da none va) (e1 : ∀ i, da.all i → h0.next ≤ i) (m1 : Ab.Mod none_ h0 h1) (s2 : ChS h2 db none vb) (e2 : ∀ i, db.all i → h1.next ≤ i) (m2 : Ab.Mod none_ h1 h2) :
    WO (((h2.push (prow (cPtr (bsel da db)))).push (prow fun _ => .sl none 0)).push (prow fun _ => .sl none 0)) (bsel da db) h2.next (h2.next + 1) (h2.next + 1 + 1) (fun _ => none) (bsel va vb) (fun _ => none) (fun _ => []) (rowB (fun _ => none) fun _ => []) (fun _ => none) (fun _ => []) (rowG (fun _ => none) fun _ => []) := by
  have s0 : Sep h0 (fun n => match n with
    | 2 => gtP none []
    | 3 => gtP none []
    | 4 => bgP none []
    | 5 => bgP none []
    | _ => noP) := by
    refine ⟨fun n => ?_, fun _ => 0, fun n i hi => ?_⟩
    · match n with
      | 0 => trivial
      | 1 => trivial
      | 2 => exact Gts.nil _
      | 3 => exact Gts.nil _
      | 4 => exact Bag.nil _
      | 5 => exact Bag.nil _
      | n + 6 => trivial
    · match n with
      | 0 => exact hi.elim
      | 1 => exact hi.elim
      | 2 =>
        obtain ⟨o, e⟩ := hi
        cases e
      | 3 =>
        obtain ⟨o, e⟩ := hi
        cases e
      | 4 =>
        obtain ⟨o, e⟩ := hi
        cases e
      | 5 =>
        obtain ⟨o, e⟩ := hi
        cases e
      | n + 6 => exact hi.elim
  have t1 := s0.turn 0 (q := chP da none va) s1 (m1.mono (fun _ _ k => k.elim)) (fun i hi => by
    rcases hi with hi | ⟨o, hi⟩
    · exact .inr (e1 i hi)
    · cases hi)
  have t2 := t1.turn 1 (q := chP db none vb) s2 (m2.mono (fun _ _ k => k.elim)) (fun i hi => by
    rcases hi with hi | ⟨o, hi⟩
    · exact .inr (e2 i hi)
    · cases hi)
  have t3 := t2.turn 6 (q := cellP h2.next (prow (cPtr (bsel da db)))) (H.obj_push_new h2 _) ((Mod.push none_ h2 _).mono (fun _ _ k => k.elim)) (fun i hi => .inr (by have : i = h2.next := hi; omega))
  have t4 := t3.turn 7 (q := cellP (h2.next + 1) (prow fun _ => .sl none 0)) (H.obj_push_new (h2.push _) _) ((Mod.push none_ (h2.push _) _).mono (fun _ _ k => k.elim)) (fun i hi => .inr (by have : i = h2.next + 1 := hi; show h2.next + 1 ≤ i; omega))
  have t5 := t4.turn 8 (q := cellP (h2.next + 1 + 1) (prow fun _ => .sl none 0)) (H.obj_push_new ((h2.push _).push _) _) ((Mod.push none_ ((h2.push _).push _) _).mono (fun _ _ k => k.elim)) (fun i hi => .inr (by have : i = h2.next + 1 + 1 := hi; show h2.next + 1 + 1 ≤ i; omega))
  refine ⟨_, t5, fun k => by cases k <;> rfl, fun k => by cases k <;> rfl, fun k => by cases k <;> rfl, fun n => ?_⟩
  match n with
  | 0 => rfl
  | 1 => rfl
  | 2 => rfl
  | n + 3 =>
    rw [upd_ne _ _ (by omega), upd_ne _ _ (by omega), upd_ne _ _ (by omega), upd_ne _ _ (by omega), upd_ne _ _ (by omega)]
    have : 6 + (n + 3) = n + 9 := by omega
    rw [this]
    rfl
end Go.Proofs.Ytoljllfbabahpaa
/-! ChannelOrder: what holds from act to act. -/
namespace Go.Proofs.Ytoljllfbabahpaa
open Go Go.Ab
theorem u8_sm {x : Int} (h0 : 0 ≤ x) (h1 : x ≤ 255) : IntKind.u8.wrap x = x := by
  simp [IntKind.wrap, IntKind.bits, IntKind.signed]
  omega
def par (n : Nat) : Bool := n % 2 == 1
theorem kn_par (n : Nat) : kn (par n) = n % 2 := by
  unfold par
  have := Nat.mod_lt n (show 0 < 2 by decide)
  by_cases h : n % 2 = 1
  · rw [h]
    rfl
  · have h0 : n % 2 = 0 := by omega
    rw [h0]
    rfl
theorem par_succ (n : Nat) : par (n + 1) = !par n := kn_inj (by
  have h1 := kn_par n
  have h2 := kn_par (n + 1)
  cases h : par n with
  | false =>
    rw [h] at h1
    have h1 : 0 = n % 2 := h1
    show kn (par (n + 1)) = 1
    omega
  | true =>
    rw [h] at h1
    have h1 : 1 = n % 2 := h1
    show kn (par (n + 1)) = 0
    omega)
theorem tmod_two (i : Nat) : ((i : Int)).tmod 2 = (kn (par i) : Int) := by
  rw [kn_par]
  have : ((i : Int)).tmod 2 = ((i % 2 : Nat) : Int) := by
    rw [Int.tmod_eq_emod_of_nonneg (by omega)]
    rfl
  rw [this]
theorem updB_twice {α : Type} (f : Bool → α) (k : Bool) (u v : α) : updB (updB f k u) k v = updB f k v := by
  funext j
  by_cases e : j = k
  · subst e
    rw [updB_same, updB_same]
  · rw [updB_ne _ _ e, updB_ne _ _ e, updB_ne _ _ e]
theorem updB_self {α : Type} {f : Bool → α} {k : Bool} {v : α} (h : f k = v) : updB f k v = f := by
  rw [← h, updB_idem]
structure PH (Wn : Int) (B : Bool → List (List Int)) (o : OS) (a : Bool → Int) : Prop where
  iv : IV Wn B o a
  ck : ∀ k, COk (o.W k)
  ov : ∀ k, OV (o.W k)
  go : ∀ k, ∀ g ∈ o.L k, GO g
  bl : ∀ k, (B k).length ≤ 25
section
variable {Wn : Int} {B : Bool → List (List Int)} {o : OS} {a : Bool → Int}
theorem PH.room (p : PH Wn B o a) (k : Bool) : (o.W k).s.N + (o.W k).O.length ≤ 25 ∧ (o.W k).N ≤ 25 ∧ (o.W k).cnt ≤ 10000000 ∧ ¬ 64 ≤ (o.W k).O.length := by
  obtain ⟨w1, w2, w3⟩ := (p.iv.d k).d.win
  have h1 := p.iv.le k
  have h2 := p.iv.le (!k)
  have b1 := p.bl k
  have b2 := p.bl (!k)
  rw [Bool.not_not] at h2
  unfold CV.cnt
  omega
theorem PH.psh (p : PH Wn B o a) (k : Bool) {b : List Int} (hb : b.length ≤ 100000) (ho : Oct b) (hl : (B k).length < 25) : PH Wn (updB B k (B k ++ [b])) (psh o k b) a := by
  obtain ⟨r1, r2, r3, r4⟩ := p.room k
  obtain ⟨i1, i2, i3⟩ := p.iv.psh k hb r4
  obtain ⟨q1, q2, q3, q4, q5⟩ := push_ov (p.ck k) (p.ov k) r3 0 ho hb
  refine ⟨i1, both k ?_ ?_, both k ?_ ?_, both k ?_ ?_, both k ?_ ?_⟩
  · show COk (updB _ k _ k)
    rw [updB_same]
    exact push_cok (p.ck k) 0 hb
  · show COk (updB _ k _ (!k))
    rw [updB_ne _ _ (not_ne k)]
    exact p.ck (!k)
  · show OV (updB _ k _ k)
    rw [updB_same]
    exact q1
  · show OV (updB _ k _ (!k))
    rw [updB_ne _ _ (not_ne k)]
    exact p.ov (!k)
  · show ∀ g ∈ updB _ k _ k, GO g
    rw [updB_same]
    intro g hg
    rcases List.mem_append.1 hg with hg | hg
    · exact p.go k g hg
    · exact q2 g hg
  · show ∀ g ∈ updB _ k _ (!k), GO g
    rw [updB_ne _ _ (not_ne k)]
    exact p.go (!k)
  · rw [updB_same, List.length_append]
    show (B k).length + 1 ≤ 25
    omega
  · rw [updB_ne _ _ (not_ne k)]
    exact p.bl (!k)
theorem PH.dlv (p : PH Wn B o a) (k : Bool) {j : Nat} (hj : j < (o.L k).length) (now : Int) : PH Wn B (dlv o k j now) (dlvA o a k j) ∧ (∀ b ∈ (dlvR o k j now).1.1, Oct b) ∧ (dlvR o k j now).1.1.length ≤ 16 := by
  obtain ⟨r1, r2, r3, r4⟩ := p.room (!k)
  obtain ⟨w1, w2⟩ := dlv_W o k j now
  obtain ⟨l1, l2⟩ := dlv_L o k j now
  have hg := p.go k _ (gv_mem hj)
  obtain ⟨q1, q2, q3, q4, q5, q6, q7⟩ := recv_ov (p.ck (!k)) (p.ov (!k)) r3 now hg
  refine ⟨⟨p.iv.step k hj now, both k ?_ ?_, both k ?_ ?_, both k ?_ ?_, p.bl⟩, q2, q7⟩
  · rw [w1]
    exact p.ck k
  · rw [w2]
    exact recv_cok (p.ck (!k)) now _
  · rw [w1]
    exact p.ov k
  · rw [w2]
    exact q1
  · rw [l1]
    exact fun g hg => p.go k g (List.mem_of_mem_eraseIdx hg)
  · rw [l2]
    intro g hg
    rcases List.mem_append.1 hg with hg | hg
    · exact p.go (!k) g hg
    · exact q3 g hg
theorem PH.same (p : PH Wn B o a) {L' : Bool → List GV} (h : ∀ k, ∀ g ∈ L' k, g ∈ o.L k) : PH Wn B ⟨o.W, L', o.G⟩ a :=
  ⟨p.iv.same h, p.ck, p.ov, fun k g hg => p.go k g (h k g hg), p.bl⟩
theorem PH.dup (p : PH Wn B o a) (k : Bool) {j : Nat} (hj : j < (o.L k).length) : PH Wn B (dup o k j) a :=
  ⟨(p.iv.dup k hj).1, p.ck, p.ov, both k (by
    show ∀ g ∈ updB _ k _ k, GO g
    rw [updB_same]
    intro g hg
    rcases List.mem_append.1 hg with hg | hg
    · exact p.go k g hg
    · have : g = (o.L k).getD j gv0 := by simpa using hg
      rw [this]
      exact p.go k _ (gv_mem hj)) (by
    show ∀ g ∈ updB _ k _ (!k), GO g
    rw [updB_ne _ _ (not_ne k)]
    exact p.go (!k)), p.bl⟩
theorem PH.drp (p : PH Wn B o a) (k : Bool) {j : Nat} (hj : j < (o.L k).length) : PH Wn B (drp o k j) a :=
  ⟨(p.iv.drp k hj).1, p.ck, p.ov, both k (by
    show ∀ g ∈ updB _ k _ k, GO g
    rw [updB_same]
    exact fun g hg => p.go k g (List.mem_of_mem_eraseIdx hg)) (by
    show ∀ g ∈ updB _ k _ (!k), GO g
    rw [updB_ne _ _ (not_ne k)]
    exact p.go (!k)), p.bl⟩
theorem PH.pss (p : PH Wn B o a) (k : Bool) (t : TSI (o.W k).s) : PH Wn B (pss o k) a := by
  obtain ⟨r1, r2, r3, r4⟩ := p.room k
  obtain ⟨q1, q2, q3, q4, q5⟩ := pass_ov (p.ck k) (p.ov k) r3 1000
  refine ⟨(p.iv.pss k t).1, both k ?_ ?_, both k ?_ ?_, both k ?_ ?_, p.bl⟩
  · show COk (updB _ k _ k)
    rw [updB_same]
    exact pass_cok (p.ck k) 1000
  · show COk (updB _ k _ (!k))
    rw [updB_ne _ _ (not_ne k)]
    exact p.ck (!k)
  · show OV (updB _ k _ k)
    rw [updB_same]
    exact q1
  · show OV (updB _ k _ (!k))
    rw [updB_ne _ _ (not_ne k)]
    exact p.ov (!k)
  · show ∀ g ∈ updB _ k _ k, GO g
    rw [updB_same]
    intro g hg
    rcases List.mem_append.1 hg with hg | hg
    · exact p.go k g hg
    · exact q2 g hg
  · show ∀ g ∈ updB _ k _ (!k), GO g
    rw [updB_ne _ _ (not_ne k)]
    exact p.go (!k)
theorem tsi_psh (t : ∀ k, TSI (o.W k).s) (k : Bool) (b : List Int) : ∀ i, TSI ((psh o k b).W i).s := both k (by
    show TSI (updB o.W k (pushV (o.W k) 0 b).2 k).s
    rw [updB_same]
    exact (t k).push b) (by
    show TSI (updB o.W k (pushV (o.W k) 0 b).2 (!k)).s
    rw [updB_ne _ _ (not_ne k)]
    exact t (!k))
theorem tsi_dlv (t : ∀ k, TSI (o.W k).s) (k : Bool) (j : Nat) : ∀ i, TSI ((dlv o k j 0).W i).s := both k (by
    rw [(dlv_W o k j 0).1]
    exact t k) (by
    rw [(dlv_W o k j 0).2]
    exact (t (!k)).recv _)
/-- what was got, is what was pushed -/
theorem PH.got (p : PH Wn B o a) (k : Bool) : (o.G (!k)).length ≤ (B k).length ∧ ∀ j (h1 : j < (o.G (!k)).length) (h2 : j < (B k).length), (o.G (!k))[j] = (B k)[j] := by
  have e := (p.iv.d k).d.g
  refine ⟨by rw [e, List.length_take]; omega, fun j h1 h2 => ?_⟩
  have : (o.G (!k))[j]? = (B k)[j]? := by
    rw [e] at h1 ⊢
    rw [List.length_take] at h1
    rw [List.getElem?_take, if_pos (by omega)]
  rw [List.getElem?_eq_getElem h1, List.getElem?_eq_getElem h2] at this
  injection this
theorem PH.end_ (p : PH Wn B o a) (f : fin B o) (k : Bool) : (o.G (!k)).length = (B k).length := by
  have e := (p.iv.d k).d.g
  have := f k
  rw [e, List.length_take]
  omega
end
/-- bytes, one behind the other -/
def bts (n : Nat) : List (List Int) := (List.range n).map fun i : Nat => [(i : Int)]
theorem bts_len (n : Nat) : (bts n).length = n := by simp [bts]
theorem bts_succ (n : Nat) : bts (n + 1) = bts n ++ [[(n : Int)]] := by
  unfold bts
  rw [List.range_succ, List.map_append]
  rfl
theorem bts_get {n j : Nat} (h : j < (bts n).length) : (bts n)[j] = [(j : Int)] := by simp [bts]
theorem new_ph {W : Int} (h1 : 1 ≤ W) (h2 : W ≤ 16) : okCh ⟨1, W, 20, 50, 1000, 5⟩ 1 = true ∧ PH W (fun _ => []) ⟨fun _ => CV.new ⟨1, W, 20, 50, 1000, 5⟩ 1, fun _ => [], fun _ => []⟩ (fun _ => 0) ∧ TSI (CV.new ⟨1, W, 20, 50, 1000, 5⟩ 1).s := by
  have e : inR W 1 16 = true := inR_iff.2 ⟨h1, h2⟩
  have ok : okCh ⟨1, W, 20, 50, 1000, 5⟩ 1 = true := by
    rw [okCh, okCfg, e]
    rfl
  exact ⟨ok, ⟨⟨fun _ => Dir.new h1 h2, fun _ => rfl, (fun _ g hg => by cases hg)⟩, fun _ => new_cok ok, fun _ => new_ov _ _, fun _ g hg => (by cases hg), fun _ => Nat.zero_le _⟩, ⟨rfl, rfl, rfl, (fun w hw => by cases hw)⟩⟩
theorem pairs_cell {h : H} {p : Option (Nat × Nat)} {m : Nat} {ps : List (Int × Int)} (o : RoSl h p m 2 (pairs .i64 ps)) {j : Nat} (hj : j < m) : ∃ i c, p = some (i, c) ∧ Cell h i (c + j * 2 + 0 * 1) (i64 (ps.getD j (0, 0)).1) ∧ Cell h i (c + j * 2 + 1 * 1) (i64 (ps.getD j (0, 0)).2) := by
  have hl := o.1
  rw [pairs_length] at hl
  obtain ⟨q1, q2⟩ := pairs_get0 .i64 ps j (by omega)
  obtain ⟨i, c, e⟩ := o.some (by omega)
  subst e
  refine ⟨i, c, rfl, ?_, ?_⟩
  · have := o.cell q1
    rw [show c + j * 2 + 0 * 1 = c + j * 2 by omega]
    exact this
  · have := o.cell q2
    rw [show c + j * 2 + 1 * 1 = c + (j * 2 + 1) by omega]
    exact this
end Go.Proofs.Ytoljllfbabahpaa
