/- Files: ReadFile of the reference. -/
import Derived.Test.YtjjcalkeodfokaaR11
set_option linter.unusedVariables false
namespace Go.Proofs.Ytjjcalkeodfokaa
open Go Go.Ab
theorem not_false {b : Bool} (h : (!b) = true) : b = false := by
  cases b with
  | false => rfl
  | true => cases h
theorem KnF.last {b xs : List Int} {sp : Bool} (kr : KnF b xs sp (fun _ => [])) : ∀ g, EncF b g → doneV (rawX xs sp (numK ((4 : Nat) : Int))) (!rawOk xs sp (numK ((4 : Nat) : Int))) = true := fun g e => by
  obtain ⟨s, x, _⟩ := kr.kn g e
  subst s
  have x : xs = sum4 (sumV (bodyF g)) := x
  rw [x]
  rfl
def ReadFQ (b : List Int) (h : H) (r : V) (h' : H) : Prop := ∃ (g1 : Gra) (ok : Bool), r = .tup [.agg g1.cells, .bool ok] ∧ g1.ok h' ∧ Ab.Mod none_ h h' ∧ DecFA b g1 ok
set_option maxHeartbeats 4000000 in
theorem read12 {h : H} {p : Option (Nat × Nat)} {n : Nat} {b : List Int} (o : Oct h p n b) (bb : Bts b) (hn : n ≤ 100000) : ACalls Try.prog 12 [.sl p n] h (ReadFQ b h) := by
  have hl := o.len
  subst hl
  refine call_ Try.func12 rfl rfl (by kernel_rfl) ?_
  conv => whnf
  have mm := Mod.push none_ h (.row true 3 gra0.cells)
  have g2 : (h.push (.row true 3 gra0.cells)).obj h.next = some (.row true 3 gra0.cells) := H.obj_push_new _ _
  have hbo : ∀ i, i < h.next → one h.next i → none_ i := fun i hi k => absurd hi (by unfold one at k; omega)
  have mr := Mod.push none_ (h.push (.row true 3 gra0.cells)) (.row true 2 [.sl p b.length, .bool false])
  have r : Rdr ((h.push (.row true 3 gra0.cells)).push (.row true 2 [.sl p b.length, .bool false])) (h.next + 1) b false := ⟨p, b.length, H.obj_push_new _ _, (o.get mm).get mr⟩
  have g2 := mr.get g2 (.inl (fun k => k))
  have mm := mod_none mm mr
  clear mr
  have hg : h.next < (h.next + 1) := Nat.lt_succ_self _
  have hbg : ¬ one (h.next + 1) h.next := fun k => by
    unfold one at k
    omega
  have hgo : ∀ i, i < h.next → one (h.next + 1) i → none_ i := fun i hi k => absurd hi (by unfold one at k; omega)
  refine (raw28 r (by omega) 4).mono ?_
  rintro _ hr2 ⟨q0, n0, rfl, o0, r', mq⟩
  have g2 := mq.get g2 (.inl hbg)
  have mm := mm.trans' mq (S2 := none_) (fun _ _ k => k) hgo
  have hn2 := mm.next
  have r := r'
  have kr := KnF.start bb
  have lx : (rawX b false 4).length ≤ b.length := (rawV_len (k := 4)).2.2.2
  clear r' mq
  conv => whnf
  refine ⟨_, o0.is, (rawV_len (k := 4)).2.1 bb, ?_⟩
  conv => whnf
  refine br_mk (fun hmi => ?_) (fun hmi => ?_)
  · conv => whnf
    have hmi : ∀ g, ¬ EncF b g := fun g e => by
      rw [e.raw.2.1] at hmi
      cases hmi
    refine ⟨_, _, g2, Nat.le_of_ble_eq_true rfl, ?_⟩
    conv => whnf
    have ms := Mod.set (S := one h.next) (ob := .row true 3 gra0.cells) rfl g2 rfl
    have g3 := H.obj_set_same (ob' := .row true 3 gra0.cells) g2
    refine ⟨gra0.cells, Cells.mk g3 (Nat.le_of_ble_eq_true rfl) rfl, ?_⟩
    conv => whnf
    exact ⟨gra0, false, rfl, gra0_ok _, mm.trans' ms (S2 := none_) (fun _ _ k => k) hbo, decFA_no (hmi)⟩
  conv => whnf
  clear hmi o0
  refine (num26 r (by omega) 2).mono ?_
  rintro _ hq_a0 q
  obtain ⟨a0, xs, sp, rfl, ka0, ba0, r', kr', lx', mq⟩ := kr.num (fun g => (g.ns.length : Int)) (fun g => (g.es.length : Int) :: (g.bs.length : Int) :: Rn 0 g) (fun g _ => numsF_eq g) q
  have g2 := mq.get g2 (.inl hbg)
  have mm := mm.trans' mq (S2 := none_) (fun _ _ k => k) hgo
  have hn2 := Nat.le_trans hn2 mq.next
  have r := r'
  have kr := kr'
  have lx := Nat.le_trans lx' lx
  clear kr' lx' q mq r'
  conv => whnf
  refine (num26 r (by omega) 2).mono ?_
  rintro _ hq_a1 q
  obtain ⟨a1, xs, sp, rfl, ka1, ba1, r', kr', lx', mq⟩ := kr.num (fun g => (g.es.length : Int)) (fun g => (g.bs.length : Int) :: Rn 0 g) (fun g _ => rfl) q
  have g2 := mq.get g2 (.inl hbg)
  have mm := mm.trans' mq (S2 := none_) (fun _ _ k => k) hgo
  have hn2 := Nat.le_trans hn2 mq.next
  have r := r'
  have kr := kr'
  have lx := Nat.le_trans lx' lx
  clear kr' lx' q mq r'
  conv => whnf
  refine (num26 r (by omega) 2).mono ?_
  rintro _ hq_a2 q
  obtain ⟨a2, xs, sp, rfl, ka2, ba2, r', kr', lx', mq⟩ := kr.num (fun g => (g.bs.length : Int)) (Rn 0) (fun g _ => rfl) q
  have g2 := mq.get g2 (.inl hbg)
  have mm := mm.trans' mq (S2 := none_) (fun _ _ k => k) hgo
  have hn2 := Nat.le_trans hn2 mq.next
  have r := r'
  have kr := kr'
  have lx := Nat.le_trans lx' lx
  clear kr' lx' q mq r'
  conv => whnf
  refine br_mk (fun hl0 => ?_) (fun hl0 => ?_)
  · conv => whnf
    simp at hl0
    refine ⟨_, _, g2, Nat.le_of_ble_eq_true rfl, ?_⟩
    conv => whnf
    have ms := Mod.set (S := one h.next) (ob := .row true 3 gra0.cells) rfl g2 rfl
    have g3 := H.obj_set_same (ob' := .row true 3 gra0.cells) g2
    refine ⟨gra0.cells, Cells.mk g3 (Nat.le_of_ble_eq_true rfl) rfl, ?_⟩
    conv => whnf
    exact ⟨gra0, false, rfl, gra0_ok _, mm.trans' ms (S2 := none_) (fun _ _ k => k) hbo, decFA_no (fun g e => by have h1 := ka0 g e; have h2 := mayG_size e.ok; omega)⟩
  conv => whnf
  simp at hl0
  refine br_mk (fun hl1 => ?_) (fun hl1 => ?_)
  · conv => whnf
    simp at hl1
    refine ⟨_, _, g2, Nat.le_of_ble_eq_true rfl, ?_⟩
    conv => whnf
    have ms := Mod.set (S := one h.next) (ob := .row true 3 gra0.cells) rfl g2 rfl
    have g3 := H.obj_set_same (ob' := .row true 3 gra0.cells) g2
    refine ⟨gra0.cells, Cells.mk g3 (Nat.le_of_ble_eq_true rfl) rfl, ?_⟩
    conv => whnf
    exact ⟨gra0, false, rfl, gra0_ok _, mm.trans' ms (S2 := none_) (fun _ _ k => k) hbo, decFA_no (fun g e => by have h1 := ka1 g e; have h2 := mayG_size e.ok; omega)⟩
  conv => whnf
  simp at hl1
  refine br_mk (fun hl2 => ?_) (fun hl2 => ?_)
  · conv => whnf
    simp at hl2
    refine ⟨_, _, g2, Nat.le_of_ble_eq_true rfl, ?_⟩
    conv => whnf
    have ms := Mod.set (S := one h.next) (ob := .row true 3 gra0.cells) rfl g2 rfl
    have g3 := H.obj_set_same (ob' := .row true 3 gra0.cells) g2
    refine ⟨gra0.cells, Cells.mk g3 (Nat.le_of_ble_eq_true rfl) rfl, ?_⟩
    conv => whnf
    exact ⟨gra0, false, rfl, gra0_ok _, mm.trans' ms (S2 := none_) (fun _ _ k => k) hbo, decFA_no (fun g e => by have h1 := ka2 g e; have h2 := mayG_size e.ok; omega)⟩
  conv => whnf
  simp at hl2
  have w : Bld (hq_a2.push (.row true 3 gra0.cells)) (hq_a2.push (.row true 3 gra0.cells)) hq_a2.next (h.next + 1) gra0.cells none 0 2 [] xs sp := by
    have hgl := r.lt
    exact ⟨H.obj_push_new _ _, r.get (Mod.push none_ _ _) (fun k => k), SlIs.nil _ _ _, fun _ _ e => (by cases e), ⟨Nat.le_refl _, fun _ _ _ => rfl⟩, Nat.lt_succ_self _, Nat.lt_succ_of_lt hgl, by omega⟩
  have g2 := (Mod.push none_ hq_a2 (.row true 3 gra0.cells)).get g2 (.inl (fun k => k))
  have mm := mod_none mm (Mod.push none_ hq_a2 (.row true 3 gra0.cells))
  have hgl := r.lt
  have hnb : h.next < (hq_a2.push (.row true 3 gra0.cells)).next := by
    show h.next < hq_a2.next + 1
    omega
  have hb2 : ¬ two hq_a2.next (h.next + 1) h.next := by
    rintro (k | k) <;> omega
  have hno : ∀ i, i < h.next → two hq_a2.next (h.next + 1) i → none_ i := fun i hi k => by
    rcases k with k | k <;> omega
  clear r hn2
  generalize hgc : hq_a2.next = gc at *
  refine ⟨fun env hh => ∃ (z : Int) (ns : List (Int × Int)) (pn : Option (Nat × Nat)) (xs : List Int) (sp : Bool), (ns.length : Int) ≤ a0 ∧ z = ns.length ∧ Bld (hq_a2.push (.row true 3 gra0.cells)) hh gc (h.next + 1) [.sl pn ns.length, .sl none 0, .sl none 0] pn ns.length 2 (ns.flatMap pC) xs sp ∧ KnF b xs sp (Rn ns.length) ∧ (∀ g, EncF b g → ns = g.ns.take ns.length) ∧ xs.length ≤ b.length ∧ env = [(9, i64 z), (5, i64 a0), (4, .ptr (some ((h.next + 1), 0))), (8, .ptr (some (gc, 0))), (6, i64 a1), (7, i64 a2), (0, .sl p b.length), (2, .ptr (some (h.next, 0)))],
    fun env _ => match get env 9 with
      | .int _ z => (a0 - z).toNat
      | _ => 0, ⟨_, Forget.cons rfl (Forget.cons rfl (Forget.cons rfl (Forget.cons rfl (Forget.cons rfl (Forget.cons rfl (Forget.cons rfl (Forget.cons rfl (Forget.nil _)))))))), _, [], none, xs, sp, by simp; omega, rfl, w, kr, fun g _ => rfl, lx, rfl⟩, ?_⟩
  clear w kr lx
  rintro _ h0 ⟨z, ns, pn, xs, sp, hle, rfl, w, kr, hns, lx, rfl⟩
  conv => whnf
  refine br_mk (fun ha => ?_) (fun ha => ?_)
  · conv => whnf
    simp at ha
    have hlt : ∀ g, EncF b g → ns.length < g.ns.length := fun g e => by
      have := ka0 g e
      omega
    refine (num26 w.rd (by omega) 2).mono ?_
    rintro _ hq_x0 q
    obtain ⟨x0, xs, sp, rfl, kx0, bx0, r', kr', lx', mq⟩ := kr.num (fun g => (nAt g ns.length).1) (fun g => (nAt g ns.length).2 :: Rn (ns.length + 1) g) (fun g e => Rn_cons (hlt g e)) q
    have w := w.num r' mq
    have kr := kr'
    have lx := Nat.le_trans lx' lx
    clear kr' lx' q mq r'
    conv => whnf
    refine ⟨[0, 1, 2, 3, 4, 5, 6, 7, 8, 9], [0, 1, 0, 0, 8, 28, 60, 127, 255, 511], by kernel_rfl, ?_⟩
    conv => whnf
    refine ⟨_, Cell.mk w.ob rfl, ?_⟩
    conv => whnf
    refine (num26 w.rd (by omega) 2).mono ?_
    rintro _ hq_x1 q
    obtain ⟨x1, xs, sp, rfl, kx1, bx1, r', kr', lx', mq⟩ := kr.num (fun g => (nAt g ns.length).2) (fun g => Rn (ns.length + 1) g) (fun g _ => rfl) q
    have w := w.num r' mq
    have kr := kr'
    have lx := Nat.le_trans lx' lx
    clear kr' lx' q mq r'
    conv => whnf
    refine ⟨?_, ?_⟩
    · conv => whnf
      exact ⟨_, Cell.mk w.ob rfl, rfl⟩
    conv => whnf
    have w := w.keep (Mod.push none_ _ (.row true 2 (pC (x0, x1))))
    refine ⟨ns.flatMap pC, pC (x0, x1), w.sl, (SlIs.row (n := 1) (cs := pC (x0, x1)) (H.obj_push_new _ _) rfl).weak, by
      rw [show (T.at_ 50).bytes = 16 from rfl]
      omega, by omega, fun p' h' hs hm hf => ?_⟩
    have w := w.app hs hm hf
    conv => whnf
    refine ⟨_, _, w.ob, Nat.le_of_ble_eq_true rfl, ?_⟩
    have w := w.put [.sl p' (ns ++ [(x0, x1)]).length, .sl none 0, .sl none 0]
    have e1 : (ns ++ [(x0, x1)]).length = ns.length + 1 := by simp
    have e2 : (ns ++ [(x0, x1)]).flatMap pC = ns.flatMap pC ++ pC (x0, x1) := by simp
    have hz : IntKind.i64.wrap ((ns.length : Int) + 1) = ((ns ++ [(x0, x1)]).length : Int) := by
      rw [wrap_i64 (by omega) (by omega), e1]
      omega
    rw [e1] at w
    conv => whnf
    refine ⟨_, Forget.cons rfl (Forget.cons rfl (Forget.cons rfl (Forget.cons rfl (Forget.cons rfl (Forget.cons rfl (Forget.cons rfl (Forget.cons rfl (Forget.nil _)))))))), ⟨_, ns ++ [(x0, x1)], p', xs, sp, by rw [e1]; omega, hz, ?_, by rw [e1]; exact kr, fun g e => ?_, lx, rfl⟩, ?_⟩
    · rw [e1, e2]
      exact w
    · rw [e1, take_snoc' (0, 0) (hlt g e), ← hns g e]
      have : g.ns.getD ns.length (0, 0) = (x0, x1) := by
        have q0 := kx0 g e; have q1 := kx1 g e
        rw [q0]; rw [q1]
        rfl
      rw [this]
    · show (a0 - IntKind.i64.wrap ((ns.length : Int) + 1)).toNat < (a0 - (ns.length : Int)).toNat
      rw [hz, e1]
      omega
  conv => whnf
  simp at ha
  have hlen : ∀ g, EncF b g → ns.length = g.ns.length := fun g e => by
    have h1 := ka0 g e
    omega
  have hxn : ∀ g, EncF b g → ns = g.ns := fun g e => by
    have := hns g e
    rw [hlen g e, List.take_length] at this
    exact this
  have kr : KnF b xs sp (Re 0) := kr.cast (fun g e => Rn_end (hlen g e))
  have hle' := hle
  clear ha hlen hle hns
  have hpn : ∀ i o, pn = some (i, o) → ¬ two gc (h.next + 1) i ∧ h.next < i := fun i o e => ⟨w.sep i o e, by
    have := w.fr i o e
    omega⟩
  have sn := w.sl
  have ln : ns.length < 65536 := by omega
  have mq := w.m
  have g2 := mq.get g2 (.inl hb2)
  have mm := mm.trans' mq (S2 := none_) (fun _ _ k => k) hno
  have hnb : h.next < h0.next := Nat.lt_of_lt_of_le hnb mq.next
  have w := w.next 3
  clear mq
  refine ⟨fun env hh => ∃ (z : Int) (es : List (Int × Int × Int)) (pe : Option (Nat × Nat)) (xs : List Int) (sp : Bool), (es.length : Int) ≤ a1 ∧ z = es.length ∧ Bld h0 hh gc (h.next + 1) [.sl pn ns.length, .sl pe es.length, .sl none 0] pe es.length 3 (es.flatMap eC) xs sp ∧ KnF b xs sp (Re es.length) ∧ (∀ g, EncF b g → es = g.es.take es.length) ∧ xs.length ≤ b.length ∧ env = [(11, i64 z), (6, i64 a1), (4, .ptr (some ((h.next + 1), 0))), (8, .ptr (some (gc, 0))), (7, i64 a2), (0, .sl p b.length), (2, .ptr (some (h.next, 0)))],
    fun env _ => match get env 11 with
      | .int _ z => (a1 - z).toNat
      | _ => 0, ⟨_, Forget.cons rfl (Forget.cons rfl (Forget.cons rfl (Forget.cons rfl (Forget.cons rfl (Forget.cons rfl (Forget.cons rfl (Forget.nil _))))))), _, [], none, xs, sp, by simp; omega, rfl, w, kr, fun g _ => rfl, lx, rfl⟩, ?_⟩
  clear w kr lx
  rintro _ h1 ⟨z, es, pe, xs, sp, hle, rfl, w, kr, hns, lx, rfl⟩
  conv => whnf
  refine br_mk (fun ha => ?_) (fun ha => ?_)
  · conv => whnf
    simp at ha
    have hlt : ∀ g, EncF b g → es.length < g.es.length := fun g e => by
      have := ka1 g e
      omega
    refine (num26 w.rd (by omega) 2).mono ?_
    rintro _ hq_x0 q
    obtain ⟨x0, xs, sp, rfl, kx0, bx0, r', kr', lx', mq⟩ := kr.num (fun g => (eAt g es.length).1) (fun g => (eAt g es.length).2.1 :: (eAt g es.length).2.2 :: Re (es.length + 1) g) (fun g e => Re_cons (hlt g e)) q
    have w := w.num r' mq
    have kr := kr'
    have lx := Nat.le_trans lx' lx
    clear kr' lx' q mq r'
    conv => whnf
    refine (num26 w.rd (by omega) 2).mono ?_
    rintro _ hq_x1 q
    obtain ⟨x1, xs, sp, rfl, kx1, bx1, r', kr', lx', mq⟩ := kr.num (fun g => (eAt g es.length).2.1) (fun g => (eAt g es.length).2.2 :: Re (es.length + 1) g) (fun g _ => rfl) q
    have w := w.num r' mq
    have kr := kr'
    have lx := Nat.le_trans lx' lx
    clear kr' lx' q mq r'
    conv => whnf
    refine ⟨[0, 1, 2, 3, 4, 5, 6, 7, 8, 9, 10], [0, 1, 0, 0, 0, 16, 60, 124, 255, 511, 1023], by kernel_rfl, ?_⟩
    conv => whnf
    refine ⟨_, Cell.mk w.ob rfl, ?_⟩
    conv => whnf
    refine (num26 w.rd (by omega) 2).mono ?_
    rintro _ hq_x2 q
    obtain ⟨x2, xs, sp, rfl, kx2, bx2, r', kr', lx', mq⟩ := kr.num (fun g => (eAt g es.length).2.2) (fun g => Re (es.length + 1) g) (fun g _ => rfl) q
    have w := w.num r' mq
    have kr := kr'
    have lx := Nat.le_trans lx' lx
    clear kr' lx' q mq r'
    conv => whnf
    refine ⟨?_, ?_⟩
    · conv => whnf
      exact ⟨_, Cell.mk w.ob rfl, rfl⟩
    conv => whnf
    have w := w.keep (Mod.push none_ _ (.row true 3 (eC (x0, x1, x2))))
    refine ⟨es.flatMap eC, eC (x0, x1, x2), w.sl, (SlIs.row (n := 1) (cs := eC (x0, x1, x2)) (H.obj_push_new _ _) rfl).weak, by
      rw [show (T.at_ 52).bytes = 24 from rfl]
      omega, by omega, fun p' h' hs hm hf => ?_⟩
    have w := w.app hs hm hf
    conv => whnf
    refine ⟨_, _, w.ob, Nat.le_of_ble_eq_true rfl, ?_⟩
    have w := w.put [.sl pn ns.length, .sl p' (es ++ [(x0, x1, x2)]).length, .sl none 0]
    have e1 : (es ++ [(x0, x1, x2)]).length = es.length + 1 := by simp
    have e2 : (es ++ [(x0, x1, x2)]).flatMap eC = es.flatMap eC ++ eC (x0, x1, x2) := by simp
    have hz : IntKind.i64.wrap ((es.length : Int) + 1) = ((es ++ [(x0, x1, x2)]).length : Int) := by
      rw [wrap_i64 (by omega) (by omega), e1]
      omega
    rw [e1] at w
    conv => whnf
    refine ⟨_, Forget.cons rfl (Forget.cons rfl (Forget.cons rfl (Forget.cons rfl (Forget.cons rfl (Forget.cons rfl (Forget.cons rfl (Forget.nil _))))))), ⟨_, es ++ [(x0, x1, x2)], p', xs, sp, by rw [e1]; omega, hz, ?_, by rw [e1]; exact kr, fun g e => ?_, lx, rfl⟩, ?_⟩
    · rw [e1, e2]
      exact w
    · rw [e1, take_snoc' (0, 0, 0) (hlt g e), ← hns g e]
      have : g.es.getD es.length (0, 0, 0) = (x0, x1, x2) := by
        have q0 := kx0 g e; have q1 := kx1 g e; have q2 := kx2 g e
        rw [q0]; rw [q1]; rw [q2]
        rfl
      rw [this]
    · show (a1 - IntKind.i64.wrap ((es.length : Int) + 1)).toNat < (a1 - (es.length : Int)).toNat
      rw [hz, e1]
      omega
  conv => whnf
  simp at ha
  have hlen : ∀ g, EncF b g → es.length = g.es.length := fun g e => by
    have h1 := ka1 g e
    omega
  have hxe : ∀ g, EncF b g → es = g.es := fun g e => by
    have := hns g e
    rw [hlen g e, List.take_length] at this
    exact this
  have kr : KnF b xs sp (Rb 0) := kr.cast (fun g e => Re_end (hlen g e))
  have hle' := hle
  clear ha hlen hle hns
  have hpe : ∀ i o, pe = some (i, o) → ¬ two gc (h.next + 1) i ∧ h.next < i := fun i o e => ⟨w.sep i o e, by
    have := w.fr i o e
    omega⟩
  have se := w.sl
  have le : es.length < 65536 := by omega
  have mq := w.m
  have g2 := mq.get g2 (.inl hb2)
  have mm := mm.trans' mq (S2 := none_) (fun _ _ k => k) hno
  have sn := sn.get mq (fun i o e => .inl (hpn i o e).1)
  have hnb : h.next < h1.next := Nat.lt_of_lt_of_le hnb mq.next
  have w := w.next 2
  clear mq
  refine ⟨fun env hh => ∃ (z : Int) (bs : List (Int × Int)) (pb : Option (Nat × Nat)) (xs : List Int) (sp : Bool), (bs.length : Int) ≤ a2 ∧ z = bs.length ∧ Bld h1 hh gc (h.next + 1) [.sl pn ns.length, .sl pe es.length, .sl pb bs.length] pb bs.length 2 (bs.flatMap pC) xs sp ∧ KnF b xs sp (Rb bs.length) ∧ (∀ g, EncF b g → bs = g.bs.take bs.length) ∧ xs.length ≤ b.length ∧ env = [(14, i64 z), (7, i64 a2), (4, .ptr (some ((h.next + 1), 0))), (8, .ptr (some (gc, 0))), (0, .sl p b.length), (2, .ptr (some (h.next, 0)))],
    fun env _ => match get env 14 with
      | .int _ z => (a2 - z).toNat
      | _ => 0, ⟨_, Forget.cons rfl (Forget.cons rfl (Forget.cons rfl (Forget.cons rfl (Forget.cons rfl (Forget.cons rfl (Forget.nil _)))))), _, [], none, xs, sp, by simp; omega, rfl, w, kr, fun g _ => rfl, lx, rfl⟩, ?_⟩
  clear w kr lx
  rintro _ h2 ⟨z, bs, pb, xs, sp, hle, rfl, w, kr, hns, lx, rfl⟩
  conv => whnf
  refine br_mk (fun ha => ?_) (fun ha => ?_)
  · conv => whnf
    simp at ha
    have hlt : ∀ g, EncF b g → bs.length < g.bs.length := fun g e => by
      have := ka2 g e
      omega
    refine (num26 w.rd (by omega) 2).mono ?_
    rintro _ hq_x0 q
    obtain ⟨x0, xs, sp, rfl, kx0, bx0, r', kr', lx', mq⟩ := kr.num (fun g => (bAt g bs.length).1) (fun g => (bAt g bs.length).2 :: Rb (bs.length + 1) g) (fun g e => Rb_cons (hlt g e)) q
    have w := w.num r' mq
    have kr := kr'
    have lx := Nat.le_trans lx' lx
    clear kr' lx' q mq r'
    conv => whnf
    refine ⟨[0, 1, 2, 3, 4, 5, 6, 7, 8, 9], [0, 1, 0, 0, 8, 28, 60, 127, 255, 511], by kernel_rfl, ?_⟩
    conv => whnf
    refine ⟨_, Cell.mk w.ob rfl, ?_⟩
    conv => whnf
    refine (num26 w.rd (by omega) 2).mono ?_
    rintro _ hq_x1 q
    obtain ⟨x1, xs, sp, rfl, kx1, bx1, r', kr', lx', mq⟩ := kr.num (fun g => (bAt g bs.length).2) (fun g => Rb (bs.length + 1) g) (fun g _ => rfl) q
    have w := w.num r' mq
    have kr := kr'
    have lx := Nat.le_trans lx' lx
    clear kr' lx' q mq r'
    conv => whnf
    refine ⟨?_, ?_⟩
    · conv => whnf
      exact ⟨_, Cell.mk w.ob rfl, rfl⟩
    conv => whnf
    have w := w.keep (Mod.push none_ _ (.row true 2 (pC (x0, x1))))
    refine ⟨bs.flatMap pC, pC (x0, x1), w.sl, (SlIs.row (n := 1) (cs := pC (x0, x1)) (H.obj_push_new _ _) rfl).weak, by
      rw [show (T.at_ 63).bytes = 16 from rfl]
      omega, by omega, fun p' h' hs hm hf => ?_⟩
    have w := w.app hs hm hf
    conv => whnf
    refine ⟨_, _, w.ob, Nat.le_of_ble_eq_true rfl, ?_⟩
    have w := w.put [.sl pn ns.length, .sl pe es.length, .sl p' (bs ++ [(x0, x1)]).length]
    have e1 : (bs ++ [(x0, x1)]).length = bs.length + 1 := by simp
    have e2 : (bs ++ [(x0, x1)]).flatMap pC = bs.flatMap pC ++ pC (x0, x1) := by simp
    have hz : IntKind.i64.wrap ((bs.length : Int) + 1) = ((bs ++ [(x0, x1)]).length : Int) := by
      rw [wrap_i64 (by omega) (by omega), e1]
      omega
    rw [e1] at w
    conv => whnf
    refine ⟨_, Forget.cons rfl (Forget.cons rfl (Forget.cons rfl (Forget.cons rfl (Forget.cons rfl (Forget.cons rfl (Forget.nil _)))))), ⟨_, bs ++ [(x0, x1)], p', xs, sp, by rw [e1]; omega, hz, ?_, by rw [e1]; exact kr, fun g e => ?_, lx, rfl⟩, ?_⟩
    · rw [e1, e2]
      exact w
    · rw [e1, take_snoc' (0, 0) (hlt g e), ← hns g e]
      have : g.bs.getD bs.length (0, 0) = (x0, x1) := by
        have q0 := kx0 g e; have q1 := kx1 g e
        rw [q0]; rw [q1]
        rfl
      rw [this]
    · show (a2 - IntKind.i64.wrap ((bs.length : Int) + 1)).toNat < (a2 - (bs.length : Int)).toNat
      rw [hz, e1]
      omega
  conv => whnf
  simp at ha
  have hlen : ∀ g, EncF b g → bs.length = g.bs.length := fun g e => by
    have h1 := ka2 g e
    omega
  have hxb : ∀ g, EncF b g → bs = g.bs := fun g e => by
    have := hns g e
    rw [hlen g e, List.take_length] at this
    exact this
  have kr : KnF b xs sp (fun _ => []) := kr.cast (fun g e => Rb_end (hlen g e))
  have hle' := hle
  clear ha hlen hle hns
  have hpb : ∀ i o, pb = some (i, o) → ¬ two gc (h.next + 1) i ∧ h.next < i := fun i o e => ⟨w.sep i o e, by
    have := w.fr i o e
    omega⟩
  have sb := w.sl
  have lb : bs.length < 65536 := by omega
  have mq := w.m
  have g2 := mq.get g2 (.inl hb2)
  have mm := mm.trans' mq (S2 := none_) (fun _ _ k => k) hno
  have sn := sn.get mq (fun i o e => .inl (hpn i o e).1)
  have se := se.get mq (fun i o e => .inl (hpe i o e).1)
  have hnb : h.next < h2.next := Nat.lt_of_lt_of_le hnb mq.next
  refine (num26 w.rd (by omega) 4).mono ?_
  rintro _ h7 q
  have q : NumQ' (h.next + 1) xs sp ((4 : Nat) : Int) h2 _ h7 := q
  obtain ⟨rfl, r, mq'⟩ := q
  have hdone := kr.last
  have w := w.num r mq'
  have mo : Ab.Mod (two gc (h.next + 1)) h2 h7 := mq'.mono (fun _ _ k => .inr k)
  have sn := sn.get mo (fun i o e => .inl (hpn i o e).1)
  have se := se.get mo (fun i o e => .inl (hpe i o e).1)
  have sb := w.sl
  have g2 := mo.get g2 (.inl hb2)
  have mm := mm.trans' mo (S2 := none_) (fun _ _ k => k) hno
  have gm := w.ob
  have okm : (⟨pn, ns, pe, es, pb, bs⟩ : Gra).ok _ := ⟨sn.weak, se.weak, sb.weak, by show ns.length ≤ 100000; omega, by show es.length ≤ 100000; omega, by show bs.length ≤ 100000; omega⟩
  have keq : ∀ g, EncF b g → eqG g (⟨pn, ns, pe, es, pb, bs⟩ : Gra) := fun g e => ⟨hxn g e, hxe g e, hxb g e⟩
  clear w mq mq' mo
  have hpn : ∀ i o, pn = some (i, o) → one h.next i → False := fun i o e k => by
    have := (hpn i o e).2
    unfold one at k
    omega
  have hpe : ∀ i o, pe = some (i, o) → one h.next i → False := fun i o e k => by
    have := (hpe i o e).2
    unfold one at k
    omega
  have hpb : ∀ i o, pb = some (i, o) → one h.next i → False := fun i o e k => by
    have := (hpb i o e).2
    unfold one at k
    omega
  conv => whnf
  refine ⟨_, Cells.mk (vs := (⟨pn, ns, pe, es, pb, bs⟩ : Gra).cells) gm (Nat.le_of_ble_eq_true rfl) rfl, ?_⟩
  conv => whnf
  refine (file10 (⟨pn, ns, pe, es, pb, bs⟩ : Gra) okm).mono ?_
  rintro _ he ⟨qe, rfl, oe, me⟩
  conv => whnf
  refine ⟨_, rfl, ?_⟩
  conv => whnf
  refine ⟨_, rfl, ?_⟩
  conv => whnf
  have gm := me.get gm (.inl (fun k => k))
  have g2 := me.get g2 (.inl (fun k => k))
  have okm := okm.old me (fun _ _ k => k)
  have mm := mod_none mm me
  refine (done32 (r.get me (fun k => k))).mono ?_
  rintro _ h' ⟨eh, rfl⟩
  subst h'
  conv => whnf
  refine br_mk (fun hd => ?_) (fun hd => ?_)
  · conv => whnf
    refine ⟨_, _, g2, Nat.le_of_ble_eq_true rfl, ?_⟩
    conv => whnf
    have ms := Mod.set (S := one h.next) (ob := .row true 3 gra0.cells) rfl g2 rfl
    have g3 := H.obj_set_same (ob' := .row true 3 gra0.cells) g2
    refine ⟨gra0.cells, Cells.mk g3 (Nat.le_of_ble_eq_true rfl) rfl, ?_⟩
    conv => whnf
    exact ⟨gra0, false, rfl, gra0_ok _, mm.trans' ms (S2 := none_) (fun _ _ k => k) hbo, decFA_no (fun g e => Bool.noConfusion ((not_false hd).symm.trans (hdone g e)))⟩
  conv => whnf
  refine br_mk (fun hx => ?_) (fun hx => ?_)
  · conv => whnf
    have ho : mayG (⟨pn, ns, pe, es, pb, bs⟩ : Gra) = false := by simpa using hx
    refine ⟨_, _, g2, Nat.le_of_ble_eq_true rfl, ?_⟩
    conv => whnf
    have ms := Mod.set (S := one h.next) (ob := .row true 3 gra0.cells) rfl g2 rfl
    have g3 := H.obj_set_same (ob' := .row true 3 gra0.cells) g2
    refine ⟨gra0.cells, Cells.mk g3 (Nat.le_of_ble_eq_true rfl) rfl, ?_⟩
    conv => whnf
    exact ⟨gra0, false, rfl, gra0_ok _, mm.trans' ms (S2 := none_) (fun _ _ k => k) hbo, decFA_no (encF_not keq (.inl ho))⟩
  conv => whnf
  have ho : mayG (⟨pn, ns, pe, es, pb, bs⟩ : Gra) = true := by simpa using hx
  refine ⟨_, oe.is, encF_bts _, ?_⟩
  conv => whnf
  refine ⟨_, SlIs.old o.is mm (fun _ _ k => k), bb, ?_⟩
  conv => whnf
  refine br_mk (fun hy => ?_) (fun hy => ?_)
  · conv => whnf
    have hy : encF (⟨pn, ns, pe, es, pb, bs⟩ : Gra) ≠ b := by simpa using hy
    refine ⟨_, _, g2, Nat.le_of_ble_eq_true rfl, ?_⟩
    conv => whnf
    have ms := Mod.set (S := one h.next) (ob := .row true 3 gra0.cells) rfl g2 rfl
    have g3 := H.obj_set_same (ob' := .row true 3 gra0.cells) g2
    refine ⟨gra0.cells, Cells.mk g3 (Nat.le_of_ble_eq_true rfl) rfl, ?_⟩
    conv => whnf
    exact ⟨gra0, false, rfl, gra0_ok _, mm.trans' ms (S2 := none_) (fun _ _ k => k) hbo, decFA_no (encF_not keq (.inr hy))⟩
  conv => whnf
  have hy : encF (⟨pn, ns, pe, es, pb, bs⟩ : Gra) = b := by simpa using hy
  refine ⟨_, Cells.mk (vs := (⟨pn, ns, pe, es, pb, bs⟩ : Gra).cells) gm (Nat.le_of_ble_eq_true rfl) rfl, ?_⟩
  conv => whnf
  refine ⟨_, _, g2, Nat.le_of_ble_eq_true rfl, ?_⟩
  conv => whnf
  have ms := Mod.set (S := one h.next) (ob := .row true 3 (⟨pn, ns, pe, es, pb, bs⟩ : Gra).cells) rfl g2 rfl
  have g3 := H.obj_set_same (ob' := .row true 3 (⟨pn, ns, pe, es, pb, bs⟩ : Gra).cells) g2
  refine ⟨(⟨pn, ns, pe, es, pb, bs⟩ : Gra).cells, Cells.mk g3 (Nat.le_of_ble_eq_true rfl) rfl, ?_⟩
  conv => whnf
  refine ⟨(⟨pn, ns, pe, es, pb, bs⟩ : Gra), true, rfl, okm.but ms (fun i o e k => hpn i o e k) (fun i o e k => hpe i o e k) (fun i o e k => hpb i o e k), mm.trans' ms (S2 := none_) (fun _ _ k => k) hbo, decFA_yes ho hy keq⟩
end Go.Proofs.Ytjjcalkeodfokaa
