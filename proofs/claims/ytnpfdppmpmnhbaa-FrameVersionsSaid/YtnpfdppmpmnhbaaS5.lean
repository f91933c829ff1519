/- The writers: one number. -/
import Derived.Test.YtnpfdppmpmnhbaaS4
set_option linter.unusedVariables false
namespace Go.Proofs.Ytnpfdppmpmnhbaa
open Go Go.Ab
/-- A writer, of either make. -/
def WtrP (h : H) (g : Nat) (p : Option (Nat × Nat)) (xs : List Int) (sp : Bool) : Prop :=
  h.obj g = some (.row true 2 [.sl p xs.length, .bool sp]) ∧ SlIs h p xs.length true 1 (ints .u8 xs) ∧ ∀ i o, p = some (i, o) → i ≠ g
def foot (g : Nat) (p : Option (Nat × Nat)) : Nat → Prop := fun i => i = g ∨ inSl p i
def WtrQ (h : H) (g : Nat) (p : Option (Nat × Nat)) (xs : List Int) (sp : Bool) (h' : H) : Prop := ∃ p', WtrP h' g p' xs sp ∧ isFresh h p p' ∧ Ab.Mod (foot g p) h h'
theorem WtrP.lt {h : H} {g : Nat} {p : Option (Nat × Nat)} {xs : List Int} {sp : Bool} (w : WtrP h g p xs sp) : g < h.next := h.lt _ _ w.1
theorem WtrP.slt {h : H} {g : Nat} {p : Option (Nat × Nat)} {xs : List Int} {sp : Bool} (w : WtrP h g p xs sp) {i o : Nat} (e : p = some (i, o)) : i < h.next := by
  rcases w.2.1.2 with ⟨_, k⟩ | ⟨i', o', b, r, k1, k2, _⟩
  · rcases k with k | k
    · rw [e] at k
      cases k
    · cases k
  · rw [e] at k1
    injection k1 with k1
    injection k1 with k1
    subst k1
    exact h.lt _ _ k2
theorem isFresh.refl (h : H) (p : Option (Nat × Nat)) : isFresh h p p := fun _ _ _ => .inl rfl
theorem isFresh.mono {h h1 : H} {p p' : Option (Nat × Nat)} (hn : h.next ≤ h1.next) (f : isFresh h1 p p') : isFresh h p p' := fun i o e => (f i o e).imp id (Nat.le_trans hn)
theorem isFresh.trans {h h1 : H} {p p' p2 : Option (Nat × Nat)} (f : isFresh h p p') (hn : h.next ≤ h1.next) (f2 : isFresh h1 p' p2) : isFresh h p p2 := fun i o e => by
  rcases f2 i o e with k | k
  · subst k
    exact f i o e
  · exact .inr (Nat.le_trans hn k)
theorem foot_fresh {h : H} {g : Nat} {p p' : Option (Nat × Nat)} (f : isFresh h p p') : ∀ i, i < h.next → foot g p' i → foot g p i := by
  rintro i hi (rfl | ⟨o, e⟩)
  · exact .inl rfl
  · rcases f i o e with k | k
    · exact .inr ⟨o, by rw [← k, e]⟩
    · omega
theorem WtrQ.refl {h : H} {g : Nat} {p : Option (Nat × Nat)} {xs : List Int} {sp : Bool} (w : WtrP h g p xs sp) : WtrQ h g p xs sp h := ⟨p, w, isFresh.refl _ _, Nat.le_refl _, fun _ _ _ => rfl⟩
theorem WtrQ.trans {h h1 h2 : H} {g : Nat} {p p' : Option (Nat × Nat)} {xs : List Int} {sp : Bool} (f : isFresh h p p') (m : Ab.Mod (foot g p) h h1) (q : WtrQ h1 g p' xs sp h2) : WtrQ h g p xs sp h2 := by
  obtain ⟨p2, w, f2, m2⟩ := q
  exact ⟨p2, w, isFresh.trans f m.next f2, m.trans' m2 (fun _ _ k => k) (foot_fresh f)⟩
/-- what is not the writer's turns without it -/
theorem WtrP.get {S : Nat → Prop} {h h' : H} {g : Nat} {p : Option (Nat × Nat)} {xs : List Int} {sp : Bool} (w : WtrP h g p xs sp) (m : Ab.Mod S h h') (hs : ∀ i, S i → ¬ foot g p i) : WtrP h' g p xs sp :=
  ⟨m.get w.1 (.inl (fun k => hs _ k (.inl rfl))), w.2.1.get m (fun i o e => .inl (fun k => hs _ k (.inr ⟨o, e⟩))), w.2.2⟩
theorem WtrP.app {h h1 h2 : H} {g : Nat} {p p' : Option (Nat × Nat)} {xs ys : List Int} {sp : Bool} (w : WtrP h g p xs sp) (m01 : Ab.Mod none_ h h1) (hs : SlIs h2 p' (xs.length + ys.length) true 1 (ints .u8 xs ++ ints .u8 ys)) (hm : Ab.Mod (inSl p) h1 h2) (hf : isFresh h1 p p') :
    h2.obj g = some (.row true 2 [.sl p xs.length, .bool sp]) ∧ WtrQ h g p (xs ++ ys) sp (h2.set g (.row true 2 [.sl p' (xs.length + ys.length), .bool sp])) := by
  have hg := w.lt
  have e1 : h1.obj g = some (.row true 2 [.sl p xs.length, .bool sp]) := m01.get w.1 (.inl (fun k => k))
  have e2 : h2.obj g = some (.row true 2 [.sl p xs.length, .bool sp]) := hm.get e1 (.inl (fun ⟨o, k⟩ => w.2.2 _ _ k rfl))
  have ms := Mod.set (S := one g) (ob := .row true 2 [.sl p' (xs.length + ys.length), .bool sp]) rfl e2 rfl
  have hng : ∀ i o, p' = some (i, o) → i ≠ g := fun i o e => by
    rcases hf i o e with k | k
    · rw [e] at k
      exact w.2.2 _ _ k.symm
    · have := h1.lt _ _ e1
      omega
  refine ⟨e2, p', ⟨by rw [H.obj_set_same e2, List.length_append], ?_, hng⟩, isFresh.mono m01.next hf, ?_⟩
  · rw [ints_append, List.length_append]
    exact hs.get ms (fun i o e => .inl (hng i o e))
  · refine (m01.trans' hm (S2 := foot g p) (fun _ _ k => k.elim) (fun _ _ k => .inr k)).trans' ms (fun _ _ k => k) (fun _ _ k => .inl k)
theorem WtrP.spoil {h : H} {g : Nat} {p : Option (Nat × Nat)} {xs : List Int} {sp : Bool} (w : WtrP h g p xs sp) (sp' : Bool) : WtrQ h g p xs sp' (h.set g (.row true 2 [.sl p xs.length, .bool sp'])) := by
  have ms := Mod.set (S := one g) (ob := .row true 2 [.sl p xs.length, .bool sp']) rfl w.1 rfl
  exact ⟨p, ⟨H.obj_set_same w.1, w.2.1.get ms (fun i o e => .inl (w.2.2 i o e)), w.2.2⟩, isFresh.refl _ _, ms.mono (fun _ _ k => .inl k)⟩

theorem oneRow (b : Int) : Obj.row true (T.at_ 5).size (splice (zerosV 1 (vcells (T.at_ 5).zero)) (0 * (T.at_ 5).size) (vcells (V.int .u8 b))) = .row true 1 (ints .u8 [b]) := rfl
/-! ### One number -/
def shr_ (v i : Int) : Int := v.fdiv (2 ^ (min (IntKind.i64.wrap (8 * i)).toNat IntKind.i64.bits))
def oct (v i : Int) : Int := IntKind.u8.wrap (shr_ v i)
/-- the last n octets of v, the highest first -/
def be (v : Int) : Nat → List Int
  | 0 => []
  | n + 1 => oct v n :: be v n
def misfit (k v : Int) : Bool := decide (k < 1) || decide (7 < k) || decide (v < 0) || shr_ v k != 0
theorem wrap8 {i : Int} (h0 : 0 ≤ i) (h1 : i ≤ 7) : IntKind.i64.wrap (8 * i) = 8 * i := wrap_i64 (by omega) (by omega)

theorem num21 {h : H} {g : Nat} {p : Option (Nat × Nat)} {xs : List Int} {sp : Bool} (w : WtrP h g p xs sp) (hx : xs.length ≤ 1000000) (k v : Int) :
    ACalls Try.prog 21 [.ptr (some (g, 0)), i64 k, i64 v] h (fun r h' => r = .tup [] ∧ WtrQ h g p (if misfit k v then xs else xs ++ be v k.toNat) (misfit k v || sp) h') := by
  refine call_ Try.func21 rfl rfl (by kernel_rfl) ?_
  conv => whnf
  refine (size20 k h).mono ?_
  rintro _ h' ⟨eh, rfl⟩
  subst h'
  conv => whnf
  refine br_mk (fun hc => ?_) (fun hc => ?_)
  · conv => whnf
    refine ⟨_, _, w.1, Nat.le_of_ble_eq_true rfl, ?_⟩
    conv => whnf
    have : misfit k v = true := by
      simp at hc
      simp [misfit]
      omega
    rw [this]
    exact ⟨rfl, w.spoil _⟩
  conv => whnf
  refine br_mk (fun hd => ?_) (fun hd => ?_)
  · conv => whnf
    refine ⟨_, _, w.1, Nat.le_of_ble_eq_true rfl, ?_⟩
    conv => whnf
    have : misfit k v = true := by
      simp at hd
      simp [misfit, hd]
    rw [this]
    exact ⟨rfl, w.spoil _⟩
  conv => whnf
  simp at hc hd
  have h8 := wrap8 (i := k) (by omega) (by omega)
  refine ⟨by rw [h8]; omega, ?_⟩
  conv => whnf
  refine br_mk (fun he => ?_) (fun he => ?_)
  · conv => whnf
    refine ⟨_, _, w.1, Nat.le_of_ble_eq_true rfl, ?_⟩
    conv => whnf
    have : misfit k v = true := by
      have he : (shr_ v k != 0) = true := he
      simp [misfit, he]
    rw [this]
    exact ⟨rfl, w.spoil _⟩
  conv => whnf
  have : misfit k v = false := by
    have he : (shr_ v k != 0) = false := he
    simp [misfit, he]
    omega
  rw [this]
  obtain ⟨n, rfl⟩ : ∃ n : Nat, k = n := ⟨k.toNat, by omega⟩
  refine ⟨fun env hh => ∃ (r : Nat) (z : Int) (p' : Option (Nat × Nat)) (ys : List Int), r ≤ n ∧ z = (r : Int) - 1 ∧ ys.length + r = xs.length + n ∧ ys ++ be v r = xs ++ be v n ∧ WtrP hh g p' ys sp ∧ isFresh h p p' ∧ Ab.Mod (foot g p) h hh ∧ env = [(6, i64 z), (2, i64 v), (0, .ptr (some (g, 0)))],
      fun env _ => match get env 6 with
        | .int _ z => (z + 1).toNat
        | _ => 0, ⟨_, Forget.cons rfl (Forget.cons rfl (Forget.cons rfl (Forget.nil _))), n, _, p, xs, Nat.le_refl _, wrap_i64 (by omega) (by omega), rfl, rfl, w, isFresh.refl _ _, ⟨Nat.le_refl _, fun _ _ _ => rfl⟩, rfl⟩, ?_⟩
  rintro _ h1 ⟨r, z, p', ys, hr, hz, hl, hy, w1, f1, m1, rfl⟩
  conv => whnf
  refine br_mk (fun hf => ?_) (fun hf => ?_)
  · conv => whnf
    simp at hf
    obtain ⟨r, rfl⟩ : ∃ r', r = r' + 1 := ⟨r - 1, by omega⟩
    have : z = (r : Int) := by omega
    subst this
    refine ⟨[0, 1, 2, 3, 4, 5, 6, 7, 8, 9, 10, 11, 12, 13, 14], [0, 0, 2, 6, 14, 0, 0, 64, 224, 480, 992, 2046, 4095, 8191, 16383], by kernel_rfl, ?_⟩
    conv => whnf
    refine ⟨_, Cell.mk w1.1 rfl, ?_⟩
    conv => whnf
    have h8 := wrap8 (i := r) (by omega) (by omega)
    refine ⟨by rw [h8]; omega, ?_⟩
    conv => whnf
    rw [oneRow]
    refine ⟨_, _, w1.2.1.get (Mod.push none_ _ _) (fun _ _ _ => .inl (fun k => k)), (SlIs.row (n := 1) (H.obj_push_new _ _) rfl).weak, by rw [T5b]; omega, by omega, fun p2 h2 hs hm2 hf2 => ?_⟩
    conv => whnf
    obtain ⟨e2, q2⟩ := w1.app (ys := [oct v r]) (Mod.push none_ _ _) hs hm2 hf2
    refine ⟨_, _, e2, Nat.le_of_ble_eq_true rfl, ?_⟩
    conv => whnf
    have q3 : WtrQ h g p (ys ++ [oct v r]) sp _ := WtrQ.trans f1 m1 q2
    obtain ⟨p3, w3, f3, m3⟩ := q3
    refine ⟨_, Forget.cons rfl (Forget.cons rfl (Forget.cons rfl (Forget.nil _))), ⟨r, _, p3, _, by omega, wrap_i64 (by omega) (by omega), ?_, ?_, w3, f3, m3, rfl⟩, ?_⟩
    · simp
      omega
    · rw [← hy]
      simp [be]
    · show (IntKind.i64.wrap ((r : Int) - 1) + 1).toNat < ((r : Int) + 1).toNat
      rw [wrap_i64 (by omega) (by omega)]
      omega
  · conv => whnf
    simp at hf
    obtain rfl : r = 0 := by omega
    simp [be] at hy
    subst hy
    exact ⟨rfl, p', w1, f1, m1⟩
end Go.Proofs.Ytnpfdppmpmnhbaa
