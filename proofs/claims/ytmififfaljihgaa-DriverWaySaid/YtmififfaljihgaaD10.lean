/- The driver: Tick. -/
import Derived.Test.YtmififfaljihgaaD9
set_option linter.unusedVariables false
namespace Go.Proofs.Ytmififfaljihgaa
open Go Go.Ab
def tickO (cv : CV) (now : Int) : List (List Int) := if (passV cv now).1.2 = 0 then (passV cv now).1.1.map encV else []
def tickD (v : DV) (cv : CV) (now : Int) : DV := if (passV cv now).1.2 = 0 then v else { v with live := false, why := 0 }
def TickQ (h : H) (di : Nat) (d : CId) (po : Option (Nat × Nat)) (v : DV) (cv : CV) (now : Int) (r : V) (h' : H) : Prop :=
  (v.live = false ∧ r = .sl none 0 ∧ h' = h) ∨
  (v.live = true ∧ ∃ q po', r = .sl q (tickO cv now).length ∧ Rws h' q (tickO cv now) ∧ DrS h' di d po' (tickD v cv now) (passV cv now).2 ∧ (∀ i, inSl po' i → inSl po i ∨ h.next ≤ i) ∧ Ab.Mod (drAll di d po) h h')
theorem rws_nil (h : H) : Rws h none [] := ⟨[], ⟨rfl, .inl rfl⟩, fun x hx => (by cases hx), rfl⟩
set_option maxHeartbeats 1000000 in
theorem dTick {h : H} {di : Nat} {d : CId} {po : Option (Nat × Nat)} {v : DV} {cv : CV} (s : DrS h di d po v cv) (g : CG cv) (hN : cv.cnt ≤ 1000000) {now : Int} (hn0 : -1000000000 ≤ now) (hn1 : now ≤ 1000000000) (hf : (passV cv now).1.1.length ≤ 100000) :
    ACalls Try.prog 24 [.ptr (some (di, 0)), i64 now] h (TickQ h di d po v cv now) := by
  refine call_ Try.func24 rfl rfl (by kernel_rfl) ?_
  conv => whnf
  refine (dLive s.b).mono ?_
  rintro _ h1 ⟨eh, rfl⟩
  subst eh
  cases el : v.live with
  | false =>
    conv => whnf
    exact .inl ⟨el, rfl, rfl⟩
  | true =>
  obtain ⟨pw, b1, b2⟩ := s.box
  conv => whnf
  refine ⟨_, Cell.mk b1 rfl, ?_⟩
  conv => whnf
  have hcnt : cv.s.N + cv.O.length ≤ 1000000 := hN
  refine (cPass s.ch g.ok (by omega) hn0 hn1).mono ?_
  rintro _ h3 ⟨q3, po3, rfl, gr, c3, hp3, m3⟩
  have b3 := m3.get b1 (.inl s.sep)
  have w3 := b2.get m3
  have sepd : ∀ i, chAll d po3 i → i ≠ di := fun i hi e => by
    rcases hi with hi | hi
    · exact s.sep (.inl (e ▸ hi))
    · rcases hp3 i hi with k | k
      · exact s.sep (.inr (e ▸ k))
      · have := s.lt (i := di) (.inl rfl)
        omega
  conv => whnf
  refine ⟨_, rfl, ?_⟩
  conv => whnf
  refine ⟨_, rfl, ?_⟩
  conv => whnf
  refine br_mk (fun he => ?_) (fun he => ?_)
  · have he : ¬ (passV cv now).1.2 = 0 := by simpa using he
    have eO : tickO cv now = [] := if_neg he
    have eD : tickD v cv now = { v with live := false, why := 0 } := if_neg he
    conv => whnf
    refine ⟨_, _, b3, Nat.le_of_ble_eq_true rfl, ?_⟩
    conv => whnf
    have mS : Ab.Mod (one di) h3 (h3.set di (.row true 13 (drow { v with live := false } (.ptr (some (d.c, 0))) pw))) := Mod.set rfl b3 rfl
    have b4 : (h3.set di (.row true 13 (drow { v with live := false } (.ptr (some (d.c, 0))) pw))).obj di = some (.row true 13 (drow { v with live := false } (.ptr (some (d.c, 0))) pw)) := H.obj_set_same b3
    refine ⟨_, _, b4, Nat.le_of_ble_eq_true rfl, ?_⟩
    conv => whnf
    have mT : Ab.Mod (one di) (h3.set di (.row true 13 (drow { v with live := false } (.ptr (some (d.c, 0))) pw))) ((h3.set di (.row true 13 (drow { v with live := false } (.ptr (some (d.c, 0))) pw))).set di (.row true 13 (drow { v with live := false, why := 0 } (.ptr (some (d.c, 0))) pw))) := Mod.set rfl b4 rfl
    have mST := mS.trans' mT (S2 := one di) (fun _ _ k => k) (fun _ _ k => k)
    refine .inr ⟨el, none, po3, by rw [eO]; rfl, by rw [eO]; exact rws_nil _, ?_, hp3, m3.trans' mST (fun _ _ k => .inr k) (fun _ _ k => .inl k)⟩
    rw [eD]
    exact ⟨⟨pw, H.obj_set_same b4, (w3.get mS).get mT⟩, c3.get mST (fun i hi k => sepd i hi k), fun k => sepd _ k rfl⟩
  · have he : (passV cv now).1.2 = 0 := by simpa using he
    have eO : tickO cv now = (passV cv now).1.1.map encV := if_pos he
    have eD : tickD v cv now = v := if_pos he
    have pov := pass_ov g.ok g.ov (by omega) now
    conv => whnf
    refine (dgrams41 gr (fun x hx => go_body (pov.2.1 x hx)) hf).mono ?_
    rintro _ h4 ⟨q4, rfl, rw4, m4⟩
    conv => whnf
    refine .inr ⟨el, q4, po3, by rw [eO, List.length_map], by rw [eO]; exact rw4, ?_, hp3, m3.trans' m4 (fun _ _ k => .inr k) (fun _ _ k => k.elim)⟩
    rw [eD]
    exact ⟨⟨pw, m4.get b3 (.inl (fun k => k)), w3.get m4⟩, c3.old m4, fun k => sepd _ k rfl⟩
end Go.Proofs.Ytmififfaljihgaa
