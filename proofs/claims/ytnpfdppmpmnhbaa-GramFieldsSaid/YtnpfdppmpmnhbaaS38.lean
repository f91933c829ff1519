/- Messages: what the document fixes. -/
import Derived.Test.YtnpfdppmpmnhbaaS37
set_option linter.unusedVariables false
namespace Go.Proofs.Ytnpfdppmpmnhbaa
open Go Go.Ab
theorem DecA.yes {b : List Int} {m m1 : Msg} {ok : Bool} (a : DecA b m1 ok) (e : Enc b m) : ok = true ∧ eqM m m1 ∧ Enc b m1 := by
  rcases a with ⟨rfl, a1, a2⟩ | ⟨_, _, a2⟩
  · exact ⟨rfl, a2 m e, a1⟩
  · exact absurd e (a2 m)
theorem DecA.no {b : List Int} {m1 : Msg} {ok : Bool} (a : DecA b m1 ok) (e : ∀ m, ¬ Enc b m) : ok = false ∧ m1 = msg0 := by
  rcases a with ⟨rfl, a1, a2⟩ | ⟨a1, a2, _⟩
  · exact absurd a1 (e _)
  · exact ⟨a1, a2⟩
theorem bytesP_length : ∀ ps : List (Nat × Int), (bytesP ps).length = (ps.map (·.1)).sum
  | [] => rfl
  | q :: ps => by
    show (be q.2 q.1 ++ bytesP ps).length = _
    rw [List.length_append, be_length, bytesP_length ps]
    rfl
theorem enc_pos {b : List Int} {m : Msg} (e : Enc b m) : 0 < b.length := by
  rw [← e.is]
  show 0 < (be m.k 1 ++ bytesP (tailP m)).length
  rw [List.length_append, be_length]
  omega
theorem enc_nil (m : Msg) : ¬ Enc [] m := fun e => by
  have := enc_pos e
  cases this
/-- a message that is laid by -/
theorem lay_ {h : H} (m : Msg) : ∃ gm : (h.push (.row true 9 msg0.cells)).obj h.next = some (.row true 9 msg0.cells), ((h.push (.row true 9 msg0.cells)).set h.next (.row true 9 m.cells)).obj h.next = some (.row true 9 m.cells) ∧ Ab.Mod none_ h ((h.push (.row true 9 msg0.cells)).set h.next (.row true 9 m.cells)) := by
  have mp := Mod.push none_ h (.row true 9 msg0.cells)
  have gm : (h.push (.row true 9 msg0.cells)).obj h.next = some (.row true 9 msg0.cells) := H.obj_push_new _ _
  refine ⟨gm, H.obj_set_same gm, ?_⟩
  have ms := Mod.set (S := one h.next) (ob := .row true 9 m.cells) rfl gm rfl
  exact mp.trans' ms (S2 := none_) (fun _ _ k => k) (fun i hi k => absurd hi (by unfold one at k; omega))
def msgA : Msg := ⟨1, 1, 258, none, [], 0, 0, 0, 0, 0⟩
def msgN : Msg := ⟨7, 0, 0, none, [], 0, 9, -1, 0, 0⟩
theorem ok_nil {h : H} {k p d w c e f l : Int} (h1 : -9223372036854775808 ≤ e) (h2 : e ≤ 9223372036854775807) : Msg.ok h ⟨k, p, d, none, [], w, c, e, f, l⟩ := ⟨SlIs.nil _ _ _, h1, h2, Nat.zero_le _⟩
theorem encA : encB msgA = [1, 0, 1, 1, 2] ∧ encOk msgA = true := by decide +kernel
theorem enc0 : encB msg0 = [] ∧ encOk msg0 = false := by decide +kernel
theorem encN : (encB msgN).length = 14 ∧ encOk msgN = true := by decide +kernel
theorem encA' : Enc [1, 0, 1, 1, 2] msgA := by
  refine ⟨⟨fun _ => ⟨rfl, rfl⟩, fun _ => ⟨rfl, rfl, rfl, rfl⟩, fun h => absurd rfl h, fun h => absurd rfl h⟩, encA.2, ?_, by decide, by decide⟩
  have := encA.1
  rw [encB, encA.2, if_pos rfl] at this
  exact this
theorem awake40 (h : H) : ACalls Try.prog 40 [] h (fun r h' => r = .bool true ∧ Ab.Mod none_ h h') := by
  refine call_ Try.func40 rfl rfl (by kernel_rfl) ?_
  conv => whnf
  refine (enc41 msgA (ok_nil (by decide) (by decide))).mono ?_
  rintro _ h1 ⟨q1, rfl, o1, m1⟩
  rw [encA.1] at o1 ⊢
  rw [encA.2]
  conv => whnf
  refine ⟨_, rfl, ?_⟩
  conv => whnf
  refine ⟨_, rfl, ?_⟩
  conv => whnf
  refine (dec43 o1.is (octs_in _ (by decide)) (by decide)).mono ?_
  rintro _ h2 ⟨mA, okA, rfl, kA, m2, dA⟩
  obtain ⟨rfl, eA, _⟩ := dA.yes encA'
  conv => whnf
  refine ⟨_, rfl, ?_⟩
  conv => whnf
  refine ⟨_, rfl, ?_⟩
  conv => whnf
  obtain ⟨g0, gA, m3⟩ := lay_ (h := h2) mA
  refine ⟨_, _, g0, Nat.le_of_ble_eq_true rfl, ?_⟩
  conv => whnf
  have kA := kA.old m3 (fun _ _ k => k)
  have o1 := (o1.get m2).get m3
  have mm := mod_none (mod_none m1 m2) m3
  refine (dec43 (b := []) (SlIs.nil _ false 1) (fun _ k => by cases k) (by decide)).mono ?_
  rintro _ h4 ⟨mB, okB, rfl, kB, m4, dB⟩
  obtain ⟨rfl, rfl⟩ := dB.no enc_nil
  conv => whnf
  refine ⟨_, rfl, ?_⟩
  conv => whnf
  refine ⟨_, rfl, ?_⟩
  conv => whnf
  obtain ⟨g0', _, m5⟩ := lay_ (h := h4) msg0
  refine ⟨_, _, g0', Nat.le_of_ble_eq_true rfl, ?_⟩
  conv => whnf
  have kA := (kA.old m4 (fun _ _ k => k)).old m5 (fun _ _ k => k)
  have gA := m5.get (m4.get gA (.inl (fun k => k))) (.inl (fun k => k))
  have o1 := (o1.get m4).get m5
  have mm := mod_none (mod_none mm m4) m5
  refine (enc41 msg0 (ok_nil (by decide) (by decide))).mono ?_
  rintro _ h6 ⟨q6, rfl, o6, m6⟩
  rw [enc0.2]
  conv => whnf
  refine ⟨_, rfl, ?_⟩
  conv => whnf
  refine ⟨_, rfl, ?_⟩
  conv => whnf
  refine (enc41 msgN (ok_nil (by decide) (by decide))).mono ?_
  rintro _ h7 ⟨q7, rfl, o7, m7⟩
  rw [encN.2, encN.1]
  conv => whnf
  refine ⟨_, rfl, ?_⟩
  conv => whnf
  refine ⟨_, rfl, ?_⟩
  conv => whnf
  have kA := (kA.old m6 (fun _ _ k => k)).old m7 (fun _ _ k => k)
  have gA := m7.get (m6.get gA (.inl (fun k => k))) (.inl (fun k => k))
  have o1 := (o1.get m6).get m7
  have mm := mod_none (mod_none mm m6) m7
  refine ⟨_, o1.is, octs_in _ (by decide), ?_⟩
  conv => whnf
  refine ⟨_, Cell.mk gA rfl, ?_⟩
  have hd : mA.d = 258 := by rw [eA]; rfl
  rw [hd]
  conv => whnf
  refine ⟨mA.cells, Cells.mk gA (Nat.le_of_ble_eq_true rfl) rfl, ?_⟩
  conv => whnf
  refine ⟨mA.cells, Cells.mk gA (Nat.le_of_ble_eq_true rfl) rfl, ?_⟩
  conv => whnf
  refine (same46 mA mA kA kA).mono ?_
  rintro _ h8 ⟨rfl, m8⟩
  rw [sameM_refl]
  conv => whnf
  have kA := kA.old m8 (fun _ _ k => k)
  have gA := m8.get gA (.inl (fun k => k))
  refine ⟨mA.cells, Cells.mk gA (Nat.le_of_ble_eq_true rfl) rfl, ?_⟩
  conv => whnf
  refine (same46 mA msg0 kA (ok_nil (by decide) (by decide))).mono ?_
  rintro _ h9 ⟨rfl, m9⟩
  have hs : sameM mA msg0 = false := by rw [eA]; rfl
  rw [hs]
  conv => whnf
  exact ⟨rfl, mod_none (mod_none mm m8) m9⟩
end Go.Proofs.Ytnpfdppmpmnhbaa
