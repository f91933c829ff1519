/- Tables: what the document fixes. -/
import Derived.Test.YtoljllfbabahpaaU52
set_option linter.unusedVariables false
namespace Go.Proofs.Ytoljllfbabahpaa
open Go Go.Ab
theorem mayV_same {most : Int} {E : En} {G G' : List (Int × Int)} {p c : Int} (e : sget G' p = sget G p) : mayV most E G' p c = mayV most E G p c := by rw [mayV, mayV, e]
set_option maxHeartbeats 1000000 in
theorem awake21 (h : H) : ACalls Try.prog 21 [] h (fun r h' => r = .bool true ∧ Ab.Mod none_ h h') := by
  refine call_ Try.func21 rfl rfl (by kernel_rfl) ?_
  conv => whnf
  refine (tbNew h 1).mono ?_
  rintro r1 h1 (⟨q, _⟩ | ⟨_, t, mi, gi, rfl, s1, n1, n2, n3, m1⟩)
  · exact absurd q (by decide)
  conv => whnf
  refine ⟨_, rfl, ?_⟩
  conv => whnf
  refine ⟨_, rfl, ?_⟩
  conv => whnf
  refine (tbNew h1 0).mono ?_
  rintro r2 h2 (⟨_, eh, rfl⟩ | ⟨q, _⟩)
  rotate_left
  · exact absurd q (by decide)
  subst eh
  conv => whnf
  refine ⟨_, rfl, ?_⟩
  conv => whnf
  refine ⟨_, rfl, ?_⟩
  conv => whnf
  refine (entry27 h2 3 5).mono ?_
  rintro _ h3 ⟨i1, rfl, y1, k1, m3⟩
  have s3 := s1.old m3
  conv => whnf
  refine (add26 s3 y1).mono ?_
  rintro _ h4 ⟨rfl, m4, q⟩
  have v1 : mayV 1 [] [] 3 5 = 0 := rfl
  rw [v1] at q ⊢
  rcases q with ⟨q, _⟩ | ⟨_, G4, g4, s4⟩
  · exact absurd rfl q
  conv => whnf
  refine (entry27 h4 4 1).mono ?_
  rintro _ h5 ⟨i2, rfl, y2, k2, m5⟩
  have s5 := s4.old m5
  conv => whnf
  refine (add26 s5 y2).mono ?_
  rintro _ h6 ⟨rfl, m6, q⟩
  have v2 : mayV 1 (insS [] 3 (i1, 5)) G4 4 1 = 5 := (mayV_same (G := [(3, 5)]) (by rw [g4]; rfl)).trans rfl
  rw [v2] at q ⊢
  rcases q with ⟨_, eh⟩ | ⟨q, _⟩
  rotate_left
  · cases q
  subst eh
  conv => whnf
  refine (entry27 h6 3 5).mono ?_
  rintro _ h7 ⟨i3, rfl, y3, k3, m7⟩
  have s7 := s5.old m7
  conv => whnf
  refine (add26 s7 y3).mono ?_
  rintro _ h8 ⟨rfl, m8, q⟩
  have v3 : mayV 1 (insS [] 3 (i1, 5)) G4 3 5 = 6 := (mayV_same (G := [(3, 5)]) (by rw [g4]; rfl)).trans rfl
  rw [v3] at q ⊢
  rcases q with ⟨_, eh⟩ | ⟨q, _⟩
  rotate_left
  · cases q
  subst eh
  conv => whnf
  refine (entry27 h8 3 6).mono ?_
  rintro _ h9 ⟨i4, rfl, y4, k4, m9⟩
  have s9 := s7.old m9
  conv => whnf
  refine (add26 s9 y4).mono ?_
  rintro _ h10 ⟨rfl, m10, q⟩
  have v4 : mayV 1 (insS [] 3 (i1, 5)) G4 3 6 = 0 := (mayV_same (G := [(3, 5)]) (by rw [g4]; rfl)).trans rfl
  rw [v4] at q ⊢
  rcases q with ⟨q, _⟩ | ⟨_, G10, g10, s10⟩
  · exact absurd rfl q
  conv => whnf
  have s10 : TbSt h10 t mi gi 1 [(3, (i4, 6))] G10 := s10
  refine (get32 s10 3 6).mono ?_
  rintro _ h11 ⟨eh, rfl⟩
  subst eh
  conv => whnf
  have mp := Mod.push none_ h11 (.row true 1 [i64 3, i64 4])
  have s12 := s10.old mp
  refine (drop30 (p := some (h11.next, 0)) (n := 2) (xs := [3, 4]) s12 (.inr ⟨fun _ => True, ?_, ?_⟩) (by decide)).mono ?_
  · rintro i ⟨o, e⟩ k
    obtain ⟨rfl, _⟩ := Prod.mk.injEq .. |>.mp (Option.some.inj e)
    have := s10.lt
    omega
  · exact ⟨rfl, .inr ⟨h11.next, 0, _, _, rfl, H.obj_push_new h11 _, fun _ => rfl, by decide, rfl⟩⟩
  rintro _ h13 ⟨q, rfl, en, s13, m13⟩
  have s13 : TbSt h13 t mi gi 1 [] G10 := s13
  conv => whnf
  obtain ⟨ve, e4⟩ := ((y4.get m10).get mp).get m13
  refine ⟨_, Cell.mk e4 rfl, ?_⟩
  conv => whnf
  refine (get32 s13 3 5).mono ?_
  rintro _ h14 ⟨eh, rfl⟩
  subst eh
  conv => whnf
  refine (len34 s13).mono ?_
  rintro _ h15 ⟨eh, rfl⟩
  subst eh
  conv => whnf
  refine (may25 s13 3 6).mono ?_
  rintro _ h16 ⟨eh, rfl⟩
  subst eh
  have v5 : mayV 1 [] G10 3 6 = 6 := (mayV_same (G := [(3, 6)]) (by rw [g10]; rfl)).trans rfl
  rw [v5]
  conv => whnf
  refine (may25 s13 3 7).mono ?_
  rintro _ h17 ⟨eh, rfl⟩
  subst eh
  have v6 : mayV 1 [] G10 3 7 = 0 := (mayV_same (G := [(3, 6)]) (by rw [g10]; rfl)).trans rfl
  rw [v6]
  conv => whnf
  refine (add0 _ t).mono ?_
  rintro _ h18 ⟨eh, rfl⟩
  subst eh
  conv => whnf
  refine (len00 _).mono ?_
  rintro _ h19 ⟨eh, rfl⟩
  subst eh
  conv => whnf
  refine (entry27 _ 1 1).mono ?_
  rintro _ h20 ⟨i5, rfl, y5, k5, m20⟩
  conv => whnf
  refine (add00 _ _).mono ?_
  rintro _ h21 ⟨eh, rfl⟩
  subst eh
  conv => whnf
  refine (get00 _ 1 1).mono ?_
  rintro _ h22 ⟨eh, rfl⟩
  subst eh
  conv => whnf
  have hop : ∀ {a b : H}, Ab.Mod none_ h a → Ab.Mod (two mi gi) a b → Ab.Mod none_ h b := fun m k => m.trans' k (fun _ _ e => e) (fun i hi e => by
    rcases e with (e : i = mi) | (e : i = gi) <;> omega)
  have b4 := hop (mod_none m1 m3) m4
  have b10 := hop (mod_none (mod_none (mod_none b4 m5) m7) m9) m10
  exact ⟨rfl, mod_none (hop (mod_none b10 mp) (m13.mono (fun i _ e => .inl e))) m20⟩
end Go.Proofs.Ytoljllfbabahpaa
