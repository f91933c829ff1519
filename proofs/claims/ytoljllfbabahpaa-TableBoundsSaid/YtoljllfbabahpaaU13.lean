/- Senders: the calls, by what they hold. -/
import Derived.Test.YtoljllfbabahpaaU12
set_option linter.unusedVariables false
namespace Go.Proofs.Ytoljllfbabahpaa
open Go Go.Ab
structure SId where
  g : Nat
  mi : Nat
  tg : Nat
  tmi : Nat
def SId.all (d : SId) : Nat → Prop := fun i => i = d.g ∨ i = d.mi ∨ i = d.tg ∨ i = d.tmi
structure SV where
  W : Int
  N : Int
  ov : Bool
  C : Hd
  B : Int
  M : Int
  R : Int
  TS : List Wt
def SdC (h : H) (d : SId) (v : SV) : Prop := ∃ S, SdSt h d.g d.mi d.tg d.tmi v.W v.N v.ov S v.B v.M v.R v.TS ∧ encM Prod.snd S = v.C
theorem SdC.get {Z : Nat → Prop} {h h' : H} {d : SId} {v : SV} (s : SdC h d v) (m : Ab.Mod Z h h') (hz : ∀ i, d.all i → ¬ Z i) : SdC h' d v := by
  obtain ⟨S, h1, h2⟩ := s
  exact ⟨S, h1.get m (hz _ (.inl rfl)) (hz _ (.inr (.inl rfl))) (hz _ (.inr (.inr (.inl rfl)))) (hz _ (.inr (.inr (.inr rfl)))), h2⟩
theorem SdC.old {h h' : H} {d : SId} {v : SV} (s : SdC h d v) (m : Ab.Mod none_ h h') : SdC h' d v := s.get m (fun _ _ k => k)
theorem SdC.lt {h : H} {d : SId} {v : SV} (s : SdC h d v) {i : Nat} (hi : d.all i) : i < h.next := by
  obtain ⟨S, h1, _⟩ := s
  have := h1.lt
  rcases hi with rfl | rfl | rfl | rfl
  · exact this.1
  · exact this.2.1
  · exact this.2.2.1
  · exact this.2.2.2
structure SOk (v : SV) : Prop where
  ok : okW v.W = true
  okt : okT v.B v.M v.R = true
  n0 : 0 ≤ v.N
  asc : AscS v.C
  kb : ∀ k ∈ keys v.C, 0 ≤ k ∧ k < v.N
  len : (v.C.length : Int) ≤ v.W
  tasc : AscS v.TS
  tk : ∀ k ∈ keys v.TS, k ∈ keys v.C
  tn : ∀ x ∈ v.TS, 0 ≤ x.2.2
  bl : ∀ x ∈ v.C, x.2.length ≤ 100000
def sendV (v : SV) (now : Int) (body : List Int) : (Int × Int) × SV :=
  if v.ov = true then ((0, 6), v) else if (v.C.length : Int) = v.W then ((0, 5), v) else ((v.N, 0), { v with N := v.N + 1, C := insS v.C v.N body, TS := insS v.TS v.N (now + waitV v.B v.M 0, 0) })
def ackV (v : SV) (ack : Int) : Int × SV :=
  if ack > v.N then (0, v) else (((v.C.filter fun p => decide (p.1 < ack)).length : Int), { v with C := v.C.filter fun p => decide (ack ≤ p.1), TS := v.TS.filter fun p => decide (ack ≤ p.1) })
def againV (v : SV) (now : Int) : (List Int × Int) × SV :=
  if v.ov = true then (([], 6), v) else if ovS v.R now v.TS = [] then ((agS v.R now v.TS, 0), { v with TS := rsS v.B v.M v.R now v.TS }) else (([], 6), { v with ov := true, TS := rsS v.B v.M v.R now v.TS })
theorem insS_top {β : Type} {S : List (Int × β)} {n : Int} (h : ∀ k ∈ keys S, k < n) (v : β) : insS S n v = S ++ [(n, v)] := by
  rw [insS, List.filter_eq_self.2 (fun x hx => by simpa using h x.1 (List.mem_map.2 ⟨x, hx, rfl⟩)), List.filter_eq_nil_iff.2 (fun x hx => by have := h x.1 (List.mem_map.2 ⟨x, hx, rfl⟩); simp; omega)]
theorem keys_snoc {β : Type} (S : List (Int × β)) (n : Int) (v : β) : keys (S ++ [(n, v)]) = keys S ++ [n] := by simp [keys]
theorem SOk.send {v : SV} (o : SOk v) (now : Int) {body : List Int} (hb : body.length ≤ 100000) : SOk (sendV v now body).2 := by
  unfold sendV
  by_cases h1 : v.ov = true
  · rw [if_pos h1]
    exact o
  rw [if_neg h1]
  by_cases h2 : (v.C.length : Int) = v.W
  · rw [if_pos h2]
    exact o
  rw [if_neg h2]
  have e1 := insS_top (v := body) (fun k hk => (o.kb k hk).2)
  have e2 := insS_top (S := v.TS) (n := v.N) (v := (now + waitV v.B v.M 0, (0 : Int))) (fun k hk => (o.kb k (o.tk k hk)).2)
  have hn := o.n0
  refine ⟨o.ok, o.okt, by show 0 ≤ v.N + 1; omega, insS_asc o.asc _ _, ?_, ?_, insS_asc o.tasc _ _, ?_, ?_, ?_⟩
  · show ∀ k ∈ keys (insS v.C v.N body), 0 ≤ k ∧ k < v.N + 1
    rw [e1, keys_snoc]
    intro k hk
    rcases List.mem_append.1 hk with hk | hk
    · have := o.kb k hk
      omega
    · have : k = v.N := by simpa using hk
      omega
  · show ((insS v.C v.N body).length : Int) ≤ v.W
    rw [e1, List.length_append]
    have := o.len
    simp
    omega
  · show ∀ k ∈ keys (insS v.TS v.N _), k ∈ keys (insS v.C v.N body)
    rw [e1, e2, keys_snoc, keys_snoc]
    intro k hk
    rcases List.mem_append.1 hk with hk | hk
    · exact List.mem_append.2 (.inl (o.tk k hk))
    · exact List.mem_append.2 (.inr hk)
  · show ∀ x ∈ insS v.TS v.N _, 0 ≤ x.2.2
    rw [e2]
    intro x hx
    rcases List.mem_append.1 hx with hx | hx
    · exact o.tn x hx
    · have : x = (v.N, now + waitV v.B v.M 0, 0) := by simpa using hx
      subst this
      exact Int.le_refl _
  · show ∀ x ∈ insS v.C v.N body, x.2.length ≤ 100000
    rw [e1]
    intro x hx
    rcases List.mem_append.1 hx with hx | hx
    · exact o.bl x hx
    · have : x = (v.N, body) := by simpa using hx
      subst this
      exact hb
theorem SOk.ack {v : SV} (o : SOk v) (ack : Int) : SOk (ackV v ack).2 := by
  unfold ackV
  by_cases h1 : ack > v.N
  · rw [if_pos h1]
    exact o
  rw [if_neg h1]
  have hsub : ∀ k ∈ keys (v.C.filter fun p => decide (ack ≤ p.1)), k ∈ keys v.C ∧ ack ≤ k := fun k hk => by
    obtain ⟨x, hx, rfl⟩ := List.mem_map.1 hk
    obtain ⟨a, b⟩ := List.mem_filter.1 hx
    exact ⟨List.mem_map.2 ⟨x, a, rfl⟩, by simpa using b⟩
  refine ⟨o.ok, o.okt, o.n0, filter_asc o.asc _, fun k hk => o.kb k (hsub k hk).1, ?_, filter_asc o.tasc _, fun k hk => ?_, fun x hx => o.tn x (List.mem_filter.1 hx).1, fun x hx => o.bl x (List.mem_filter.1 hx).1⟩
  · show ((v.C.filter fun p => decide (ack ≤ p.1)).length : Int) ≤ v.W
    have := List.length_filter_le (fun (p : Int × List Int) => decide (ack ≤ p.1)) v.C
    have := o.len
    omega
  · obtain ⟨x, hx, rfl⟩ := List.mem_map.1 hk
    obtain ⟨a, b⟩ := List.mem_filter.1 hx
    obtain ⟨y, hy, e⟩ := List.mem_map.1 (o.tk x.1 (List.mem_map.2 ⟨x, a, rfl⟩))
    exact List.mem_map.2 ⟨y, List.mem_filter.2 ⟨hy, by rw [e]; exact b⟩, e⟩
theorem rsS_keys {B M R now : Int} {S : List Wt} : List.Sublist (keys (rsS B M R now S)) (keys S) := by
  induction S with
  | nil => exact List.Sublist.refl _
  | cons x S ih =>
    have e : rsS B M R now (x :: S) = (dueF B M R now x).toList ++ rsS B M R now S := by
      unfold rsS
      rw [List.filterMap_cons]
      cases dueF B M R now x <;> rfl
    rw [e, keys_append]
    have hk : keys (x :: S) = x.1 :: keys S := rfl
    rw [hk]
    unfold dueF
    split
    · exact ih.cons_cons _
    · split
      · exact ih.cons_cons _
      · exact ih.cons _
theorem rsS_pos {B M R now : Int} {S : List Wt} (h : ∀ x ∈ S, 0 ≤ x.2.2) : ∀ x ∈ rsS B M R now S, 0 ≤ x.2.2 := fun y hy => by
  unfold rsS at hy
  obtain ⟨x, hx, e⟩ := List.mem_filterMap.1 hy
  have := h x hx
  unfold dueF at e
  split at e
  · injection e with e
    subst e
    exact this
  · split at e
    · injection e with e
      subst e
      show 0 ≤ x.2.2 + 1
      omega
    · cases e
theorem SOk.again {v : SV} (o : SOk v) (now : Int) : SOk (againV v now).2 := by
  unfold againV
  by_cases h1 : v.ov = true
  · rw [if_pos h1]
    exact o
  rw [if_neg h1]
  have hs := rsS_keys (B := v.B) (M := v.M) (R := v.R) (now := now) (S := v.TS)
  by_cases h2 : ovS v.R now v.TS = []
  · rw [if_pos h2]
    exact ⟨o.ok, o.okt, o.n0, o.asc, o.kb, o.len, o.tasc.sublist hs, fun k hk => o.tk k (hs.subset hk), rsS_pos o.tn, o.bl⟩
  · rw [if_neg h2]
    exact ⟨o.ok, o.okt, o.n0, o.asc, o.kb, o.len, o.tasc.sublist hs, fun k hk => o.tk k (hs.subset hk), rsS_pos o.tn, o.bl⟩
end Go.Proofs.Ytoljllfbabahpaa
