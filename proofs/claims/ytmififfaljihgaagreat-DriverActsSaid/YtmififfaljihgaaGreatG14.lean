/- DriverActs: in plain lists; both drivers together. -/
import Derived.Test.YtmififfaljihgaaGreatG13
set_option linter.unusedVariables false
namespace Go.Proofs.YtmififfaljihgaaGreat
open Go Go.Ab
theorem VI.mono {v : DV} {oc : Option CV} {K K' : Int} (i : VI v oc K) (h : K ≤ K') : VI v oc K' :=
  ⟨i.ok, ⟨i.cn.1, by have := i.cn.2; omega⟩, i.has, i.len, i.off, fun cv e => by
    obtain ⟨a, b, c⟩ := i.cg cv e
    exact ⟨a, by omega, by omega⟩⟩
theorem repD_vi (v : DV) (p : Int) (hw : v.has = false → v.way = []) (hl : v.way.length ≤ 512) : (repD v p).c = v.c ∧ (repD v p).conn = v.conn ∧ ((repD v p).has = false → (repD v p).way = []) ∧ (repD v p).way.length ≤ 512 := by
  unfold repD
  split
  · rename_i k
    refine ⟨rfl, rfl, fun e => ?_, ?_⟩
    · have e : v.has = false := e
      rw [k.1] at e
      cases e
    · show v.way.tail.length ≤ 512
      rw [List.length_tail]
      omega
  · split
    · exact ⟨rfl, rfl, fun _ => rfl, Nat.zero_le _⟩
    · exact ⟨rfl, rfl, hw, hl⟩
theorem gOf_go {b : List Int} (bb : Bts b) {g : GV} (e : gOf b = some g) : GO g := by
  by_cases ex : (unV b).2.2 = 0 ∧ ∃ m, EncG (unV b).2.1 (unV b).1 m
  · obtain ⟨u, m, em⟩ := ex
    rw [gOf_enc u em] at e
    injection e with e
    subst e
    obtain ⟨i1, i2, i3, i4, i5⟩ := un_inv bb (k := (unV b).1) (xs := (unV b).2.1) (by rw [← u])
    have hb : Bts m.bd ∧ m.bd.length ≤ 2000 := by
      by_cases h1 : m.k = 1
      · have is := em.is
        rw [gpay, gbody_1 h1] at is
        constructor
        · exact fun x hx => i3 x (by rw [← is]; exact List.mem_append_right _ hx)
        · have := congrArg List.length is
          rw [List.length_append] at this
          omega
      · rw [(em.c1 h1).2]
        exact ⟨fun x hx => (by cases hx), Nat.zero_le _⟩
    exact ⟨hb.1, em.seq, by show m.bd.length ≤ 100000; have := hb.2; omega⟩
  · rw [gOf, dif_neg ex] at e
    cases e
theorem hear_all : ∀ (L : List Msg) (w : DV), (∀ m ∈ L, m.k = 5 → m.es.length ≤ 512) → (w.has = false → w.way = []) → w.way.length ≤ 512 → (L.foldl hearD w).c = w.c ∧ (L.foldl hearD w).conn = w.conn ∧ ((L.foldl hearD w).has = false → (L.foldl hearD w).way = []) ∧ (L.foldl hearD w).way.length ≤ 512
  | [], w, _, h1, h2 => ⟨rfl, rfl, h1, h2⟩
  | m :: L, w, h0, h1, h2 => by
    have key : (hearD w m).c = w.c ∧ (hearD w m).conn = w.conn ∧ ((hearD w m).has = false → (hearD w m).way = []) ∧ (hearD w m).way.length ≤ 512 := by
      unfold hearD
      split
      · rename_i k
        exact ⟨rfl, rfl, (fun e => by cases e), h0 m (by simp) k⟩
      · split
        · exact ⟨rfl, rfl, fun _ => rfl, Nat.zero_le _⟩
        · exact ⟨rfl, rfl, h1, h2⟩
    obtain ⟨k1, k2, k3, k4⟩ := key
    obtain ⟨r1, r2, r3, r4⟩ := hear_all L (hearD w m) (fun x hx => h0 x (by simp [hx])) k3 k4
    exact ⟨r1.trans k1, r2.trans k2, r3, r4⟩
theorem got_len (l : List (List Int)) : ∀ m ∈ gotV l, m.k = 5 → m.es.length ≤ 512 := fun m hm k => by
  rw [gotV, List.mem_filterMap] at hm
  obtain ⟨b, _, e⟩ := hm
  obtain ⟨m', en, rfl⟩ := mOf_some e
  have ok := en.ok
  rw [encOk, Bool.and_eq_true] at ok
  have kn := ok.1
  have k : m'.k = 5 := k
  unfold knd at kn
  rw [k] at kn
  exact (by simpa using kn : m'.es.length ≤ 512)
section
variable {v : DV} {oc : Option CV} {K : Int} (i : VI v oc K) (hK0 : 0 ≤ K) (hK : K ≤ 100) (now : Int)
include i hK0 hK
theorem VI.start (a n : Int) : VI (stStart (v, oc) now a n).2.1 (stStart (v, oc) now a n).2.2 (K + 1) := by
  rw [stStart]
  split
  · have okc := i.okc hK
    rw [startR_one i.ok]
    refine ⟨i.ok, ⟨?_, ?_⟩, fun _ => rfl, Nat.zero_le _, (fun e => by cases e), fun cv e => ?_⟩
    · show 0 ≤ v.conn + 1
      have := i.cn.1
      omega
    · show v.conn + 1 ≤ K + 1
      have := i.cn.2
      omega
    · injection e with e
      subst e
      refine ⟨one_cg okc now (encB_oct _) (openM_len a n), ?_, ?_⟩
      · show (1 : Int) + ((0 : Nat) : Int) ≤ K + 1
        omega
      · show (0 : Int) ≤ 16 * (K + 1)
        omega
  · exact i.mono (by omega)
theorem VI.push {v' : DV} {cv : CV} (e : oc = some cv) {m : Msg} (hl : (encB m).length ≤ 100000) (e1 : v'.c = v.c) (e2 : v'.conn = v.conn) (e3 : v'.has = false → v'.way = []) (e4 : v'.way.length ≤ 512) : VI v' (some (pushV cv now (encB m)).2) (K + 1) := by
  obtain ⟨g, c1, c2⟩ := i.cg cv e
  have ov := push_ov g.ok g.ov (by omega) now (encB_oct m) hl
  refine ⟨by rw [e1]; exact i.ok, ⟨by rw [e2]; exact i.cn.1, by have := i.cn.2; omega⟩, e3, e4, (fun k => by cases k), fun cv' k => ?_⟩
  injection k with k
  subst k
  exact ⟨push_cg g (by omega) now (encB_oct m) hl, by have := ov.2.2.1; omega, by have := ov.2.2.2.1; omega⟩
theorem VI.report (p : Int) : VI (stReport (v, oc) now p).2.1 (stReport (v, oc) now p).2.2 (K + 1) := by
  rw [stReport]
  split
  · exact i.mono (by omega)
  · split
    · exact i.mono (by omega)
    · split
      · exact i.mono (by omega)
      · rename_i cv e
        have e : oc = some cv := e
        obtain ⟨r1, r2, r3, r4⟩ := repD_vi v p i.has i.len
        split
        · exact i.push hK0 hK now e (repM_len p) r1 r2 r3 r4
        · exact i.push hK0 hK now e (repM_len p) rfl rfl i.has i.len
theorem VI.follow : VI (stFollow (v, oc) now).2.1 (stFollow (v, oc) now).2.2 (K + 1) := by
  rw [stFollow]
  split
  · exact i.mono (by omega)
  · exact i.report hK0 hK now _
theorem VI.stop : VI (stStop (v, oc) now).2.1 (stStop (v, oc) now).2.2 (K + 1) := by
  rw [stStop]
  split
  · exact i.mono (by omega)
  · split
    · exact i.mono (by omega)
    · rename_i cv e
      have e : oc = some cv := e
      exact i.push hK0 hK now e byeM_len rfl rfl i.has i.len
theorem VI.tick : VI (stTick (v, oc) now).2.1 (stTick (v, oc) now).2.2 (K + 1) := by
  rw [stTick]
  split
  · exact i.mono (by omega)
  · split
    · exact i.mono (by omega)
    · rename_i cv e
      have e : oc = some cv := e
      obtain ⟨g, c1, c2⟩ := i.cg cv e
      have ov := pass_ov g.ok g.ov (by omega) now
      have t : (tickD v cv now).c = v.c ∧ (tickD v cv now).conn = v.conn ∧ (tickD v cv now).has = v.has ∧ (tickD v cv now).way = v.way := by
        unfold tickD
        split <;> exact ⟨rfl, rfl, rfl, rfl⟩
      obtain ⟨t1, t2, t3, t4⟩ := t
      refine ⟨by show okCfg (tickD v cv now).c = true; rw [t1]; exact i.ok, ?_, ?_, ?_, (fun k => by cases k), fun cv' k => ?_⟩
      · show 0 ≤ (tickD v cv now).conn ∧ (tickD v cv now).conn ≤ K + 1
        rw [t2]
        have := i.cn
        omega
      · show (tickD v cv now).has = false → (tickD v cv now).way = []
        rw [t3, t4]
        exact i.has
      · show (tickD v cv now).way.length ≤ 512
        rw [t4]
        exact i.len
      · injection k with k
        subst k
        exact ⟨pass_cg g (by omega) now, by have := ov.2.2.1; omega, by have := ov.2.2.2.1; omega⟩
theorem VI.recv {b : List Int} (bb : Bts b) : VI (stRecv (v, oc) now (gOf b)).2.1 (stRecv (v, oc) now (gOf b)).2.2 (K + 1) := by
  rw [stRecv]
  split
  · exact i.mono (by omega)
  · rename_i cv e
    have e : oc = some cv := e
    obtain ⟨g, c1, c2⟩ := i.cg cv e
    show VI (rcvD v cv now (gOf b)) (some (rcvC v cv now (gOf b))) (K + 1)
    have same : VI v (some cv) (K + 1) := by
      rw [← e]
      exact i.mono (by omega)
    cases eg : gOf b with
    | none => exact same
    | some gg =>
    have go : GO gg := gOf_go bb eg
    have ov := recv_ov g.ok g.ov (by omega) now go
    rw [rcvD, rcvC]
    by_cases hX : recvX v gg = true
    · rw [if_pos hX]
      by_cases hk : gg.kind = 3
      · rw [if_pos hk, if_neg (fun k => k.2 hk)]
        exact ⟨same.ok, same.cn, same.has, same.len, (fun k => by cases k), same.cg⟩
      · rw [if_neg hk, if_pos ⟨hX, hk⟩]
        obtain ⟨r1, r2, r3, r4⟩ := hear_all (gotV (recvV cv now gg).1.1) v (got_len _) i.has i.len
        refine ⟨by rw [r1]; exact i.ok, by rw [r2]; exact same.cn, r3, r4, (fun k => by cases k), fun cv' k => ?_⟩
        injection k with k
        subst k
        exact ⟨recv_cg g (by omega) now go, by have := ov.2.2.2.1; omega, by have := ov.2.2.2.2.1; omega⟩
    · rw [if_neg hX, if_neg (fun k => hX k.1)]
      exact same
end
theorem j_step {h h1 h2 : H} {di ri : Nat} {v' : DV} {o o' : PO} {ro ro' : RO} (dis : ∀ i, drA di o i → ¬ rdA ri ro i) (s1 : DrA h1 di v' o') (f1 : ∀ i, drA di o' i → drA di o i ∨ h.next ≤ i) (m2 : Ab.Mod (rdA ri ro) h1 h2) (f2 : ∀ i, rdA ri ro' i → rdA ri ro i ∨ h1.next ≤ i) (lt : ∀ i, rdA ri ro i → i < h.next) : DrA h2 di v' o' ∧ ∀ i, drA di o' i → ¬ rdA ri ro' i := by
  have d1 : ∀ i, drA di o' i → ¬ rdA ri ro i := fun i k k2 => by
    rcases f1 i k with k | k
    · exact dis i k k2
    · have := lt i k2
      omega
  refine ⟨s1.get m2 d1, fun i k k2 => ?_⟩
  rcases f2 i k2 with k2 | k2
  · exact d1 i k k2
  · have := s1.lt k
    omega
end Go.Proofs.YtmififfaljihgaaGreat
