/- D2: texts of another seat, turned to this one. -/
import Derived.Test.YtmififfaljihgaaD1
import Derived.Shelf.Lays
import Derived.Shelf.Lays2
import Derived.Shelf.Sort.AssemblyIn
import Derived.Sort.EveryDepth
import Derived.Shelf.Slices.CompactI
import Derived.Shelf.Slices.In.SortNone
set_option linter.unusedVariables false
set_option linter.unusedSimpArgs false
namespace Go.Proofs.Ytmififfaljihgaa
open Go Go.Ab Go.Shelf
def sortA_ren : Go.Shelf.Ren := ⟨fun | 189 => 86 | 125 => 90 | 257 => 89 | 128 => 100 | 129 => 101 | 294 => 91 | 295 => 92 | 296 => 93 | 297 => 94 | 298 => 95 | 299 => 96 | 216 => 97 | 300 => 98 | 301 => 99 | 328 => 102 | 329 => 103 | 330 => 104 | 331 => 105 | 332 => 106 | 215 => 107 | 343 => 108 | n => n, fun | 28 => 22 | 3 => 3 | 46 => 109 | 0 => 0 | 51 => 136 | 53 => 169 | 4 => 4 | 183 => 161 | 182 => 160 | 131 => 165 | 5 => 5 | 9 => 9 | 218 => 170 | 222 => 174 | 228 => 176 | 229 => 177 | n => n, fun | n => n⟩
theorem sortA : Go.Proofs.Lays.n189 Try.prog sortA_ren where
  mixed := by kernel_rfl
  f125 := Try.func90.trans (congrArg some (by kernel_rfl))
  f128 := Try.func100.trans (congrArg some (by kernel_rfl))
  f129 := Try.func101.trans (congrArg some (by kernel_rfl))
  f189 := Try.func86.trans (congrArg some (by kernel_rfl))
  f215 := Try.func107.trans (congrArg some (by kernel_rfl))
  f216 := Try.func97.trans (congrArg some (by kernel_rfl))
  f257 := Try.func89.trans (congrArg some (by kernel_rfl))
  f294 := Try.func91.trans (congrArg some (by kernel_rfl))
  f295 := Try.func92.trans (congrArg some (by kernel_rfl))
  f296 := Try.func93.trans (congrArg some (by kernel_rfl))
  f297 := Try.func94.trans (congrArg some (by kernel_rfl))
  f298 := Try.func95.trans (congrArg some (by kernel_rfl))
  f299 := Try.func96.trans (congrArg some (by kernel_rfl))
  f300 := Try.func98.trans (congrArg some (by kernel_rfl))
  f301 := Try.func99.trans (congrArg some (by kernel_rfl))
  f328 := Try.func102.trans (congrArg some (by kernel_rfl))
  f329 := Try.func103.trans (congrArg some (by kernel_rfl))
  f330 := Try.func104.trans (congrArg some (by kernel_rfl))
  f331 := Try.func105.trans (congrArg some (by kernel_rfl))
  f332 := Try.func106.trans (congrArg some (by kernel_rfl))
  f343 := Try.func108.trans (congrArg some (by kernel_rfl))
  t0 := Try.underlying0
  a0 := Try.isAgg0
  z0 := Try.sizeOf0
  v0 := Try.zeroValue0
  t3 := Try.underlying3
  a3 := Try.isAgg3
  z3 := Try.sizeOf3
  v3 := Try.zeroValue3
  t4 := Try.underlying4
  a4 := Try.isAgg4
  z4 := Try.sizeOf4
  v4 := Try.zeroValue4
  t5 := Try.underlying5
  a5 := Try.isAgg5
  z5 := Try.sizeOf5
  v5 := Try.zeroValue5
  t9 := Try.underlying9
  a9 := Try.isAgg9
  z9 := Try.sizeOf9
  v9 := Try.zeroValue9
  t28 := Try.underlying22
  a28 := Try.isAgg22
  z28 := Try.sizeOf22
  v28 := Try.zeroValue22
  t46 := Try.underlying109
  a46 := Try.isAgg109
  z46 := Try.sizeOf109
  v46 := Try.zeroValue109
  t51 := Try.underlying136
  a51 := Try.isAgg136
  z51 := Try.sizeOf136
  v51 := Try.zeroValue136
  t53 := Try.underlying169
  a53 := Try.isAgg169
  z53 := Try.sizeOf169
  v53 := Try.zeroValue169
  t131 := Try.underlying165
  a131 := Try.isAgg165
  z131 := Try.sizeOf165
  v131 := Try.zeroValue165
  t182 := Try.underlying160
  a182 := Try.isAgg160
  z182 := Try.sizeOf160
  v182 := Try.zeroValue160
  t183 := Try.underlying161
  a183 := Try.isAgg161
  z183 := Try.sizeOf161
  v183 := Try.zeroValue161
  t218 := Try.underlying170
  a218 := Try.isAgg170
  z218 := Try.sizeOf170
  v218 := Try.zeroValue170
  t222 := Try.underlying174
  a222 := Try.isAgg174
  z222 := Try.sizeOf174
  v222 := Try.zeroValue174
  t228 := Try.underlying176
  a228 := Try.isAgg176
  z228 := Try.sizeOf176
  v228 := Try.zeroValue176
  t229 := Try.underlying177
  a229 := Try.isAgg177
  z229 := Try.sizeOf177
  v229 := Try.zeroValue177
def keysA_ren : Go.Shelf.Ren := ⟨fun | 7 => 83 | 10 => 87 | n => n, fun | 23 => 123 | 26 => 3 | 3 => 154 | 28 => 151 | 0 => 0 | 27 => 150 | 33 => 68 | 4 => 4 | n => n, fun | n => n⟩
theorem keysA : Go.Proofs.SlLaysZI.n7 Try.prog keysA_ren where
  mixed := by kernel_rfl
  f7 := ⟨"maps.Keys[map[int]milepost/timer.wait,int,milepost/timer.wait]", by decide, Try.func83.trans (congrArg some (by kernel_rfl))⟩
  f10 := ⟨"maps.Keys[map[int]milepost/timer.wait,int,milepost/timer.wait]$1", by decide, Try.func87.trans (congrArg some (by kernel_rfl))⟩
  t0 := Try.underlying0
  a0 := Try.isAgg0
  z0 := Try.sizeOf0
  v0 := Try.zeroValue0
  t4 := Try.underlying4
  a4 := Try.isAgg4
  z4 := Try.sizeOf4
  v4 := Try.zeroValue4
  t23 := Try.underlying123
  a23 := Try.isAgg123
  z23 := Try.sizeOf123
  v23 := Try.zeroValue123
  t26 := Try.underlying3
  a26 := Try.isAgg3
  z26 := Try.sizeOf3
  v26 := Try.zeroValue3
  t27 := Try.underlying150
  a27 := Try.isAgg150
  z27 := Try.sizeOf150
  v27 := Try.zeroValue150
  t28 := Try.underlying151
  a28 := Try.isAgg151
  z28 := Try.sizeOf151
  v28 := Try.zeroValue151
  t33 := Try.underlying68
  a33 := Try.isAgg68
  z33 := Try.sizeOf68
  v33 := Try.zeroValue68
def keysB_ren : Go.Shelf.Ren := ⟨fun | 7 => 83 | 10 => 87 | n => n, fun | 23 => 123 | 26 => 3 | 3 => 154 | 28 => 151 | 0 => 0 | 27 => 150 | 33 => 68 | 4 => 4 | n => n, fun | n => n⟩
theorem keysB : Go.Proofs.SlLaysZI.n7 Try.prog keysB_ren where
  mixed := by kernel_rfl
  f7 := ⟨"maps.Keys[map[int]milepost/timer.wait,int,milepost/timer.wait]", by decide, Try.func83.trans (congrArg some (by kernel_rfl))⟩
  f10 := ⟨"maps.Keys[map[int]milepost/timer.wait,int,milepost/timer.wait]$1", by decide, Try.func87.trans (congrArg some (by kernel_rfl))⟩
  t0 := Try.underlying0
  a0 := Try.isAgg0
  z0 := Try.sizeOf0
  v0 := Try.zeroValue0
  t4 := Try.underlying4
  a4 := Try.isAgg4
  z4 := Try.sizeOf4
  v4 := Try.zeroValue4
  t23 := Try.underlying123
  a23 := Try.isAgg123
  z23 := Try.sizeOf123
  v23 := Try.zeroValue123
  t26 := Try.underlying3
  a26 := Try.isAgg3
  z26 := Try.sizeOf3
  v26 := Try.zeroValue3
  t27 := Try.underlying150
  a27 := Try.isAgg150
  z27 := Try.sizeOf150
  v27 := Try.zeroValue150
  t28 := Try.underlying151
  a28 := Try.isAgg151
  z28 := Try.sizeOf151
  v28 := Try.zeroValue151
  t33 := Try.underlying68
  a33 := Try.isAgg68
  z33 := Try.sizeOf68
  v33 := Try.zeroValue68
def srt_ren : Go.Shelf.Ren := ⟨fun | 6 => 82 | 8 => 85 | 9 => 86 | 11 => 88 | 13 => 90 | 12 => 89 | 23 => 100 | 24 => 101 | 14 => 91 | 15 => 92 | 16 => 93 | 17 => 94 | 18 => 95 | 19 => 96 | 20 => 97 | 21 => 98 | 22 => 99 | 25 => 102 | 26 => 103 | 27 => 104 | 28 => 105 | 29 => 106 | 30 => 107 | 31 => 108 | n => n, fun | 26 => 3 | 28 => 151 | 24 => 22 | 0 => 0 | 3 => 3 | 37 => 109 | 48 => 136 | 50 => 169 | 4 => 4 | 40 => 161 | 39 => 160 | 45 => 165 | 5 => 5 | 9 => 9 | 51 => 170 | 55 => 174 | 57 => 176 | 58 => 177 | 33 => 68 | n => n, fun | n => n⟩
theorem srt : Go.Proofs.SlLaysZI.n6 Try.prog srt_ren where
  mixed := by kernel_rfl
  f6 := ⟨"slices.Sorted[int]", by decide, Try.func82.trans (congrArg some (by kernel_rfl))⟩
  f8 := ⟨"slices.Collect[int]", by decide, Try.func85.trans (congrArg some (by kernel_rfl))⟩
  f11 := ⟨"slices.AppendSeq[[]int,int]", by decide, Try.func88.trans (congrArg some (by kernel_rfl))⟩
  t0 := Try.underlying0
  a0 := Try.isAgg0
  z0 := Try.sizeOf0
  v0 := Try.zeroValue0
  t24 := Try.underlying22
  a24 := Try.isAgg22
  z24 := Try.sizeOf22
  v24 := Try.zeroValue22
  t26 := Try.underlying3
  a26 := Try.isAgg3
  z26 := Try.sizeOf3
  v26 := Try.zeroValue3
  t28 := Try.underlying151
  a28 := Try.isAgg151
  z28 := Try.sizeOf151
  v28 := Try.zeroValue151
  i26 := by kernel_rfl
abbrev leZ : Int → Int → Bool := fun x y => decide (x ≤ y)
theorem callable {f : Nat} {fn : Func} {c : Code} (hf : Try.prog.funcs[f]? = some fn) (hb : fn.body = some c) (hname : (fn.name == "runtime.NumGoroutine") = false) : Callable Try.prog f := ⟨fn, hf, by rw [hb]; rfl, hname⟩
theorem sort79 {h : H} {p : Option (Nat × Nat)} {n : Nat} {xs : List Int} (s : SlIs h p n true 1 (ints .i64 xs)) (hm : n ≤ 1000000) :
    ACalls Try.prog 86 [.sl p n] h (fun r h' => r = .tup [] ∧ SlIs h' p n true 1 (ints .i64 (xs.mergeSort leZ)) ∧ Ab.Mod (inSl p) h h') := by
  have hc : Callable Try.prog 86 := callable Try.func86 rfl (by kernel_rfl)
  by_cases hn : n = 0
  · subst hn
    have hl := s.1
    rw [ints_length] at hl
    have : xs = [] := List.eq_nil_of_length_eq_zero (by omega)
    subst this
    refine (idle_acalls hc (fun a cap w => Any.slices_Sort_int_none sortA a cap w) h p).mono ?_
    rintro r h' ⟨rfl, rfl⟩
    exact ⟨rfl, by simpa using s, ⟨Nat.le_refl _, fun _ _ _ => rfl⟩⟩
  · exact turns_acalls hc (fun zs => List.length_mergeSort zs) (fun blk off cap zs w h1 h2 h3 => calls_of_every_depth fun D => AnyS.slices_Sort_int_in sortA D blk off cap zs w h1 h2 h3) s (by omega) hm
theorem keys67 (h : H) (i : Nat) : ACalls Try.prog 83 [.mp (some i)] h (fun v h' => v = .clz 87 h.next ∧ h' = h.push (.row true 1 [.mp (some i)])) :=
  keys_acalls keysA (callable Try.func83 rfl (by kernel_rfl)) h i
theorem keys69 (h : H) (i : Nat) : ACalls Try.prog 83 [.mp (some i)] h (fun v h' => v = .clz 87 h.next ∧ h' = h.push (.row true 1 [.mp (some i)])) :=
  keys_acalls keysB (callable Try.func83 rfl (by kernel_rfl)) h i
theorem sortsA (m : Nat) : AnyZI.SortsIn Try.prog srt_ren Fence.wide m :=
  ⟨fun blk off cap ss W hH hblk hsz => callsIn_wide.2 (calls_of_every_depth fun D => AnyS.slices_Sort_int_in sortA D blk off cap ss W hH hblk hsz),
   fun p cap W => callsIn_wide.2 (Any.slices_Sort_int_none sortA p cap W)⟩
theorem sorted66 {h : H} {f b i : Nat} {ob om : Bool} {ms : List (Int × V)} (hf : f = 87 ∨ f = 87) (hb : h.obj b = some (.row ob 1 [.mp (some i)])) (hi : h.obj i = some (.map om (mpE .i64 ms))) (hnd : (ms.map (·.1)).Nodup) (hr : ∀ p ∈ ms, IntKind.i64.min ≤ p.1 ∧ p.1 ≤ IntKind.i64.max) (hl : ms.length ≤ 1000000) :
    ACalls Try.prog 82 [.clz f b] h (fun v h' => ∃ q, v = .sl q ms.length ∧ NewSl h h' q ms.length 1 (ints .i64 ((ms.map (·.1)).mergeSort leZ)) ∧ Ab.Mod none_ h h') := by
  rcases hf with rfl | rfl
  · exact sorted_acalls srt (r2 := keysA_ren) { keysA with } (callable Try.func82 rfl (by kernel_rfl)) sortsA (enters_of Try.func86 (by kernel_rfl) rfl) (enters_of Try.func87 (by kernel_rfl) rfl) hb hi hnd hr hl
  · exact sorted_acalls srt (r2 := keysB_ren) { keysB with } (callable Try.func82 rfl (by kernel_rfl)) sortsA (enters_of Try.func86 (by kernel_rfl) rfl) (enters_of Try.func87 (by kernel_rfl) rfl) hb hi hnd hr hl
end Go.Proofs.Ytmififfaljihgaa
