/- G2: texts of another seat, turned to this one. -/
import Derived.Test.YtmififfaljihgaaGreatG1
import Derived.Shelf.Lays
import Derived.Shelf.Lays2
import Derived.Shelf.Sort.AssemblyIn
import Derived.Sort.EveryDepth
import Derived.Shelf.Slices.CompactI
import Derived.Shelf.Slices.In.SortNone
set_option linter.unusedVariables false
set_option linter.unusedSimpArgs false
namespace Go.Proofs.YtmififfaljihgaaGreat
open Go Go.Ab Go.Shelf
def sortA_ren : Go.Shelf.Ren := ⟨fun | 189 => 118 | 125 => 122 | 257 => 121 | 128 => 132 | 129 => 133 | 294 => 123 | 295 => 124 | 296 => 125 | 297 => 126 | 298 => 127 | 299 => 128 | 216 => 129 | 300 => 130 | 301 => 131 | 328 => 134 | 329 => 135 | 330 => 136 | 331 => 137 | 332 => 138 | 215 => 139 | 343 => 140 | n => n, fun | 28 => 22 | 3 => 3 | 46 => 137 | 0 => 0 | 51 => 184 | 53 => 215 | 4 => 4 | 183 => 206 | 182 => 205 | 131 => 211 | 5 => 5 | 9 => 9 | 218 => 216 | 222 => 220 | 228 => 222 | 229 => 182 | n => n, fun | n => n⟩
theorem sortA : Go.Proofs.Lays.n189 Tryz.prog sortA_ren where
  mixed := by kernel_rfl
  f125 := Tryz.func122.trans (congrArg some (by kernel_rfl))
  f128 := Tryz.func132.trans (congrArg some (by kernel_rfl))
  f129 := Tryz.func133.trans (congrArg some (by kernel_rfl))
  f189 := Tryz.func118.trans (congrArg some (by kernel_rfl))
  f215 := Tryz.func139.trans (congrArg some (by kernel_rfl))
  f216 := Tryz.func129.trans (congrArg some (by kernel_rfl))
  f257 := Tryz.func121.trans (congrArg some (by kernel_rfl))
  f294 := Tryz.func123.trans (congrArg some (by kernel_rfl))
  f295 := Tryz.func124.trans (congrArg some (by kernel_rfl))
  f296 := Tryz.func125.trans (congrArg some (by kernel_rfl))
  f297 := Tryz.func126.trans (congrArg some (by kernel_rfl))
  f298 := Tryz.func127.trans (congrArg some (by kernel_rfl))
  f299 := Tryz.func128.trans (congrArg some (by kernel_rfl))
  f300 := Tryz.func130.trans (congrArg some (by kernel_rfl))
  f301 := Tryz.func131.trans (congrArg some (by kernel_rfl))
  f328 := Tryz.func134.trans (congrArg some (by kernel_rfl))
  f329 := Tryz.func135.trans (congrArg some (by kernel_rfl))
  f330 := Tryz.func136.trans (congrArg some (by kernel_rfl))
  f331 := Tryz.func137.trans (congrArg some (by kernel_rfl))
  f332 := Tryz.func138.trans (congrArg some (by kernel_rfl))
  f343 := Tryz.func140.trans (congrArg some (by kernel_rfl))
  t0 := Tryz.underlying0
  a0 := Tryz.isAgg0
  z0 := Tryz.sizeOf0
  v0 := Tryz.zeroValue0
  t3 := Tryz.underlying3
  a3 := Tryz.isAgg3
  z3 := Tryz.sizeOf3
  v3 := Tryz.zeroValue3
  t4 := Tryz.underlying4
  a4 := Tryz.isAgg4
  z4 := Tryz.sizeOf4
  v4 := Tryz.zeroValue4
  t5 := Tryz.underlying5
  a5 := Tryz.isAgg5
  z5 := Tryz.sizeOf5
  v5 := Tryz.zeroValue5
  t9 := Tryz.underlying9
  a9 := Tryz.isAgg9
  z9 := Tryz.sizeOf9
  v9 := Tryz.zeroValue9
  t28 := Tryz.underlying22
  a28 := Tryz.isAgg22
  z28 := Tryz.sizeOf22
  v28 := Tryz.zeroValue22
  t46 := Tryz.underlying137
  a46 := Tryz.isAgg137
  z46 := Tryz.sizeOf137
  v46 := Tryz.zeroValue137
  t51 := Tryz.underlying184
  a51 := Tryz.isAgg184
  z51 := Tryz.sizeOf184
  v51 := Tryz.zeroValue184
  t53 := Tryz.underlying215
  a53 := Tryz.isAgg215
  z53 := Tryz.sizeOf215
  v53 := Tryz.zeroValue215
  t131 := Tryz.underlying211
  a131 := Tryz.isAgg211
  z131 := Tryz.sizeOf211
  v131 := Tryz.zeroValue211
  t182 := Tryz.underlying205
  a182 := Tryz.isAgg205
  z182 := Tryz.sizeOf205
  v182 := Tryz.zeroValue205
  t183 := Tryz.underlying206
  a183 := Tryz.isAgg206
  z183 := Tryz.sizeOf206
  v183 := Tryz.zeroValue206
  t218 := Tryz.underlying216
  a218 := Tryz.isAgg216
  z218 := Tryz.sizeOf216
  v218 := Tryz.zeroValue216
  t222 := Tryz.underlying220
  a222 := Tryz.isAgg220
  z222 := Tryz.sizeOf220
  v222 := Tryz.zeroValue220
  t228 := Tryz.underlying222
  a228 := Tryz.isAgg222
  z228 := Tryz.sizeOf222
  v228 := Tryz.zeroValue222
  t229 := Tryz.underlying182
  a229 := Tryz.isAgg182
  z229 := Tryz.sizeOf182
  v229 := Tryz.zeroValue182
def keysA_ren : Go.Shelf.Ren := ⟨fun | 7 => 112 | 10 => 119 | n => n, fun | 23 => 158 | 26 => 3 | 3 => 197 | 28 => 194 | 0 => 0 | 27 => 193 | 33 => 77 | 4 => 4 | n => n, fun | n => n⟩
theorem keysA : Go.Proofs.SlLaysZI.n7 Tryz.prog keysA_ren where
  mixed := by kernel_rfl
  f7 := ⟨"maps.Keys[map[int]milepost/timer.wait,int,milepost/timer.wait]", by decide, Tryz.func112.trans (congrArg some (by kernel_rfl))⟩
  f10 := ⟨"maps.Keys[map[int]milepost/timer.wait,int,milepost/timer.wait]$1", by decide, Tryz.func119.trans (congrArg some (by kernel_rfl))⟩
  t0 := Tryz.underlying0
  a0 := Tryz.isAgg0
  z0 := Tryz.sizeOf0
  v0 := Tryz.zeroValue0
  t4 := Tryz.underlying4
  a4 := Tryz.isAgg4
  z4 := Tryz.sizeOf4
  v4 := Tryz.zeroValue4
  t23 := Tryz.underlying158
  a23 := Tryz.isAgg158
  z23 := Tryz.sizeOf158
  v23 := Tryz.zeroValue158
  t26 := Tryz.underlying3
  a26 := Tryz.isAgg3
  z26 := Tryz.sizeOf3
  v26 := Tryz.zeroValue3
  t27 := Tryz.underlying193
  a27 := Tryz.isAgg193
  z27 := Tryz.sizeOf193
  v27 := Tryz.zeroValue193
  t28 := Tryz.underlying194
  a28 := Tryz.isAgg194
  z28 := Tryz.sizeOf194
  v28 := Tryz.zeroValue194
  t33 := Tryz.underlying77
  a33 := Tryz.isAgg77
  z33 := Tryz.sizeOf77
  v33 := Tryz.zeroValue77
def keysB_ren : Go.Shelf.Ren := ⟨fun | 7 => 112 | 10 => 119 | n => n, fun | 23 => 158 | 26 => 3 | 3 => 197 | 28 => 194 | 0 => 0 | 27 => 193 | 33 => 77 | 4 => 4 | n => n, fun | n => n⟩
theorem keysB : Go.Proofs.SlLaysZI.n7 Tryz.prog keysB_ren where
  mixed := by kernel_rfl
  f7 := ⟨"maps.Keys[map[int]milepost/timer.wait,int,milepost/timer.wait]", by decide, Tryz.func112.trans (congrArg some (by kernel_rfl))⟩
  f10 := ⟨"maps.Keys[map[int]milepost/timer.wait,int,milepost/timer.wait]$1", by decide, Tryz.func119.trans (congrArg some (by kernel_rfl))⟩
  t0 := Tryz.underlying0
  a0 := Tryz.isAgg0
  z0 := Tryz.sizeOf0
  v0 := Tryz.zeroValue0
  t4 := Tryz.underlying4
  a4 := Tryz.isAgg4
  z4 := Tryz.sizeOf4
  v4 := Tryz.zeroValue4
  t23 := Tryz.underlying158
  a23 := Tryz.isAgg158
  z23 := Tryz.sizeOf158
  v23 := Tryz.zeroValue158
  t26 := Tryz.underlying3
  a26 := Tryz.isAgg3
  z26 := Tryz.sizeOf3
  v26 := Tryz.zeroValue3
  t27 := Tryz.underlying193
  a27 := Tryz.isAgg193
  z27 := Tryz.sizeOf193
  v27 := Tryz.zeroValue193
  t28 := Tryz.underlying194
  a28 := Tryz.isAgg194
  z28 := Tryz.sizeOf194
  v28 := Tryz.zeroValue194
  t33 := Tryz.underlying77
  a33 := Tryz.isAgg77
  z33 := Tryz.sizeOf77
  v33 := Tryz.zeroValue77
def srt_ren : Go.Shelf.Ren := ⟨fun | 6 => 111 | 8 => 117 | 9 => 118 | 11 => 120 | 13 => 122 | 12 => 121 | 23 => 132 | 24 => 133 | 14 => 123 | 15 => 124 | 16 => 125 | 17 => 126 | 18 => 127 | 19 => 128 | 20 => 129 | 21 => 130 | 22 => 131 | 25 => 134 | 26 => 135 | 27 => 136 | 28 => 137 | 29 => 138 | 30 => 139 | 31 => 140 | n => n, fun | 26 => 3 | 28 => 194 | 24 => 22 | 0 => 0 | 3 => 3 | 37 => 137 | 48 => 184 | 50 => 215 | 4 => 4 | 40 => 206 | 39 => 205 | 45 => 211 | 5 => 5 | 9 => 9 | 51 => 216 | 55 => 220 | 57 => 222 | 58 => 182 | 33 => 77 | n => n, fun | n => n⟩
theorem srt : Go.Proofs.SlLaysZI.n6 Tryz.prog srt_ren where
  mixed := by kernel_rfl
  f6 := ⟨"slices.Sorted[int]", by decide, Tryz.func111.trans (congrArg some (by kernel_rfl))⟩
  f8 := ⟨"slices.Collect[int]", by decide, Tryz.func117.trans (congrArg some (by kernel_rfl))⟩
  f11 := ⟨"slices.AppendSeq[[]int,int]", by decide, Tryz.func120.trans (congrArg some (by kernel_rfl))⟩
  t0 := Tryz.underlying0
  a0 := Tryz.isAgg0
  z0 := Tryz.sizeOf0
  v0 := Tryz.zeroValue0
  t24 := Tryz.underlying22
  a24 := Tryz.isAgg22
  z24 := Tryz.sizeOf22
  v24 := Tryz.zeroValue22
  t26 := Tryz.underlying3
  a26 := Tryz.isAgg3
  z26 := Tryz.sizeOf3
  v26 := Tryz.zeroValue3
  t28 := Tryz.underlying194
  a28 := Tryz.isAgg194
  z28 := Tryz.sizeOf194
  v28 := Tryz.zeroValue194
  i26 := by kernel_rfl
abbrev leZ : Int → Int → Bool := fun x y => decide (x ≤ y)
theorem callable {f : Nat} {fn : Func} {c : Code} (hf : Tryz.prog.funcs[f]? = some fn) (hb : fn.body = some c) (hname : (fn.name == "runtime.NumGoroutine") = false) : Callable Tryz.prog f := ⟨fn, hf, by rw [hb]; rfl, hname⟩
theorem keys67 (h : H) (i : Nat) : ACalls Tryz.prog 112 [.mp (some i)] h (fun v h' => v = .clz 119 h.next ∧ h' = h.push (.row true 1 [.mp (some i)])) :=
  keys_acalls keysA (callable Tryz.func112 rfl (by kernel_rfl)) h i
theorem sortsA (m : Nat) : AnyZI.SortsIn Tryz.prog srt_ren Fence.wide m :=
  ⟨fun blk off cap ss W hH hblk hsz => callsIn_wide.2 (calls_of_every_depth fun D => AnyS.slices_Sort_int_in sortA D blk off cap ss W hH hblk hsz),
   fun p cap W => callsIn_wide.2 (Any.slices_Sort_int_none sortA p cap W)⟩
theorem sorted66 {h : H} {f b i : Nat} {ob om : Bool} {ms : List (Int × V)} (hf : f = 119 ∨ f = 119) (hb : h.obj b = some (.row ob 1 [.mp (some i)])) (hi : h.obj i = some (.map om (mpE .i64 ms))) (hnd : (ms.map (·.1)).Nodup) (hr : ∀ p ∈ ms, IntKind.i64.min ≤ p.1 ∧ p.1 ≤ IntKind.i64.max) (hl : ms.length ≤ 1000000) :
    ACalls Tryz.prog 111 [.clz f b] h (fun v h' => ∃ q, v = .sl q ms.length ∧ NewSl h h' q ms.length 1 (ints .i64 ((ms.map (·.1)).mergeSort leZ)) ∧ Ab.Mod none_ h h') := by
  rcases hf with rfl | rfl
  · exact sorted_acalls srt (r2 := keysA_ren) { keysA with } (callable Tryz.func111 rfl (by kernel_rfl)) sortsA (enters_of Tryz.func118 (by kernel_rfl) rfl) (enters_of Tryz.func119 (by kernel_rfl) rfl) hb hi hnd hr hl
  · exact sorted_acalls srt (r2 := keysB_ren) { keysB with } (callable Tryz.func111 rfl (by kernel_rfl)) sortsA (enters_of Tryz.func118 (by kernel_rfl) rfl) (enters_of Tryz.func119 (by kernel_rfl) rfl) hb hi hnd hr hl
end Go.Proofs.YtmififfaljihgaaGreat
