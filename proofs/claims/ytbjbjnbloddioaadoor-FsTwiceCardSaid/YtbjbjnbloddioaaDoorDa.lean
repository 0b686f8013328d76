/- SHA-256's words: rotations, steps, the table. -/
import Derived.Test.YtbjbjnbloddioaaDoorC
set_option linter.unusedVariables false
set_option linter.unusedSimpArgs false
namespace Go.Proofs.YtbjbjnbloddioaaDoor
open Go.RowKit

/-- A word turned: p = 2^s, q = 2^(32-s). -/
def rl (p q x : Int) : Int := bits .or .u32 (x * p % 4294967296) (x / q)
theorem rot7 (x : Int) (w : World) : Calls Tryd.prog 63 #[.int .u32 x, .int .i64 (-7)] w (fun e w' => e = .returned (.int .u32 (rl 33554432 128 x)) ∧ w = w') := by
  have hs : bits .and .u64 (IntKind.u64.wrap (-7)) 31 = 25 := by decide
  go_enter Tryd.func63, Tryd.ntmps63
  go_wp2
  go_ret
  exact ⟨rfl, rfl⟩
theorem rot18 (x : Int) (w : World) : Calls Tryd.prog 63 #[.int .u32 x, .int .i64 (-18)] w (fun e w' => e = .returned (.int .u32 (rl 16384 262144 x)) ∧ w = w') := by
  have hs : bits .and .u64 (IntKind.u64.wrap (-18)) 31 = 14 := by decide
  go_enter Tryd.func63, Tryd.ntmps63
  go_wp2
  go_ret
  exact ⟨rfl, rfl⟩
theorem rot17 (x : Int) (w : World) : Calls Tryd.prog 63 #[.int .u32 x, .int .i64 (-17)] w (fun e w' => e = .returned (.int .u32 (rl 32768 131072 x)) ∧ w = w') := by
  have hs : bits .and .u64 (IntKind.u64.wrap (-17)) 31 = 15 := by decide
  go_enter Tryd.func63, Tryd.ntmps63
  go_wp2
  go_ret
  exact ⟨rfl, rfl⟩
theorem rot19 (x : Int) (w : World) : Calls Tryd.prog 63 #[.int .u32 x, .int .i64 (-19)] w (fun e w' => e = .returned (.int .u32 (rl 8192 524288 x)) ∧ w = w') := by
  have hs : bits .and .u64 (IntKind.u64.wrap (-19)) 31 = 13 := by decide
  go_enter Tryd.func63, Tryd.ntmps63
  go_wp2
  go_ret
  exact ⟨rfl, rfl⟩
theorem rot6 (x : Int) (w : World) : Calls Tryd.prog 63 #[.int .u32 x, .int .i64 (-6)] w (fun e w' => e = .returned (.int .u32 (rl 67108864 64 x)) ∧ w = w') := by
  have hs : bits .and .u64 (IntKind.u64.wrap (-6)) 31 = 26 := by decide
  go_enter Tryd.func63, Tryd.ntmps63
  go_wp2
  go_ret
  exact ⟨rfl, rfl⟩
theorem rot11 (x : Int) (w : World) : Calls Tryd.prog 63 #[.int .u32 x, .int .i64 (-11)] w (fun e w' => e = .returned (.int .u32 (rl 2097152 2048 x)) ∧ w = w') := by
  have hs : bits .and .u64 (IntKind.u64.wrap (-11)) 31 = 21 := by decide
  go_enter Tryd.func63, Tryd.ntmps63
  go_wp2
  go_ret
  exact ⟨rfl, rfl⟩
theorem rot25 (x : Int) (w : World) : Calls Tryd.prog 63 #[.int .u32 x, .int .i64 (-25)] w (fun e w' => e = .returned (.int .u32 (rl 128 33554432 x)) ∧ w = w') := by
  have hs : bits .and .u64 (IntKind.u64.wrap (-25)) 31 = 7 := by decide
  go_enter Tryd.func63, Tryd.ntmps63
  go_wp2
  go_ret
  exact ⟨rfl, rfl⟩
theorem rot2 (x : Int) (w : World) : Calls Tryd.prog 63 #[.int .u32 x, .int .i64 (-2)] w (fun e w' => e = .returned (.int .u32 (rl 1073741824 4 x)) ∧ w = w') := by
  have hs : bits .and .u64 (IntKind.u64.wrap (-2)) 31 = 30 := by decide
  go_enter Tryd.func63, Tryd.ntmps63
  go_wp2
  go_ret
  exact ⟨rfl, rfl⟩
theorem rot13 (x : Int) (w : World) : Calls Tryd.prog 63 #[.int .u32 x, .int .i64 (-13)] w (fun e w' => e = .returned (.int .u32 (rl 524288 8192 x)) ∧ w = w') := by
  have hs : bits .and .u64 (IntKind.u64.wrap (-13)) 31 = 19 := by decide
  go_enter Tryd.func63, Tryd.ntmps63
  go_wp2
  go_ret
  exact ⟨rfl, rfl⟩
theorem rot22 (x : Int) (w : World) : Calls Tryd.prog 63 #[.int .u32 x, .int .i64 (-22)] w (fun e w' => e = .returned (.int .u32 (rl 1024 4194304 x)) ∧ w = w') := by
  have hs : bits .and .u64 (IntKind.u64.wrap (-22)) 31 = 10 := by decide
  go_enter Tryd.func63, Tryd.ntmps63
  go_wp2
  go_ret
  exact ⟨rfl, rfl⟩

def kTab : List Int := [4794697086780616226, 8158064640168781261, 13096744586834688815, 16840607885511220156, 4131703408338449720, 6480981068601479193, 10538285296894168987, 12329834152419229976, 15566598209576043074, 1334009975649890238, 2608012711638119052, 6128411473006802146, 8268148722764581231, 9286055187155687089, 11230858885718282805, 13951009754708518548, 16472876342353939154, 17275323862435702243, 1135362057144423861, 2597628984639134821, 3308224258029322869, 5365058923640841347, 6679025012923562964, 8573033837759648693, 10970295158949994411, 12119686244451234320, 12683024718118986047, 13788192230050041572, 14330467153632333762, 15395433587784984357, 489312712824947311, 1452737877330783856, 2861767655752347644, 3322285676063803686, 5560940570517711597, 5996557281743188959, 7280758554555802590, 8532644243296465576, 9350256976987008742, 10552545826968843579, 11727347734174303076, 12113106623233404929, 14000437183269869457, 14369950271660146224, 15101387698204529176, 15463397548674623760, 17586052441742319658, 1182934255886127544, 1847814050463011016, 2177327727835720531, 2830643537854262169, 3796741975233480872, 4115178125766777443, 5681478168544905931, 6601373596472566643, 7507060721942968483, 8399075790359081724, 8693463985226723168, 9568029438360202098, 10144078919501101548, 10430055236837252648, 11840083180663258601, 13761210420658862357, 14299343276471374635, 14566680578165727644, 15097957966210449927, 16922976911328602910, 17689382322260857208, 500013540394364858, 748580250866718886, 1242879168328830382, 1977374033974150939, 2944078676154940804, 3659926193048069267, 4368137639120453308, 4836135668995329356, 5532061633213252278, 6448918945643986474, 6902733635092675308, 7801388544844847127]
/-- The package's table, where it stands. -/
def Kg (w : World) : Prop := ∀ i, i < 80 → w.cell? ⟨0, i, none⟩ = some (.int .u64 (kTab.getD i 0))
theorem Kg.below {n : Nat} {w w' : World} (h : Kg w) (hb : Below n w w') (hn : 0 < n) : Kg w' := fun i hi => (hb.cell (p := ⟨0, i, none⟩) hn).trans (h i hi)
theorem Kg.pos {w : World} (h : Kg w) : 0 < w.heap.size := World.block_lt_of_cell? w _ (h 0 (by omega))

theorem run_index_arr {P : Program} (w : World) (t e : TypeId) (n : Nat) (cs : Array Value) (h : P.underlying t = some (.array n e)) (hsz : (P.info? e).map (·.size) = some 1) (hag : ∀ w, (isAgg e).run P w = .ok false w)
    (k : Nat) (hk : k < n) (v : Value) (hv : cs[k]? = some v) : (Instr.index t (.agg cs) (.int .i64 (k : Int))).run P w = .ok v w := by
  obtain ⟨i, hi, hs⟩ := Option.map_eq_some_iff.1 hsz
  have h1 : (0 : Int) ≤ (k : Int) ∧ (k : Int) < (n : Int) := by omega
  simp [Instr.index, asIntOf, run_underlying h, h1, sizeOf, typeInfo, hi, hs, part, hag, hv, Result.andThen]
  intro hle
  omega
end Go.Proofs.YtbjbjnbloddioaaDoor
