/- Lists of a kind that were never kept (printed by wip/gen_apart.py). -/
import Derived.Test.YtmdidmllaldbaaaGreatBook
import Derived.Test.YtmdidmllaldbaaaGreatChecked
import Derived.BigQuiet
namespace Go.Proofs.YtmdidmllaldbaaaGreat
open Go.RowKit
set_option linter.unusedVariables false
section
variable {w : World} {B bn : Nat} {o : Nat → Tag} {cs : Array Value}
theorem stillTexts_nil (hB : BookAt w B 39 o bn cs) (hc : cs[0]? = some (.slice none 0 0)) :
    Calls Tryz.prog 132 #[.pointer (some ⟨bn, 0, none⟩)] w fun e w' => e = .returned (.bool true) ∧ w = w' := by
  have c0 : w.cell? ⟨bn, 0, none⟩ = some (.slice none 0 0) := by rw [blk_cell hB.1, hc]
  clear hB hc
  go_enter Tryz.func132, Tryz.ntmps132
  go_wp2_with fail
  go_loop [3] (fun i => i = .int .i64 0) (fun _ => 0)
  case atStart => exact rfl
  case round =>
    subst hrel
    go_wp2_with fail
    go_ret
    exact ⟨rfl, rfl⟩
theorem putTexts_nil (hB : BookAt w B 39 o bn cs) (hc : cs[0]? = some (.slice none 0 0)) :
    Calls Tryz.prog 145 #[.pointer (some ⟨bn, 0, none⟩)] w fun e w' => e = .returned (.tuple #[]) ∧ w = w' := by
  have c0 : w.cell? ⟨bn, 0, none⟩ = some (.slice none 0 0) := by rw [blk_cell hB.1, hc]
  clear hB hc
  go_enter Tryz.func145, Tryz.ntmps145
  go_wp2_with fail
  go_loop [2] (fun i => i = .int .i64 0) (fun _ => 0)
  case atStart => exact rfl
  case round =>
    subst hrel
    go_wp2_with fail
    go_end0
    exact ⟨rfl, rfl⟩
theorem growTexts_nil (hB : BookAt w B 39 o bn cs) (hc : cs[0]? = some (.slice none 0 0)) :
    Calls Tryz.prog 154 #[.pointer (some ⟨bn, 0, none⟩)] w fun e w' => e = .returned (.slice none 0 0) ∧ w = w' := by
  have c0 : w.cell? ⟨bn, 0, none⟩ = some (.slice none 0 0) := by rw [blk_cell hB.1, hc]
  clear hB hc
  go_enter Tryz.func154, Tryz.ntmps154
  go_wp2_with fail
  go_loop [3, 4] (fun l i => l = .slice none 0 0 ∧ i = .int .i64 0) (fun _ _ => 0)
  case atStart => exact ⟨rfl, rfl⟩
  case round =>
    obtain ⟨rfl, rfl⟩ := hrel
    go_wp2_with fail
    go_ret
    exact ⟨rfl, rfl⟩
theorem markedTexts_nil (W : World) :
    Calls Tryz.prog 165 #[.slice none 0 0] W fun e w' => e = .returned (.bool true) ∧ W = w' := by
  go_enter Tryz.func165, Tryz.ntmps165
  go_wp2_with fail
  go_loop [3] (fun i => i = .int .i64 0) (fun _ => 0)
  case atStart => exact rfl
  case round =>
    subst hrel
    go_wp2_with fail
    go_ret
    exact ⟨rfl, rfl⟩
theorem stillInts_nil (hB : BookAt w B 39 o bn cs) (hc : cs[2]? = some (.slice none 0 0)) :
    Calls Tryz.prog 133 #[.pointer (some ⟨bn, 0, none⟩)] w fun e w' => e = .returned (.bool true) ∧ w = w' := by
  have c0 : w.cell? ⟨bn, 2, none⟩ = some (.slice none 0 0) := by rw [blk_cell hB.1, hc]
  clear hB hc
  go_enter Tryz.func133, Tryz.ntmps133
  go_wp2_with fail
  go_loop [3] (fun i => i = .int .i64 0) (fun _ => 0)
  case atStart => exact rfl
  case round =>
    subst hrel
    go_wp2_with fail
    go_ret
    exact ⟨rfl, rfl⟩
theorem putInts_nil (hB : BookAt w B 39 o bn cs) (hc : cs[2]? = some (.slice none 0 0)) :
    Calls Tryz.prog 146 #[.pointer (some ⟨bn, 0, none⟩)] w fun e w' => e = .returned (.tuple #[]) ∧ w = w' := by
  have c0 : w.cell? ⟨bn, 2, none⟩ = some (.slice none 0 0) := by rw [blk_cell hB.1, hc]
  clear hB hc
  go_enter Tryz.func146, Tryz.ntmps146
  go_wp2_with fail
  go_loop [2] (fun i => i = .int .i64 0) (fun _ => 0)
  case atStart => exact rfl
  case round =>
    subst hrel
    go_wp2_with fail
    go_end0
    exact ⟨rfl, rfl⟩
theorem growInts_nil (hB : BookAt w B 39 o bn cs) (hc : cs[2]? = some (.slice none 0 0)) :
    Calls Tryz.prog 155 #[.pointer (some ⟨bn, 0, none⟩)] w fun e w' => e = .returned (.slice none 0 0) ∧ w = w' := by
  have c0 : w.cell? ⟨bn, 2, none⟩ = some (.slice none 0 0) := by rw [blk_cell hB.1, hc]
  clear hB hc
  go_enter Tryz.func155, Tryz.ntmps155
  go_wp2_with fail
  go_loop [3, 4] (fun l i => l = .slice none 0 0 ∧ i = .int .i64 0) (fun _ _ => 0)
  case atStart => exact ⟨rfl, rfl⟩
  case round =>
    obtain ⟨rfl, rfl⟩ := hrel
    go_wp2_with fail
    go_ret
    exact ⟨rfl, rfl⟩
theorem markedInts_nil (W : World) :
    Calls Tryz.prog 166 #[.slice none 0 0] W fun e w' => e = .returned (.bool true) ∧ W = w' := by
  go_enter Tryz.func166, Tryz.ntmps166
  go_wp2_with fail
  go_loop [3] (fun i => i = .int .i64 0) (fun _ => 0)
  case atStart => exact rfl
  case round =>
    subst hrel
    go_wp2_with fail
    go_ret
    exact ⟨rfl, rfl⟩
theorem stillItems_nil (hB : BookAt w B 39 o bn cs) (hc : cs[4]? = some (.slice none 0 0)) :
    Calls Tryz.prog 134 #[.pointer (some ⟨bn, 0, none⟩)] w fun e w' => e = .returned (.bool true) ∧ w = w' := by
  have c0 : w.cell? ⟨bn, 4, none⟩ = some (.slice none 0 0) := by rw [blk_cell hB.1, hc]
  clear hB hc
  go_enter Tryz.func134, Tryz.ntmps134
  go_wp2_with fail
  go_loop [3] (fun i => i = .int .i64 0) (fun _ => 0)
  case atStart => exact rfl
  case round =>
    subst hrel
    go_wp2_with fail
    go_ret
    exact ⟨rfl, rfl⟩
theorem putItems_nil (hB : BookAt w B 39 o bn cs) (hc : cs[4]? = some (.slice none 0 0)) :
    Calls Tryz.prog 147 #[.pointer (some ⟨bn, 0, none⟩)] w fun e w' => e = .returned (.tuple #[]) ∧ w = w' := by
  have c0 : w.cell? ⟨bn, 4, none⟩ = some (.slice none 0 0) := by rw [blk_cell hB.1, hc]
  clear hB hc
  go_enter Tryz.func147, Tryz.ntmps147
  go_wp2_with fail
  go_loop [2] (fun i => i = .int .i64 0) (fun _ => 0)
  case atStart => exact rfl
  case round =>
    subst hrel
    go_wp2_with fail
    go_end0
    exact ⟨rfl, rfl⟩
theorem growItems_nil (hB : BookAt w B 39 o bn cs) (hc : cs[4]? = some (.slice none 0 0)) :
    Calls Tryz.prog 156 #[.pointer (some ⟨bn, 0, none⟩)] w fun e w' => e = .returned (.slice none 0 0) ∧ w = w' := by
  have c0 : w.cell? ⟨bn, 4, none⟩ = some (.slice none 0 0) := by rw [blk_cell hB.1, hc]
  clear hB hc
  go_enter Tryz.func156, Tryz.ntmps156
  go_wp2_with fail
  go_loop [3, 4] (fun l i => l = .slice none 0 0 ∧ i = .int .i64 0) (fun _ _ => 0)
  case atStart => exact ⟨rfl, rfl⟩
  case round =>
    obtain ⟨rfl, rfl⟩ := hrel
    go_wp2_with fail
    go_ret
    exact ⟨rfl, rfl⟩
theorem markedItems_nil (W : World) :
    Calls Tryz.prog 167 #[.slice none 0 0] W fun e w' => e = .returned (.bool true) ∧ W = w' := by
  go_enter Tryz.func167, Tryz.ntmps167
  go_wp2_with fail
  go_loop [3] (fun i => i = .int .i64 0) (fun _ => 0)
  case atStart => exact rfl
  case round =>
    subst hrel
    go_wp2_with fail
    go_ret
    exact ⟨rfl, rfl⟩
theorem stillChildren_nil (hB : BookAt w B 39 o bn cs) (hc : cs[6]? = some (.slice none 0 0)) :
    Calls Tryz.prog 135 #[.pointer (some ⟨bn, 0, none⟩)] w fun e w' => e = .returned (.bool true) ∧ w = w' := by
  have c0 : w.cell? ⟨bn, 6, none⟩ = some (.slice none 0 0) := by rw [blk_cell hB.1, hc]
  clear hB hc
  go_enter Tryz.func135, Tryz.ntmps135
  go_wp2_with fail
  go_loop [3] (fun i => i = .int .i64 0) (fun _ => 0)
  case atStart => exact rfl
  case round =>
    subst hrel
    go_wp2_with fail
    go_ret
    exact ⟨rfl, rfl⟩
theorem putChildren_nil (hB : BookAt w B 39 o bn cs) (hc : cs[6]? = some (.slice none 0 0)) :
    Calls Tryz.prog 148 #[.pointer (some ⟨bn, 0, none⟩)] w fun e w' => e = .returned (.tuple #[]) ∧ w = w' := by
  have c0 : w.cell? ⟨bn, 6, none⟩ = some (.slice none 0 0) := by rw [blk_cell hB.1, hc]
  clear hB hc
  go_enter Tryz.func148, Tryz.ntmps148
  go_wp2_with fail
  go_loop [2] (fun i => i = .int .i64 0) (fun _ => 0)
  case atStart => exact rfl
  case round =>
    subst hrel
    go_wp2_with fail
    go_end0
    exact ⟨rfl, rfl⟩
theorem growChildren_nil (hB : BookAt w B 39 o bn cs) (hc : cs[6]? = some (.slice none 0 0)) :
    Calls Tryz.prog 157 #[.pointer (some ⟨bn, 0, none⟩)] w fun e w' => e = .returned (.slice none 0 0) ∧ w = w' := by
  have c0 : w.cell? ⟨bn, 6, none⟩ = some (.slice none 0 0) := by rw [blk_cell hB.1, hc]
  clear hB hc
  go_enter Tryz.func157, Tryz.ntmps157
  go_wp2_with fail
  go_loop [3, 4] (fun l i => l = .slice none 0 0 ∧ i = .int .i64 0) (fun _ _ => 0)
  case atStart => exact ⟨rfl, rfl⟩
  case round =>
    obtain ⟨rfl, rfl⟩ := hrel
    go_wp2_with fail
    go_ret
    exact ⟨rfl, rfl⟩
theorem markedChildren_nil (W : World) :
    Calls Tryz.prog 168 #[.slice none 0 0] W fun e w' => e = .returned (.bool true) ∧ W = w' := by
  go_enter Tryz.func168, Tryz.ntmps168
  go_wp2_with fail
  go_loop [3] (fun i => i = .int .i64 0) (fun _ => 0)
  case atStart => exact rfl
  case round =>
    subst hrel
    go_wp2_with fail
    go_ret
    exact ⟨rfl, rfl⟩
theorem stillPairs_nil (hB : BookAt w B 39 o bn cs) (hc : cs[8]? = some (.slice none 0 0)) :
    Calls Tryz.prog 136 #[.pointer (some ⟨bn, 0, none⟩)] w fun e w' => e = .returned (.bool true) ∧ w = w' := by
  have c0 : w.cell? ⟨bn, 8, none⟩ = some (.slice none 0 0) := by rw [blk_cell hB.1, hc]
  clear hB hc
  go_enter Tryz.func136, Tryz.ntmps136
  go_wp2_with fail
  go_loop [3] (fun i => i = .int .i64 0) (fun _ => 0)
  case atStart => exact rfl
  case round =>
    subst hrel
    go_wp2_with fail
    go_ret
    exact ⟨rfl, rfl⟩
theorem putPairs_nil (hB : BookAt w B 39 o bn cs) (hc : cs[8]? = some (.slice none 0 0)) :
    Calls Tryz.prog 149 #[.pointer (some ⟨bn, 0, none⟩)] w fun e w' => e = .returned (.tuple #[]) ∧ w = w' := by
  have c0 : w.cell? ⟨bn, 8, none⟩ = some (.slice none 0 0) := by rw [blk_cell hB.1, hc]
  clear hB hc
  go_enter Tryz.func149, Tryz.ntmps149
  go_wp2_with fail
  go_loop [2] (fun i => i = .int .i64 0) (fun _ => 0)
  case atStart => exact rfl
  case round =>
    subst hrel
    go_wp2_with fail
    go_end0
    exact ⟨rfl, rfl⟩
theorem growPairs_nil (hB : BookAt w B 39 o bn cs) (hc : cs[8]? = some (.slice none 0 0)) :
    Calls Tryz.prog 158 #[.pointer (some ⟨bn, 0, none⟩)] w fun e w' => e = .returned (.slice none 0 0) ∧ w = w' := by
  have c0 : w.cell? ⟨bn, 8, none⟩ = some (.slice none 0 0) := by rw [blk_cell hB.1, hc]
  clear hB hc
  go_enter Tryz.func158, Tryz.ntmps158
  go_wp2_with fail
  go_loop [3, 4] (fun l i => l = .slice none 0 0 ∧ i = .int .i64 0) (fun _ _ => 0)
  case atStart => exact ⟨rfl, rfl⟩
  case round =>
    obtain ⟨rfl, rfl⟩ := hrel
    go_wp2_with fail
    go_ret
    exact ⟨rfl, rfl⟩
theorem markedPairs_nil (W : World) :
    Calls Tryz.prog 169 #[.slice none 0 0] W fun e w' => e = .returned (.bool true) ∧ W = w' := by
  go_enter Tryz.func169, Tryz.ntmps169
  go_wp2_with fail
  go_loop [3] (fun i => i = .int .i64 0) (fun _ => 0)
  case atStart => exact rfl
  case round =>
    subst hrel
    go_wp2_with fail
    go_ret
    exact ⟨rfl, rfl⟩
theorem stillEntries_nil (hB : BookAt w B 39 o bn cs) (hc : cs[10]? = some (.slice none 0 0)) :
    Calls Tryz.prog 137 #[.pointer (some ⟨bn, 0, none⟩)] w fun e w' => e = .returned (.bool true) ∧ w = w' := by
  have c0 : w.cell? ⟨bn, 10, none⟩ = some (.slice none 0 0) := by rw [blk_cell hB.1, hc]
  clear hB hc
  go_enter Tryz.func137, Tryz.ntmps137
  go_wp2_with fail
  go_loop [3] (fun i => i = .int .i64 0) (fun _ => 0)
  case atStart => exact rfl
  case round =>
    subst hrel
    go_wp2_with fail
    go_ret
    exact ⟨rfl, rfl⟩
theorem putEntries_nil (hB : BookAt w B 39 o bn cs) (hc : cs[10]? = some (.slice none 0 0)) :
    Calls Tryz.prog 150 #[.pointer (some ⟨bn, 0, none⟩)] w fun e w' => e = .returned (.tuple #[]) ∧ w = w' := by
  have c0 : w.cell? ⟨bn, 10, none⟩ = some (.slice none 0 0) := by rw [blk_cell hB.1, hc]
  clear hB hc
  go_enter Tryz.func150, Tryz.ntmps150
  go_wp2_with fail
  go_loop [2] (fun i => i = .int .i64 0) (fun _ => 0)
  case atStart => exact rfl
  case round =>
    subst hrel
    go_wp2_with fail
    go_end0
    exact ⟨rfl, rfl⟩
theorem growEntries_nil (hB : BookAt w B 39 o bn cs) (hc : cs[10]? = some (.slice none 0 0)) :
    Calls Tryz.prog 159 #[.pointer (some ⟨bn, 0, none⟩)] w fun e w' => e = .returned (.slice none 0 0) ∧ w = w' := by
  have c0 : w.cell? ⟨bn, 10, none⟩ = some (.slice none 0 0) := by rw [blk_cell hB.1, hc]
  clear hB hc
  go_enter Tryz.func159, Tryz.ntmps159
  go_wp2_with fail
  go_loop [3, 4] (fun l i => l = .slice none 0 0 ∧ i = .int .i64 0) (fun _ _ => 0)
  case atStart => exact ⟨rfl, rfl⟩
  case round =>
    obtain ⟨rfl, rfl⟩ := hrel
    go_wp2_with fail
    go_ret
    exact ⟨rfl, rfl⟩
theorem markedEntries_nil (W : World) :
    Calls Tryz.prog 170 #[.slice none 0 0] W fun e w' => e = .returned (.bool true) ∧ W = w' := by
  go_enter Tryz.func170, Tryz.ntmps170
  go_wp2_with fail
  go_loop [3] (fun i => i = .int .i64 0) (fun _ => 0)
  case atStart => exact rfl
  case round =>
    subst hrel
    go_wp2_with fail
    go_ret
    exact ⟨rfl, rfl⟩
theorem stillMsgs_nil (hB : BookAt w B 39 o bn cs) (hc : cs[12]? = some (.slice none 0 0)) :
    Calls Tryz.prog 138 #[.pointer (some ⟨bn, 0, none⟩)] w fun e w' => e = .returned (.bool true) ∧ w = w' := by
  have c0 : w.cell? ⟨bn, 12, none⟩ = some (.slice none 0 0) := by rw [blk_cell hB.1, hc]
  clear hB hc
  go_enter Tryz.func138, Tryz.ntmps138
  go_wp2_with fail
  go_loop [3] (fun i => i = .int .i64 0) (fun _ => 0)
  case atStart => exact rfl
  case round =>
    subst hrel
    go_wp2_with fail
    go_ret
    exact ⟨rfl, rfl⟩
theorem putMsgs_nil (hB : BookAt w B 39 o bn cs) (hc : cs[12]? = some (.slice none 0 0)) :
    Calls Tryz.prog 143 #[.pointer (some ⟨bn, 0, none⟩)] w fun e w' => e = .returned (.tuple #[]) ∧ w = w' := by
  have c0 : w.cell? ⟨bn, 12, none⟩ = some (.slice none 0 0) := by rw [blk_cell hB.1, hc]
  clear hB hc
  go_enter Tryz.func143, Tryz.ntmps143
  go_wp2_with fail
  go_loop [2] (fun i => i = .int .i64 0) (fun _ => 0)
  case atStart => exact rfl
  case round =>
    subst hrel
    go_wp2_with fail
    go_end0
    exact ⟨rfl, rfl⟩
theorem growMsgs_nil (hB : BookAt w B 39 o bn cs) (hc : cs[12]? = some (.slice none 0 0)) :
    Calls Tryz.prog 160 #[.pointer (some ⟨bn, 0, none⟩)] w fun e w' => e = .returned (.slice none 0 0) ∧ w = w' := by
  have c0 : w.cell? ⟨bn, 12, none⟩ = some (.slice none 0 0) := by rw [blk_cell hB.1, hc]
  clear hB hc
  go_enter Tryz.func160, Tryz.ntmps160
  go_wp2_with fail
  go_loop [3, 4] (fun l i => l = .slice none 0 0 ∧ i = .int .i64 0) (fun _ _ => 0)
  case atStart => exact ⟨rfl, rfl⟩
  case round =>
    obtain ⟨rfl, rfl⟩ := hrel
    go_wp2_with fail
    go_ret
    exact ⟨rfl, rfl⟩
theorem markedMsgs_nil (W : World) :
    Calls Tryz.prog 171 #[.slice none 0 0] W fun e w' => e = .returned (.bool true) ∧ W = w' := by
  go_enter Tryz.func171, Tryz.ntmps171
  go_wp2_with fail
  go_loop [3] (fun i => i = .int .i64 0) (fun _ => 0)
  case atStart => exact rfl
  case round =>
    subst hrel
    go_wp2_with fail
    go_ret
    exact ⟨rfl, rfl⟩
theorem stillDues_nil (hB : BookAt w B 39 o bn cs) (hc : cs[14]? = some (.slice none 0 0)) :
    Calls Tryz.prog 139 #[.pointer (some ⟨bn, 0, none⟩)] w fun e w' => e = .returned (.bool true) ∧ w = w' := by
  have c0 : w.cell? ⟨bn, 14, none⟩ = some (.slice none 0 0) := by rw [blk_cell hB.1, hc]
  clear hB hc
  go_enter Tryz.func139, Tryz.ntmps139
  go_wp2_with fail
  go_loop [3] (fun i => i = .int .i64 0) (fun _ => 0)
  case atStart => exact rfl
  case round =>
    subst hrel
    go_wp2_with fail
    go_ret
    exact ⟨rfl, rfl⟩
theorem putDues_nil (hB : BookAt w B 39 o bn cs) (hc : cs[14]? = some (.slice none 0 0)) :
    Calls Tryz.prog 151 #[.pointer (some ⟨bn, 0, none⟩)] w fun e w' => e = .returned (.tuple #[]) ∧ w = w' := by
  have c0 : w.cell? ⟨bn, 14, none⟩ = some (.slice none 0 0) := by rw [blk_cell hB.1, hc]
  clear hB hc
  go_enter Tryz.func151, Tryz.ntmps151
  go_wp2_with fail
  go_loop [2] (fun i => i = .int .i64 0) (fun _ => 0)
  case atStart => exact rfl
  case round =>
    subst hrel
    go_wp2_with fail
    go_end0
    exact ⟨rfl, rfl⟩
theorem growDues_nil (hB : BookAt w B 39 o bn cs) (hc : cs[14]? = some (.slice none 0 0)) :
    Calls Tryz.prog 161 #[.pointer (some ⟨bn, 0, none⟩)] w fun e w' => e = .returned (.slice none 0 0) ∧ w = w' := by
  have c0 : w.cell? ⟨bn, 14, none⟩ = some (.slice none 0 0) := by rw [blk_cell hB.1, hc]
  clear hB hc
  go_enter Tryz.func161, Tryz.ntmps161
  go_wp2_with fail
  go_loop [3, 4] (fun l i => l = .slice none 0 0 ∧ i = .int .i64 0) (fun _ _ => 0)
  case atStart => exact ⟨rfl, rfl⟩
  case round =>
    obtain ⟨rfl, rfl⟩ := hrel
    go_wp2_with fail
    go_ret
    exact ⟨rfl, rfl⟩
theorem markedDues_nil (W : World) :
    Calls Tryz.prog 172 #[.slice none 0 0] W fun e w' => e = .returned (.bool true) ∧ W = w' := by
  go_enter Tryz.func172, Tryz.ntmps172
  go_wp2_with fail
  go_loop [3] (fun i => i = .int .i64 0) (fun _ => 0)
  case atStart => exact rfl
  case round =>
    subst hrel
    go_wp2_with fail
    go_ret
    exact ⟨rfl, rfl⟩
theorem stillPackets_nil (hB : BookAt w B 39 o bn cs) (hc : cs[16]? = some (.slice none 0 0)) :
    Calls Tryz.prog 140 #[.pointer (some ⟨bn, 0, none⟩)] w fun e w' => e = .returned (.bool true) ∧ w = w' := by
  have c0 : w.cell? ⟨bn, 16, none⟩ = some (.slice none 0 0) := by rw [blk_cell hB.1, hc]
  clear hB hc
  go_enter Tryz.func140, Tryz.ntmps140
  go_wp2_with fail
  go_loop [3] (fun i => i = .int .i64 0) (fun _ => 0)
  case atStart => exact rfl
  case round =>
    subst hrel
    go_wp2_with fail
    go_ret
    exact ⟨rfl, rfl⟩
theorem putPackets_nil (hB : BookAt w B 39 o bn cs) (hc : cs[16]? = some (.slice none 0 0)) :
    Calls Tryz.prog 152 #[.pointer (some ⟨bn, 0, none⟩)] w fun e w' => e = .returned (.tuple #[]) ∧ w = w' := by
  have c0 : w.cell? ⟨bn, 16, none⟩ = some (.slice none 0 0) := by rw [blk_cell hB.1, hc]
  clear hB hc
  go_enter Tryz.func152, Tryz.ntmps152
  go_wp2_with fail
  go_loop [2] (fun i => i = .int .i64 0) (fun _ => 0)
  case atStart => exact rfl
  case round =>
    subst hrel
    go_wp2_with fail
    go_end0
    exact ⟨rfl, rfl⟩
theorem growPackets_nil (hB : BookAt w B 39 o bn cs) (hc : cs[16]? = some (.slice none 0 0)) :
    Calls Tryz.prog 162 #[.pointer (some ⟨bn, 0, none⟩)] w fun e w' => e = .returned (.slice none 0 0) ∧ w = w' := by
  have c0 : w.cell? ⟨bn, 16, none⟩ = some (.slice none 0 0) := by rw [blk_cell hB.1, hc]
  clear hB hc
  go_enter Tryz.func162, Tryz.ntmps162
  go_wp2_with fail
  go_loop [3, 4] (fun l i => l = .slice none 0 0 ∧ i = .int .i64 0) (fun _ _ => 0)
  case atStart => exact ⟨rfl, rfl⟩
  case round =>
    obtain ⟨rfl, rfl⟩ := hrel
    go_wp2_with fail
    go_ret
    exact ⟨rfl, rfl⟩
theorem markedPackets_nil (W : World) :
    Calls Tryz.prog 173 #[.slice none 0 0] W fun e w' => e = .returned (.bool true) ∧ W = w' := by
  go_enter Tryz.func173, Tryz.ntmps173
  go_wp2_with fail
  go_loop [3] (fun i => i = .int .i64 0) (fun _ => 0)
  case atStart => exact rfl
  case round =>
    subst hrel
    go_wp2_with fail
    go_ret
    exact ⟨rfl, rfl⟩
theorem stillEvents_nil (hB : BookAt w B 39 o bn cs) (hc : cs[18]? = some (.slice none 0 0)) :
    Calls Tryz.prog 141 #[.pointer (some ⟨bn, 0, none⟩)] w fun e w' => e = .returned (.bool true) ∧ w = w' := by
  have c0 : w.cell? ⟨bn, 18, none⟩ = some (.slice none 0 0) := by rw [blk_cell hB.1, hc]
  clear hB hc
  go_enter Tryz.func141, Tryz.ntmps141
  go_wp2_with fail
  go_loop [3] (fun i => i = .int .i64 0) (fun _ => 0)
  case atStart => exact rfl
  case round =>
    subst hrel
    go_wp2_with fail
    go_ret
    exact ⟨rfl, rfl⟩
theorem putEvents_nil (hB : BookAt w B 39 o bn cs) (hc : cs[18]? = some (.slice none 0 0)) :
    Calls Tryz.prog 153 #[.pointer (some ⟨bn, 0, none⟩)] w fun e w' => e = .returned (.tuple #[]) ∧ w = w' := by
  have c0 : w.cell? ⟨bn, 18, none⟩ = some (.slice none 0 0) := by rw [blk_cell hB.1, hc]
  clear hB hc
  go_enter Tryz.func153, Tryz.ntmps153
  go_wp2_with fail
  go_loop [2] (fun i => i = .int .i64 0) (fun _ => 0)
  case atStart => exact rfl
  case round =>
    subst hrel
    go_wp2_with fail
    go_end0
    exact ⟨rfl, rfl⟩
theorem growEvents_nil (hB : BookAt w B 39 o bn cs) (hc : cs[18]? = some (.slice none 0 0)) :
    Calls Tryz.prog 163 #[.pointer (some ⟨bn, 0, none⟩)] w fun e w' => e = .returned (.slice none 0 0) ∧ w = w' := by
  have c0 : w.cell? ⟨bn, 18, none⟩ = some (.slice none 0 0) := by rw [blk_cell hB.1, hc]
  clear hB hc
  go_enter Tryz.func163, Tryz.ntmps163
  go_wp2_with fail
  go_loop [3, 4] (fun l i => l = .slice none 0 0 ∧ i = .int .i64 0) (fun _ _ => 0)
  case atStart => exact ⟨rfl, rfl⟩
  case round =>
    obtain ⟨rfl, rfl⟩ := hrel
    go_wp2_with fail
    go_ret
    exact ⟨rfl, rfl⟩
theorem markedEvents_nil (W : World) :
    Calls Tryz.prog 174 #[.slice none 0 0] W fun e w' => e = .returned (.bool true) ∧ W = w' := by
  go_enter Tryz.func174, Tryz.ntmps174
  go_wp2_with fail
  go_loop [3] (fun i => i = .int .i64 0) (fun _ => 0)
  case atStart => exact rfl
  case round =>
    subst hrel
    go_wp2_with fail
    go_ret
    exact ⟨rfl, rfl⟩
theorem stillSteps_nil (hB : BookAt w B 39 o bn cs) (hc : cs[20]? = some (.slice none 0 0)) :
    Calls Tryz.prog 142 #[.pointer (some ⟨bn, 0, none⟩)] w fun e w' => e = .returned (.bool true) ∧ w = w' := by
  have c0 : w.cell? ⟨bn, 20, none⟩ = some (.slice none 0 0) := by rw [blk_cell hB.1, hc]
  clear hB hc
  go_enter Tryz.func142, Tryz.ntmps142
  go_wp2_with fail
  go_loop [3] (fun i => i = .int .i64 0) (fun _ => 0)
  case atStart => exact rfl
  case round =>
    subst hrel
    go_wp2_with fail
    go_ret
    exact ⟨rfl, rfl⟩
theorem putSteps_nil (hB : BookAt w B 39 o bn cs) (hc : cs[20]? = some (.slice none 0 0)) :
    Calls Tryz.prog 144 #[.pointer (some ⟨bn, 0, none⟩)] w fun e w' => e = .returned (.tuple #[]) ∧ w = w' := by
  have c0 : w.cell? ⟨bn, 20, none⟩ = some (.slice none 0 0) := by rw [blk_cell hB.1, hc]
  clear hB hc
  go_enter Tryz.func144, Tryz.ntmps144
  go_wp2_with fail
  go_loop [2] (fun i => i = .int .i64 0) (fun _ => 0)
  case atStart => exact rfl
  case round =>
    subst hrel
    go_wp2_with fail
    go_end0
    exact ⟨rfl, rfl⟩
theorem growSteps_nil (hB : BookAt w B 39 o bn cs) (hc : cs[20]? = some (.slice none 0 0)) :
    Calls Tryz.prog 164 #[.pointer (some ⟨bn, 0, none⟩)] w fun e w' => e = .returned (.slice none 0 0) ∧ w = w' := by
  have c0 : w.cell? ⟨bn, 20, none⟩ = some (.slice none 0 0) := by rw [blk_cell hB.1, hc]
  clear hB hc
  go_enter Tryz.func164, Tryz.ntmps164
  go_wp2_with fail
  go_loop [3, 4] (fun l i => l = .slice none 0 0 ∧ i = .int .i64 0) (fun _ _ => 0)
  case atStart => exact ⟨rfl, rfl⟩
  case round =>
    obtain ⟨rfl, rfl⟩ := hrel
    go_wp2_with fail
    go_ret
    exact ⟨rfl, rfl⟩
theorem markedSteps_nil (W : World) :
    Calls Tryz.prog 175 #[.slice none 0 0] W fun e w' => e = .returned (.bool true) ∧ W = w' := by
  go_enter Tryz.func175, Tryz.ntmps175
  go_wp2_with fail
  go_loop [3] (fun i => i = .int .i64 0) (fun _ => 0)
  case atStart => exact rfl
  case round =>
    subst hrel
    go_wp2_with fail
    go_ret
    exact ⟨rfl, rfl⟩
end
end Go.Proofs.YtmdidmllaldbaaaGreat
