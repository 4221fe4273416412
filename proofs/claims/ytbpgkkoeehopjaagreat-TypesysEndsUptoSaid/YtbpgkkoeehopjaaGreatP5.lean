/- Part 5 of 18 of a proof: see the last part. -/
import Derived.Test.YtbpgkkoeehopjaaGreatP4
set_option linter.unusedVariables false
set_option linter.unusedSimpArgs false
namespace Go.Proofs.YtbpgkkoeehopjaaGreat.hp
open Go.RowKit
instance : Zr Tryz.prog 33 [.bool false, .bool false, .string ⟨#[]⟩] := ⟨by kernel_rfl⟩
instance : Zr Tryz.prog 41 [.int .i64 0, .int .i64 0] := ⟨by kernel_rfl⟩
instance : Zr Tryz.prog 43 [.int .i64 0, .bool false, .bool false, .bool false, .string ⟨#[]⟩, .string ⟨#[]⟩, .slice none 0 0, .slice none 0 0, .slice none 0 0, .slice none 0 0, .slice none 0 0, .slice none 0 0, .slice none 0 0, .bool false, .slice none 0 0, .int .i64 0, .int .i64 0] := ⟨by kernel_rfl⟩
instance : Zr Tryz.prog 50 [.string ⟨#[]⟩, .string ⟨#[]⟩] := ⟨by kernel_rfl⟩
instance : Zr Tryz.prog 52 [.bool false, .bool false, .string ⟨#[]⟩, .string ⟨#[]⟩, .slice none 0 0, .string ⟨#[]⟩, .string ⟨#[]⟩, .slice none 0 0, .int .i64 0, .int .i64 0] := ⟨by kernel_rfl⟩
instance : Zr Tryz.prog 83 [.int .i64 0, .slice none 0 0, .slice none 0 0] := ⟨by kernel_rfl⟩
instance : Zr Tryz.prog 113 [.string ⟨#[]⟩, .int .i64 0, .int .i64 0] := ⟨by kernel_rfl⟩
instance : Zr Tryz.prog 121 [.int .i64 0, .string ⟨#[]⟩, .bool false, .slice none 0 0, .slice none 0 0, .int .i64 0, .int .i64 0] := ⟨by kernel_rfl⟩
instance : Zr Tryz.prog 123 [.bool false, .bool false, .string ⟨#[]⟩, .string ⟨#[]⟩, .string ⟨#[]⟩, .string ⟨#[]⟩, .bool false, .int .i64 0, .string ⟨#[]⟩, .bool false, .slice none 0 0, .slice none 0 0, .int .i64 0, .int .i64 0, .slice none 0 0, .int .i64 0, .int .i64 0] := ⟨by kernel_rfl⟩
instance : Zr Tryz.prog 133 [.bool false, .bool false, .string ⟨#[]⟩, .string ⟨#[]⟩, .slice none 0 0, .int .i64 0, .int .i64 0] := ⟨by kernel_rfl⟩
instance : Zr Tryz.prog 148 [.int .i64 0, .int .i64 0, .int .i64 0, .int .i64 0, .int .i64 0, .string ⟨#[]⟩, .string ⟨#[]⟩] := ⟨by kernel_rfl⟩
instance : Zr Tryz.prog 181 [.string ⟨#[]⟩, .slice none 0 0, .int .i64 0, .int .i64 0] := ⟨by kernel_rfl⟩
instance : Zr Tryz.prog 185 [.string ⟨#[]⟩, .int .i64 0, .string ⟨#[]⟩, .bool false, .slice none 0 0, .slice none 0 0, .int .i64 0, .int .i64 0, .int .i64 0, .int .i64 0] := ⟨by kernel_rfl⟩
instance : Zr Tryz.prog 219 [.string ⟨#[]⟩, .int .i64 0, .string ⟨#[]⟩, .bool false, .slice none 0 0, .slice none 0 0, .int .i64 0, .int .i64 0, .int .i64 0, .int .i64 0] := ⟨by kernel_rfl⟩
instance : Sc Tryz.prog 3 := ⟨⟨_, Tryz.underlying3, rfl⟩⟩
instance : Sc Tryz.prog 4 := ⟨⟨_, Tryz.underlying4, rfl⟩⟩
instance : Sc Tryz.prog 9 := ⟨⟨_, Tryz.underlying9, rfl⟩⟩
instance : Sc Tryz.prog 31 := ⟨⟨_, Tryz.underlying31, rfl⟩⟩
instance : Rw Tryz.prog 33 3 := ⟨⟨_, Tryz.underlying33, rfl⟩, by kernel_rfl⟩
instance : Sc Tryz.prog 34 := ⟨⟨_, Tryz.underlying34, rfl⟩⟩
instance : Sc Tryz.prog 35 := ⟨⟨_, Tryz.underlying35, rfl⟩⟩
instance : Sc Tryz.prog 36 := ⟨⟨_, Tryz.underlying36, rfl⟩⟩
instance : Sc Tryz.prog 37 := ⟨⟨_, Tryz.underlying37, rfl⟩⟩
instance : Sc Tryz.prog 38 := ⟨⟨_, Tryz.underlying38, rfl⟩⟩
instance : Sc Tryz.prog 39 := ⟨⟨_, Tryz.underlying39, rfl⟩⟩
instance : Rw Tryz.prog 41 2 := ⟨⟨_, Tryz.underlying41, rfl⟩, by kernel_rfl⟩
instance : Rw Tryz.prog 43 17 := ⟨⟨_, Tryz.underlying43, rfl⟩, by kernel_rfl⟩
instance : Rw Tryz.prog 50 2 := ⟨⟨_, Tryz.underlying50, rfl⟩, by kernel_rfl⟩
instance : Rw Tryz.prog 52 10 := ⟨⟨_, Tryz.underlying52, rfl⟩, by kernel_rfl⟩
instance : Sc Tryz.prog 79 := ⟨⟨_, Tryz.underlying79, rfl⟩⟩
instance : Rw Tryz.prog 83 3 := ⟨⟨_, Tryz.underlying83, rfl⟩, by kernel_rfl⟩
instance : Rw Tryz.prog 113 3 := ⟨⟨_, Tryz.underlying113, rfl⟩, by kernel_rfl⟩
instance : Sc Tryz.prog 118 := ⟨⟨_, Tryz.underlying118, rfl⟩⟩
instance : Sc Tryz.prog 119 := ⟨⟨_, Tryz.underlying119, rfl⟩⟩
instance : Rw Tryz.prog 121 7 := ⟨⟨_, Tryz.underlying121, rfl⟩, by kernel_rfl⟩
instance : Rw Tryz.prog 123 17 := ⟨⟨_, Tryz.underlying123, rfl⟩, by kernel_rfl⟩
instance : Rw Tryz.prog 133 7 := ⟨⟨_, Tryz.underlying133, rfl⟩, by kernel_rfl⟩
instance : Sc Tryz.prog 137 := ⟨⟨_, Tryz.underlying137, rfl⟩⟩
instance : Rw Tryz.prog 145 2 := ⟨⟨_, Tryz.underlying145, rfl⟩, by kernel_rfl⟩
instance : Sc Tryz.prog 146 := ⟨⟨_, Tryz.underlying146, rfl⟩⟩
instance : Rw Tryz.prog 148 7 := ⟨⟨_, Tryz.underlying148, rfl⟩, by kernel_rfl⟩
instance : Sc Tryz.prog 179 := ⟨⟨_, Tryz.underlying179, rfl⟩⟩
instance : Rw Tryz.prog 181 4 := ⟨⟨_, Tryz.underlying181, rfl⟩, by kernel_rfl⟩
instance : Rw Tryz.prog 185 10 := ⟨⟨_, Tryz.underlying185, rfl⟩, by kernel_rfl⟩
instance : Rw Tryz.prog 219 10 := ⟨⟨_, Tryz.underlying219, rfl⟩, by kernel_rfl⟩
instance : Sli Tryz.prog 22 43 17 272 := ⟨sli Tryz.underlying22 (z := .agg #[.int .i64 0, .bool false, .bool false, .bool false, .string ⟨#[]⟩, .string ⟨#[]⟩, .slice none 0 0, .slice none 0 0, .slice none 0 0, .slice none 0 0, .slice none 0 0, .slice none 0 0, .slice none 0 0, .bool false, .slice none 0 0, .int .i64 0, .int .i64 0]) (by kernel_rfl)⟩
instance : Sli Tryz.prog 34 113 3 32 := ⟨sli Tryz.underlying34 (z := .agg #[.string ⟨#[]⟩, .int .i64 0, .int .i64 0]) (by kernel_rfl)⟩
instance : Sli Tryz.prog 35 181 4 56 := ⟨sli Tryz.underlying35 (z := .agg #[.string ⟨#[]⟩, .slice none 0 0, .int .i64 0, .int .i64 0]) (by kernel_rfl)⟩
instance : Sli Tryz.prog 36 52 10 136 := ⟨sli Tryz.underlying36 (z := .agg #[.bool false, .bool false, .string ⟨#[]⟩, .string ⟨#[]⟩, .slice none 0 0, .string ⟨#[]⟩, .string ⟨#[]⟩, .slice none 0 0, .int .i64 0, .int .i64 0]) (by kernel_rfl)⟩
instance : Sli Tryz.prog 37 123 17 216 := ⟨sli Tryz.underlying37 (z := .agg #[.bool false, .bool false, .string ⟨#[]⟩, .string ⟨#[]⟩, .string ⟨#[]⟩, .string ⟨#[]⟩, .bool false, .int .i64 0, .string ⟨#[]⟩, .bool false, .slice none 0 0, .slice none 0 0, .int .i64 0, .int .i64 0, .slice none 0 0, .int .i64 0, .int .i64 0]) (by kernel_rfl)⟩
instance : Sli Tryz.prog 38 133 7 80 := ⟨sli Tryz.underlying38 (z := .agg #[.bool false, .bool false, .string ⟨#[]⟩, .string ⟨#[]⟩, .slice none 0 0, .int .i64 0, .int .i64 0]) (by kernel_rfl)⟩
instance : Sli Tryz.prog 39 100 4 40 := ⟨sli Tryz.underlying39 (z := .agg #[.int .i64 0, .string ⟨#[]⟩, .int .i64 0, .int .i64 0]) (by kernel_rfl)⟩
instance : Sli Tryz.prog 118 121 7 96 := ⟨sli Tryz.underlying118 (z := .agg #[.int .i64 0, .string ⟨#[]⟩, .bool false, .slice none 0 0, .slice none 0 0, .int .i64 0, .int .i64 0]) (by kernel_rfl)⟩
instance : Sli Tryz.prog 119 219 10 128 := ⟨sli Tryz.underlying119 (z := .agg #[.string ⟨#[]⟩, .int .i64 0, .string ⟨#[]⟩, .bool false, .slice none 0 0, .slice none 0 0, .int .i64 0, .int .i64 0, .int .i64 0, .int .i64 0]) (by kernel_rfl)⟩
instance : Sli Tryz.prog 179 185 10 128 := ⟨sli Tryz.underlying179 (z := .agg #[.string ⟨#[]⟩, .int .i64 0, .string ⟨#[]⟩, .bool false, .slice none 0 0, .slice none 0 0, .int .i64 0, .int .i64 0, .int .i64 0, .int .i64 0]) (by kernel_rfl)⟩
end Go.Proofs.YtbpgkkoeehopjaaGreat.hp
