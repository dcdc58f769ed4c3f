import Derived.Test.YtinkdjjffjnpeaaProg
import Derived.Test.YtinkdjjffjnpeaaMo
namespace Go.Abs
open Go.Proofs
abbrev F_main_main : Nat := 0
abbrev F_gosem_cut : Nat := 1
abbrev F_gosem_cut_init : Nat := 2
abbrev F_skylightlaw14_CountPlays : Nat := 3
abbrev F_skylightlaw15_GridPlays : Nat := 4
abbrev F_skylightlaw10_ReplayMerges : Nat := 5
abbrev F_skylightlaw10_ReplaySmall : Nat := 6
abbrev F_skylightlaw10_ReplayBound : Nat := 7
abbrev F_skylightlaw10_ReplayNever : Nat := 8
abbrev F_skylightlaw10_ReplayWith : Nat := 9
abbrev F_skylightlaw10_ReplaySums : Nat := 10
abbrev F_skylightlaw14_awake : Nat := 11
abbrev F_skylightref14_New : Nat := 12
abbrev F_count_New : Nat := 13
abbrev F_skylightref14_One : Nat := 14
abbrev F_count_Move : Nat := 15
abbrev F_skylightlaw14_same : Nat := 16
abbrev F_count_Add : Nat := 17
abbrev F_skylightlaw15_awake : Nat := 18
abbrev F_skylightref15_Tame : Nat := 19
abbrev F_grid_New : Nat := 20
abbrev F_skylightref15_Same : Nat := 21
abbrev F_skylightlaw15_back : Nat := 22
abbrev F_grid_Add : Nat := 23
abbrev F_skylightref15_Add : Nat := 24
abbrev F_grid_Drop : Nat := 25
abbrev F_skylightref15_Drop : Nat := 26
abbrev F_skylightlaw10_awake : Nat := 27
abbrev F_skylightref06_Made : Nat := 28
abbrev F_skylightlaw10_merged : Nat := 29
abbrev F_skylightref10_Light : Nat := 30
abbrev F_skylightref10_Build : Nat := 31
abbrev F_skylightlaw10_real : Nat := 32
abbrev F_check_Buckets : Nat := 33
abbrev F_skylightlaw10_made : Nat := 34
abbrev F_skylightref09_Bound : Nat := 35
abbrev F_skylightref06_Total : Nat := 36
abbrev F_hist_Total : Nat := 37
abbrev F_skylightref05_Least : Nat := 38
abbrev F_estimate_Of : Nat := 39
abbrev F_skylightlaw10_below : Nat := 40
abbrev F_estimate_Parts : Nat := 41
abbrev F_replay_With : Nat := 42
abbrev F_skylightref10_With : Nat := 43
abbrev F_hist_Add : Nat := 44
abbrev F_replay_Merge : Nat := 45
abbrev F_skylightlaw10_same : Nat := 46
abbrev F_hist_Same : Nat := 47
abbrev F_check_Hist : Nat := 48
abbrev F_count_Query : Nat := 49
abbrev F_count_Same : Nat := 50
abbrev F_hist_New : Nat := 51
abbrev F_buffer_New : Nat := 52
abbrev F_skylightref14_Move : Nat := 53
abbrev F_skylightref14_Add : Nat := 54
abbrev F_buffer_Move : Nat := 55
abbrev F_count_pass : Nat := 56
abbrev F_skylightref14_Same : Nat := 57
abbrev F_buffer_Push : Nat := 58
abbrev F_count_room : Nat := 59
abbrev F_buffer_Weight : Nat := 60
abbrev F_grid_Row : Nat := 61
abbrev F_grid_Same : Nat := 62
abbrev F_skylightref15_New : Nat := 63
abbrev F_slices_ContainsFunc_s_api_Seed : Nat := 64
abbrev F_grid_New_1 : Nat := 65
abbrev F_hash_May : Nat := 66
abbrev F_slices_Clone_s_api_Seed : Nat := 67
abbrev F_slices_Repeat_s_hist_Hist : Nat := 68
abbrev F_skylightref15_alike : Nat := 69
abbrev F_skylightref06_Same : Nat := 70
abbrev F_skylightlaw15_theirs : Nat := 71
abbrev F_hash_Key : Nat := 72
abbrev F_grid_Grid_copied : Nat := 73
abbrev F_grid_change_to : Nat := 74
abbrev F_hash_Columns : Nat := 75
abbrev F_skylightref04_Key : Nat := 76
abbrev F_skylightref06_Add : Nat := 77
abbrev F_skylightref04_Column : Nat := 78
abbrev F_expiry_Drop : Nat := 79
abbrev F_grid_Grid_cells : Nat := 80
abbrev F_skylightref07_Drop : Nat := 81
abbrev F_skylightref10_Merge : Nat := 82
abbrev F_skylightref10_Times : Nat := 83
abbrev F_skylightref08_Exact : Nat := 84
abbrev F_skylightref06_May : Nat := 85
abbrev F_skylightref09_digits : Nat := 86
abbrev F_skylightref05_Most : Nat := 87
abbrev F_skylightlaw10_digits : Nat := 88
abbrev F_skylightlaw10_times : Nat := 89
abbrev F_estimate_Parts_1 : Nat := 90
abbrev F_estimate_buckets : Nat := 91
abbrev F_replay_With_1 : Nat := 92
abbrev F_replay_With_2 : Nat := 93
abbrev F_slices_ContainsFunc_s_api_Event : Nat := 94
abbrev F_replay_scale_lay : Nat := 95
abbrev F_replay_lumps : Nat := 96
abbrev F_slices_SortFunc_s_replay_lump : Nat := 97
abbrev F_replay_With_3 : Nat := 98
abbrev F_cmp_Compare_uint64 : Nat := 99
abbrev F_skylightref10_bad : Nat := 100
abbrev F_skylightref10_lumps : Nat := 101
abbrev F_skylightref10_least : Nat := 102
abbrev F_hist_Last : Nat := 103
abbrev F_hist_Hist_flow : Nat := 104
abbrev F_hist_Hist_equal : Nat := 105
abbrev F_check_conf : Nat := 106
abbrev F_check_shaped : Nat := 107
abbrev F_check_turned : Nat := 108
abbrev F_check_light : Nat := 109
abbrev F_scan_Sum : Nat := 110
abbrev F_buffer_Same : Nat := 111
abbrev F_skylightref12_Move : Nat := 112
abbrev F_skylightref14_pass : Nat := 113
abbrev F_skylightref12_Push : Nat := 114
abbrev F_skylightref14_heavy : Nat := 115
abbrev F_skylightref12_Weight : Nat := 116
abbrev F_buffer_latest : Nat := 117
abbrev F_slices_Clone_s_api_Event : Nat := 118
abbrev F_buffer_Buf_settle : Nat := 119
abbrev F_count_Sketch_drop : Nat := 120
abbrev F_skylightref12_Same : Nat := 121
abbrev F_buffer_Buf_below : Nat := 122
abbrev F_slices_Concat_s_api_Event : Nat := 123
abbrev F_hash_Column : Nat := 124
abbrev F_slices_EqualFunc_s_s_hist_Hist : Nat := 125
abbrev F_grid_Same_1 : Nat := 126
abbrev F_slices_EqualFunc_s_hist_Hist : Nat := 127
abbrev F_grid_alike : Nat := 128
abbrev F_slices_IndexFunc_s_api_Seed : Nat := 129
abbrev F_math_bits_Mul : Nat := 130
abbrev F_skylightref05_Same : Nat := 131
abbrev F_slices_Clone_s_hist_Hist : Nat := 132
abbrev F_hash_columns : Nat := 133
abbrev F_skylightref06_Last : Nat := 134
abbrev F_skylightref05_Push : Nat := 135
abbrev F_skylightref06_at : Nat := 136
abbrev F_skylightref04_May : Nat := 137
abbrev F_skylightref04_Rest : Nat := 138
abbrev F_expiry_Drop_1 : Nat := 139
abbrev F_expiry_Old : Nat := 140
abbrev F_grid_Grid_cells_1 : Nat := 141
abbrev F_skylightref07_Old : Nat := 142
abbrev F_skylightref08_Within : Nat := 143
abbrev F_estimate_buckets_1 : Nat := 144
abbrev F_slices_IndexFunc_s_api_Event : Nat := 145
abbrev F_replay_lumps_1 : Nat := 146
abbrev F_slices_pdqsortCmpFunc_replay_lump : Nat := 147
abbrev F_math_bits_Len : Nat := 148
abbrev F_cmp_isNaN_uint64 : Nat := 149
abbrev F_skylightref10_weighed : Nat := 150
abbrev F_hist_Hist_flow_1 : Nat := 151
abbrev F_level_Push : Nat := 152
abbrev F_level_Most : Nat := 153
abbrev F_slices_EqualFunc_s_s_api_Span : Nat := 154
abbrev F_slices_Equal_s_api_Span : Nat := 155
abbrev F_level_Least : Nat := 156
abbrev F_check_walk_step : Nat := 157
abbrev F_scan_sum_api_Event : Nat := 158
abbrev F_scan_within : Nat := 159
abbrev F_scan_weight : Nat := 160
abbrev F_slices_Equal_s_api_Event : Nat := 161
abbrev F_skylightref12_settle : Nat := 162
abbrev F_skylightref12_split : Nat := 163
abbrev F_slices_Max_s_uint64 : Nat := 164
abbrev F_skylightref12_Events : Nat := 165
abbrev F_buffer_Buf_below_1 : Nat := 166
abbrev F_slices_Grow_s_api_Event : Nat := 167
abbrev F_wide_AddMod : Nat := 168
abbrev F_wide_MulMod : Nat := 169
abbrev F_slices_Equal_s_api_Seed : Nat := 170
abbrev F_math_bits_Mul32 : Nat := 171
abbrev F_math_bits_Mul64 : Nat := 172
abbrev F_hash_columns_1 : Nat := 173
abbrev F_skylightref03_AddMod : Nat := 174
abbrev F_skylightref03_MulMod : Nat := 175
abbrev F_slices_insertionSortCmpFunc_replay_lump : Nat := 176
abbrev F_slices_heapSortCmpFunc_replay_lump : Nat := 177
abbrev F_slices_breakPatternsCmpFunc_replay_lump : Nat := 178
abbrev F_slices_choosePivotCmpFunc_replay_lump : Nat := 179
abbrev F_slices_reverseRangeCmpFunc_replay_lump : Nat := 180
abbrev F_slices_partialInsertionSortCmpFunc_replay_lump : Nat := 181
abbrev F_slices_partitionEqualCmpFunc_replay_lump : Nat := 182
abbrev F_slices_partitionCmpFunc_replay_lump : Nat := 183
abbrev F_math_bits_Len32 : Nat := 184
abbrev F_math_bits_Len64 : Nat := 185
abbrev F_level_bounded_int : Nat := 186
abbrev F_level_Push_1 : Nat := 187
abbrev F_level_bounded_uint64 : Nat := 188
abbrev F_level_line_long : Nat := 189
abbrev F_level_line_next : Nat := 190
abbrev F_level_both : Nat := 191
abbrev F_scan_within_1 : Nat := 192
abbrev F_wide_sum : Nat := 193
abbrev F_wide_fold : Nat := 194
abbrev F_wide_Mod : Nat := 195
abbrev F_wide_Mul : Nat := 196
abbrev F_skylightref03_Mul : Nat := 197
abbrev F_skylightref03_Mod : Nat := 198
abbrev F_slices_siftDownCmpFunc_replay_lump : Nat := 199
abbrev F_slices_nextPowerOfTwo : Nat := 200
abbrev F_slices_xorshift_Next : Nat := 201
abbrev F_slices_medianAdjacentCmpFunc_replay_lump : Nat := 202
abbrev F_slices_medianCmpFunc_replay_lump : Nat := 203
abbrev F_wide_Mul_1 : Nat := 204
abbrev F_skylightref03_double : Nat := 205
abbrev F_slices_order2CmpFunc_replay_lump : Nat := 206
abbrev F_runtime_boundsError_Error : Nat := 207
abbrev F_runtime_boundsError_RuntimeError : Nat := 208
abbrev F_runtime_errorString_Error : Nat := 209
abbrev F_runtime_errorString_RuntimeError : Nat := 210
abbrev F_runtime_plainError_Error : Nat := 211
abbrev F_runtime_plainError_RuntimeError : Nat := 212
abbrev F_runtime_errorAddressString_Error : Nat := 213
abbrev F_runtime_errorAddressString_RuntimeError : Nat := 214
abbrev F_runtime_TypeAssertionError_Error : Nat := 215
abbrev F_runtime_TypeAssertionError_RuntimeError : Nat := 216
abbrev F_runtime_PanicNilError_Error : Nat := 217
abbrev F_runtime_PanicNilError_RuntimeError : Nat := 218
abbrev F_internal_abi_Type_Align : Nat := 219
abbrev F_internal_runtime_maps_unhashableTypeError_Error : Nat := 220
abbrev F_internal_runtime_maps_unhashableTypeError_RuntimeError : Nat := 221
abbrev F_internal_abi_Kind_String : Nat := 222
/-- skylight/hist.New -/
noncomputable def ac_hist_New : ACode :=
 (.seq
 (.region [
  ⟨some 2, .op (.alloc [.v (.int .i64 0), .v (.int .i64 0), .sl true []]), none⟩,
  ⟨some 3, .op (.mv (kI .i64 0)), none⟩])
 (.seq
 (.seq
 (.region [
  ⟨some 4, .op (.mv (.t 0)), none⟩,
  ⟨some 5, .op (.bin .lss (.t 4) (kI .i64 2)), none⟩,
  ⟨some 6, .op (.mv (.t 5)), none⟩,
  ⟨some 7, .op (.mv (.t 0)), some (6, false)⟩,
  ⟨some 8, .op (.bin .gtr (.t 7) (kI .i64 1024)), some (6, false)⟩,
  ⟨some 9, .op (.pick (.t 6) (kB true) (.t 8)), none⟩])
 (.cond (.t 9)
 (.seq
 (.region [
  ⟨some 10, .op (.build [.v (.int .i64 0), .v (.int .i64 0), .sl true []] []), none⟩,
  ⟨none, .op (.store 3 (.t 2) (.t 10)), none⟩,
  ⟨some 3, .op (.mv (kI .i64 9)), none⟩])
 .ret)
 .skip))
 (.seq
 (.region [
  ⟨some 11, .op (.mv (.t 0)), none⟩,
  ⟨some 12, .op (.build [.v (.int .i64 0), .v (.int .i64 0), .sl true []] [(0, 1, .t 11)]), none⟩,
  ⟨none, .op (.store 3 (.t 2) (.t 12)), none⟩,
  ⟨some 3, .op (.mv (kI .i64 0)), none⟩])
 .ret)))
theorem fn_hist_New : FnOk Try.prog F_hist_New 13 ac_hist_New [.cell 2 true 3, .t 3] :=
  ⟨[190, 189], Try.f51, Try.f51.body.getD .skip, Try.func51, by kernel_rfl, Try.ntmps51, by kernel_rfl, by kernel_rfl, Try.call51⟩
/-- skylight/buffer.New -/
noncomputable def ac_buffer_New : ACode :=
 (.seq
 (.region [
  ⟨some 4, .op (.alloc [.v (.int .u64 0), .v (.int .i64 0), .v (.int .u64 0), .v (.int .u64 0), .sl true []]), none⟩,
  ⟨some 5, .op (.mv (kI .i64 0)), none⟩])
 (.seq
 (.seq
 (.region [
  ⟨some 6, .op (.mv (.t 0)), none⟩,
  ⟨some 7, .op (.bin .gtr (.t 6) (kI .u64 4611686018427387904)), none⟩,
  ⟨some 8, .op (.mv (.t 7)), none⟩,
  ⟨some 9, .op (.mv (.t 1)), some (8, false)⟩,
  ⟨some 10, .op (.bin .lss (.t 9) (kI .i64 1)), some (8, false)⟩,
  ⟨some 11, .op (.pick (.t 8) (kB true) (.t 10)), none⟩,
  ⟨some 12, .op (.mv (.t 11)), none⟩,
  ⟨some 13, .op (.mv (.t 1)), some (12, false)⟩,
  ⟨some 14, .op (.bin .gtr (.t 13) (kI .i64 1024)), some (12, false)⟩,
  ⟨some 15, .op (.pick (.t 12) (kB true) (.t 14)), none⟩])
 (.cond (.t 15)
 (.seq
 (.region [
  ⟨some 16, .op (.build [.v (.int .u64 0), .v (.int .i64 0), .v (.int .u64 0), .v (.int .u64 0), .sl true []] []), none⟩,
  ⟨none, .op (.store 5 (.t 4) (.t 16)), none⟩,
  ⟨some 5, .op (.mv (kI .i64 9)), none⟩])
 .ret)
 .skip))
 (.seq
 (.region [
  ⟨some 17, .op (.mv (.t 0)), none⟩,
  ⟨some 18, .op (.mv (.t 1)), none⟩,
  ⟨some 19, .op (.build [.v (.int .u64 0), .v (.int .i64 0), .v (.int .u64 0), .v (.int .u64 0), .sl true []] [(0, 1, .t 17), (1, 1, .t 18)]), none⟩,
  ⟨none, .op (.store 5 (.t 4) (.t 19)), none⟩,
  ⟨some 5, .op (.mv (kI .i64 0)), none⟩])
 .ret)))
theorem fn_buffer_New : FnOk Try.prog F_buffer_New 20 ac_buffer_New [.cell 4 true 5, .t 5] :=
  ⟨[190, 189], Try.f52, Try.f52.body.getD .skip, Try.func52, by kernel_rfl, Try.ntmps52, by kernel_rfl, by kernel_rfl, Try.call52⟩
/-- skylight/count.New -/
noncomputable def ac_count_New : ACode :=
 (.seq
 (.region [
  ⟨some 8, .op (.alloc [.v (.int .u64 0), .v (.int .u64 0), .v (.int .i64 0), .v (.int .u64 0), .v (.int .u64 0), .sl true [], .v (.int .i64 0), .v (.int .i64 0), .sl true []]), none⟩,
  ⟨some 9, .op (.mv (kI .i64 0)), none⟩])
 (.seq
 (.region [
  ⟨some 15, .op (.mv (.t 0)), none⟩,
  ⟨some 16, .call (kF F_hist_New) [.t 15], none⟩,
  ⟨some 14, .op (.mv (.t 16)), none⟩,
  ⟨some 17, .op (.ext (.t 14) 0), none⟩,
  ⟨some 18, .op (.ext (.t 14) 1), none⟩,
  ⟨some 10, .op (.alloc [.v (.int .i64 0), .v (.int .i64 0), .sl true []]), none⟩,
  ⟨none, .op (.store 3 (.t 10) (.t 17)), none⟩,
  ⟨some 11, .op (.mv (.t 18)), none⟩])
 (.seq
 (.region [
  ⟨some 20, .op (.mv (.t 2)), none⟩,
  ⟨some 21, .op (.mv (.t 3)), none⟩,
  ⟨some 22, .call (kF F_buffer_New) [.t 20, .t 21], none⟩,
  ⟨some 19, .op (.mv (.t 22)), none⟩,
  ⟨some 23, .op (.ext (.t 19) 0), none⟩,
  ⟨some 24, .op (.ext (.t 19) 1), none⟩,
  ⟨some 12, .op (.alloc [.v (.int .u64 0), .v (.int .i64 0), .v (.int .u64 0), .v (.int .u64 0), .sl true []]), none⟩,
  ⟨none, .op (.store 5 (.t 12) (.t 23)), none⟩,
  ⟨some 13, .op (.mv (.t 24)), none⟩])
 (.seq
 (.seq
 (.region [
  ⟨some 25, .op (.mv (.t 11)), none⟩,
  ⟨some 26, .op (.bin .neq (.t 25) (kI .i64 0)), none⟩,
  ⟨some 27, .op (.mv (.t 26)), none⟩,
  ⟨some 28, .op (.mv (.t 13)), some (27, false)⟩,
  ⟨some 29, .op (.bin .neq (.t 28) (kI .i64 0)), some (27, false)⟩,
  ⟨some 30, .op (.pick (.t 27) (kB true) (.t 29)), none⟩,
  ⟨some 31, .op (.mv (.t 30)), none⟩,
  ⟨some 32, .op (.mv (.t 1)), some (31, false)⟩,
  ⟨some 33, .op (.bin .lss (.t 32) (kI .u64 1)), some (31, false)⟩,
  ⟨some 34, .op (.pick (.t 31) (kB true) (.t 33)), none⟩,
  ⟨some 35, .op (.mv (.t 34)), none⟩,
  ⟨some 36, .op (.mv (.t 1)), some (35, false)⟩,
  ⟨some 37, .op (.bin .gtr (.t 36) (kI .u64 4611686018427387904)), some (35, false)⟩,
  ⟨some 38, .op (.pick (.t 35) (kB true) (.t 37)), none⟩])
 (.cond (.t 38)
 (.seq
 (.region [
  ⟨some 39, .op (.build [.v (.int .u64 0), .v (.int .u64 0), .v (.int .i64 0), .v (.int .u64 0), .v (.int .u64 0), .sl true [], .v (.int .i64 0), .v (.int .i64 0), .sl true []] []), none⟩,
  ⟨none, .op (.store 9 (.t 8) (.t 39)), none⟩,
  ⟨some 9, .op (.mv (kI .i64 9)), none⟩])
 .ret)
 .skip))
 (.seq
 (.region [
  ⟨some 40, .op (.mv (.t 1)), none⟩,
  ⟨some 41, .op (.load true 5 (.t 12)), none⟩,
  ⟨some 42, .op (.load true 3 (.t 10)), none⟩,
  ⟨some 43, .op (.build [.v (.int .u64 0), .v (.int .u64 0), .v (.int .i64 0), .v (.int .u64 0), .v (.int .u64 0), .sl true [], .v (.int .i64 0), .v (.int .i64 0), .sl true []] [(0, 1, .t 40), (1, 5, .t 41), (6, 3, .t 42)]), none⟩,
  ⟨none, .op (.store 9 (.t 8) (.t 43)), none⟩,
  ⟨some 9, .op (.mv (kI .i64 0)), none⟩])
 .ret)))))
theorem fn_count_New : FnOk Try.prog F_count_New 44 ac_count_New [.cell 8 true 9, .t 9] :=
  ⟨[190, 189], Try.f13, Try.f13.body.getD .skip, Try.func13, by kernel_rfl, Try.ntmps13, by kernel_rfl, by kernel_rfl, Try.call13⟩
/-- (skylight/buffer.Buf).below$1 -/
noncomputable def ac_buffer_Buf_below_1 : ACode :=
 (.seq
 (.region [
  ⟨some 2, .op (.box (.t 0)), none⟩,
  ⟨some 3, .op (.mv (kB false)), none⟩])
 (.seq
 (.region [
  ⟨some 4, .op (.fadr 0 (.t 2)), none⟩,
  ⟨some 5, .op (.load false 1 (.t 4)), none⟩,
  ⟨some 6, .op (.load false 1 (.t 1)), none⟩,
  ⟨some 7, .op (.bin .gtr (.t 5) (.t 6)), none⟩,
  ⟨some 3, .op (.mv (.t 7)), none⟩])
 .ret))
theorem fn_buffer_Buf_below_1 : FnOk Try.prog F_buffer_Buf_below_1 8 ac_buffer_Buf_below_1 [.t 3] :=
  ⟨[190, 189], Try.f166, Try.f166.body.getD .skip, Try.func166, by kernel_rfl, Try.ntmps166, by kernel_rfl, by kernel_rfl, Try.call166⟩
noncomputable def acl_slices_IndexFunc_s_api_Event_0 : ACode :=
 (.seq
 (.region [
  ⟨some 9, .op (.bin .lss (.t 8) (.t 7)), none⟩])
 (.seq
 (.cond (.t 9)
 .skip
 (.exit 0))
 (.seq
 (.block 1
 (.seq
 (.region [
  ⟨some 10, .op (.mv (.t 8)), none⟩,
  ⟨some 5, .op (.mv (.t 10)), none⟩])
 (.seq
 (.region [
  ⟨some 11, .op (.mv (.t 1)), none⟩,
  ⟨some 12, .op (.mv (.t 0)), none⟩,
  ⟨some 13, .op (.mv (.t 5)), none⟩,
  ⟨some 14, .op (.iadr 3 (.t 12) (.t 13)), none⟩,
  ⟨some 15, .op (.load true 3 (.t 14)), none⟩,
  ⟨some 16, .call (.t 11) [.t 15], none⟩])
 (.cond (.t 16)
 (.seq
 (.region [
  ⟨some 17, .op (.mv (.t 5)), none⟩,
  ⟨some 4, .op (.mv (.t 17)), none⟩])
 .ret)
 .skip))))
 (.region [
  ⟨some 18, .op (.bin .add (.t 8) (kI .i64 1)), none⟩,
  ⟨some 8, .op (.mv (.t 18)), none⟩]))))
/-- slices.IndexFunc[[]skylight/api.Event,skylight/api.Event] -/
noncomputable def ac_slices_IndexFunc_s_api_Event : ACode :=
 (.seq
 (.region [
  ⟨some 4, .op (.mv (kI .i64 0)), none⟩])
 (.seq
 (.seq
 (.region [
  ⟨some 6, .op (.mv (.t 0)), none⟩,
  ⟨some 7, .op (.len (.t 6)), none⟩,
  ⟨some 8, .op (.mv (kI .i64 0)), none⟩])
 (.block 0
 (.loop acl_slices_IndexFunc_s_api_Event_0)))
 (.seq
 (.region [
  ⟨some 4, .op (.mv (kI .i64 (-1))), none⟩])
 .ret)))
theorem fn_slices_IndexFunc_s_api_Event : FnOk Try.prog F_slices_IndexFunc_s_api_Event 19 ac_slices_IndexFunc_s_api_Event [.t 4] :=
  ⟨[190, 189], Try.f145, Try.f145.body.getD .skip, Try.func145, by kernel_rfl, Try.ntmps145, by kernel_rfl, by kernel_rfl, Try.call145⟩
/-- (skylight/buffer.Buf).below -/
noncomputable def ac_buffer_Buf_below : ACode :=
 (.seq
 (.region [
  ⟨some 2, .op (.box (.t 0)), none⟩,
  ⟨some 3, .op (.box (.t 1)), none⟩,
  ⟨some 4, .op (.mv (kI .i64 0)), none⟩])
 (.seq
 (.region [
  ⟨some 6, .op (.fadr 4 (.t 2)), none⟩,
  ⟨some 7, .op (.load false 1 (.t 6)), none⟩,
  ⟨some 8, .op (.mkfn (.func F_buffer_Buf_below_1) [.t 3]), none⟩,
  ⟨some 9, .call (kF F_slices_IndexFunc_s_api_Event) [.t 7, .t 8], none⟩,
  ⟨some 5, .op (.mv (.t 9)), none⟩])
 (.seq
 (.seq
 (.region [
  ⟨some 10, .op (.mv (.t 5)), none⟩,
  ⟨some 11, .op (.bin .lss (.t 10) (kI .i64 0)), none⟩])
 (.cond (.t 11)
 (.seq
 (.region [
  ⟨some 12, .op (.fadr 4 (.t 2)), none⟩,
  ⟨some 13, .op (.load false 1 (.t 12)), none⟩,
  ⟨some 14, .op (.len (.t 13)), none⟩,
  ⟨some 4, .op (.mv (.t 14)), none⟩])
 .ret)
 .skip))
 (.seq
 (.region [
  ⟨some 15, .op (.mv (.t 5)), none⟩,
  ⟨some 4, .op (.mv (.t 15)), none⟩])
 .ret))))
theorem fn_buffer_Buf_below : FnOk Try.prog F_buffer_Buf_below 16 ac_buffer_Buf_below [.t 4] :=
  ⟨[190, 189], Try.f122, Try.f122.body.getD .skip, Try.func122, by kernel_rfl, Try.ntmps122, by kernel_rfl, by kernel_rfl, Try.call122⟩
noncomputable def acl_slices_Max_s_uint64_0 : ACode :=
 (.seq
 (.seq
 (.region [
  ⟨some 12, .op (.mv (.t 4)), none⟩,
  ⟨some 13, .op (.mv (.t 0)), none⟩,
  ⟨some 14, .op (.len (.t 13)), none⟩,
  ⟨some 15, .op (.bin .lss (.t 12) (.t 14)), none⟩])
 (.cond (.t 15)
 .skip
 (.exit 0)))
 (.seq
 (.block 1
 (.region [
  ⟨some 18, .op (.mv (.t 3)), none⟩,
  ⟨some 19, .op (.mv (.t 0)), none⟩,
  ⟨some 20, .op (.mv (.t 4)), none⟩,
  ⟨some 21, .op (.iadr 1 (.t 19) (.t 20)), none⟩,
  ⟨some 22, .op (.load false 1 (.t 21)), none⟩,
  ⟨some 23, .op (.mx [.t 18, .t 22]), none⟩,
  ⟨some 3, .op (.mv (.t 23)), none⟩]))
 (.region [
  ⟨some 16, .op (.mv (.t 4)), none⟩,
  ⟨some 17, .op (.bin .add (.t 16) (kI .i64 1)), none⟩,
  ⟨some 4, .op (.mv (.t 17)), none⟩])))
/-- slices.Max[[]uint64,uint64] -/
noncomputable def ac_slices_Max_s_uint64 : ACode :=
 (.seq
 (.region [
  ⟨some 2, .op (.mv (kI .u64 0)), none⟩])
 (.seq
 (.seq
 (.region [
  ⟨some 5, .op (.mv (.t 0)), none⟩,
  ⟨some 6, .op (.len (.t 5)), none⟩,
  ⟨some 7, .op (.bin .lss (.t 6) (kI .i64 1)), none⟩])
 (.cond (.t 7)
 (.region [
  ⟨some 8, .op (.no), none⟩,
  ⟨none, .op (.no), none⟩])
 .skip))
 (.seq
 (.region [
  ⟨some 9, .op (.mv (.t 0)), none⟩,
  ⟨some 10, .op (.iadr 1 (.t 9) (kI .i64 0)), none⟩,
  ⟨some 11, .op (.load false 1 (.t 10)), none⟩,
  ⟨some 3, .op (.mv (.t 11)), none⟩])
 (.seq
 (.seq
 (.region [
  ⟨some 4, .op (.mv (kI .i64 1)), none⟩])
 (.block 0
 (.loop acl_slices_Max_s_uint64_0)))
 (.seq
 (.region [
  ⟨some 24, .op (.mv (.t 3)), none⟩,
  ⟨some 2, .op (.mv (.t 24)), none⟩])
 .ret)))))
theorem fn_slices_Max_s_uint64 : FnOk Try.prog F_slices_Max_s_uint64 25 ac_slices_Max_s_uint64 [.t 2] :=
  ⟨[190, 189], Try.f164, Try.f164.body.getD .skip, Try.func164, by kernel_rfl, Try.ntmps164, by kernel_rfl, by kernel_rfl, Try.call164⟩
/-- skylight/buffer.latest -/
noncomputable def ac_buffer_latest : ACode :=
 (.seq
 (.region [
  ⟨some 2, .op (.mv (kI .u64 0)), none⟩])
 (.seq
 (.region [
  ⟨some 3, .op (.mv (.t 0)), none⟩,
  ⟨some 4, .call (kF F_slices_Max_s_uint64) [.t 3], none⟩,
  ⟨some 2, .op (.mv (.t 4)), none⟩])
 .ret))
theorem fn_buffer_latest : FnOk Try.prog F_buffer_latest 5 ac_buffer_latest [.t 2] :=
  ⟨[190, 189], Try.f117, Try.f117.body.getD .skip, Try.func117, by kernel_rfl, Try.ntmps117, by kernel_rfl, by kernel_rfl, Try.call117⟩
/-- slices.Grow[[]skylight/api.Event,skylight/api.Event] -/
noncomputable def ac_slices_Grow_s_api_Event : ACode :=
 (.seq
 (.region [
  ⟨some 4, .op (.mv (kN)), none⟩])
 (.seq
 (.seq
 (.region [
  ⟨some 5, .op (.mv (.t 1)), none⟩,
  ⟨some 6, .op (.bin .lss (.t 5) (kI .i64 0)), none⟩])
 (.cond (.t 6)
 (.region [
  ⟨some 7, .op (.no), none⟩,
  ⟨none, .op (.no), none⟩])
 .skip))
 (.seq
 (.seq
 (.region [
  ⟨some 8, .op (.mv (.t 1)), none⟩,
  ⟨some 9, .op (.mv (.t 0)), none⟩,
  ⟨some 10, .op (.cp (.t 9)), none⟩,
  ⟨some 11, .op (.mv (.t 0)), none⟩,
  ⟨some 12, .op (.len (.t 11)), none⟩,
  ⟨some 13, .op (.bin .sub (.t 10) (.t 12)), none⟩,
  ⟨some 14, .op (.bin .sub (.t 8) (.t 13)), none⟩,
  ⟨some 1, .op (.mv (.t 14)), none⟩])
 (.seq
 (.region [
  ⟨some 15, .op (.mv (.t 1)), none⟩,
  ⟨some 16, .op (.bin .gtr (.t 15) (kI .i64 0)), none⟩])
 (.cond (.t 16)
 (.region [
  ⟨some 17, .op (.mv (.t 0)), none⟩,
  ⟨some 18, .op (.mv (.t 0)), none⟩,
  ⟨some 19, .op (.cp (.t 18)), none⟩,
  ⟨some 20, .op (.slc 3 (.t 17) none (some (.t 19)) none), none⟩,
  ⟨some 21, .op (.mv (.t 1)), none⟩,
  ⟨some 22, .op (.appz 3 24 [.v (.int .u64 0), .v (.int .u64 0), .v (.int .u64 0)] (.t 20) (.t 21)), none⟩,
  ⟨some 23, .op (.mv (.t 0)), none⟩,
  ⟨some 24, .op (.len (.t 23)), none⟩,
  ⟨some 25, .op (.slc 3 (.t 22) none (some (.t 24)) none), none⟩,
  ⟨some 0, .op (.mv (.t 25)), none⟩])
 .skip)))
 (.seq
 (.region [
  ⟨some 26, .op (.mv (.t 0)), none⟩,
  ⟨some 4, .op (.mv (.t 26)), none⟩])
 .ret))))
theorem fn_slices_Grow_s_api_Event : FnOk Try.prog F_slices_Grow_s_api_Event 27 ac_slices_Grow_s_api_Event [.t 4] :=
  ⟨[190, 189], Try.f167, Try.f167.body.getD .skip, Try.func167, by kernel_rfl, Try.ntmps167, by kernel_rfl, by kernel_rfl, Try.call167⟩
noncomputable def acl_slices_Concat_s_api_Event_0 : ACode :=
 (.seq
 (.region [
  ⟨some 12, .op (.bin .lss (.t 11) (.t 10)), none⟩])
 (.seq
 (.cond (.t 12)
 .skip
 (.exit 0))
 (.seq
 (.block 1
 (.seq
 (.region [
  ⟨some 13, .op (.iadr 1 (.t 9) (.t 11)), none⟩,
  ⟨some 14, .op (.load false 1 (.t 13)), none⟩,
  ⟨some 5, .op (.mv (.t 14)), none⟩])
 (.seq
 (.region [
  ⟨some 15, .op (.mv (.t 3)), none⟩,
  ⟨some 16, .op (.mv (.t 5)), none⟩,
  ⟨some 17, .op (.len (.t 16)), none⟩,
  ⟨some 18, .op (.bin .add (.t 15) (.t 17)), none⟩,
  ⟨some 3, .op (.mv (.t 18)), none⟩])
 (.seq
 (.region [
  ⟨some 19, .op (.mv (.t 3)), none⟩,
  ⟨some 20, .op (.bin .lss (.t 19) (kI .i64 0)), none⟩])
 (.cond (.t 20)
 (.region [
  ⟨some 21, .op (.no), none⟩,
  ⟨none, .op (.no), none⟩])
 .skip)))))
 (.region [
  ⟨some 22, .op (.bin .add (.t 11) (kI .i64 1)), none⟩,
  ⟨some 11, .op (.mv (.t 22)), none⟩]))))
noncomputable def acl_slices_Concat_s_api_Event_1 : ACode :=
 (.seq
 (.region [
  ⟨some 28, .op (.bin .lss (.t 27) (.t 26)), none⟩])
 (.seq
 (.cond (.t 28)
 .skip
 (.exit 2))
 (.seq
 (.block 3
 (.seq
 (.region [
  ⟨some 29, .op (.iadr 1 (.t 25) (.t 27)), none⟩,
  ⟨some 30, .op (.load false 1 (.t 29)), none⟩,
  ⟨some 8, .op (.mv (.t 30)), none⟩])
 (.region [
  ⟨some 31, .op (.mv (.t 6)), none⟩,
  ⟨some 32, .op (.mv (.t 8)), none⟩,
  ⟨some 33, .op (.app 3 24 (.t 31) (.t 32)), none⟩,
  ⟨some 6, .op (.mv (.t 33)), none⟩])))
 (.region [
  ⟨some 34, .op (.bin .add (.t 27) (kI .i64 1)), none⟩,
  ⟨some 27, .op (.mv (.t 34)), none⟩]))))
/-- slices.Concat[[]skylight/api.Event,skylight/api.Event] -/
noncomputable def ac_slices_Concat_s_api_Event : ACode :=
 (.seq
 (.region [
  ⟨some 2, .op (.mv (kN)), none⟩])
 (.seq
 (.region [
  ⟨some 3, .op (.mv (kI .i64 0)), none⟩])
 (.seq
 (.seq
 (.region [
  ⟨some 9, .op (.mv (.t 0)), none⟩,
  ⟨some 10, .op (.len (.t 9)), none⟩,
  ⟨some 11, .op (.mv (kI .i64 0)), none⟩])
 (.block 0
 (.loop acl_slices_Concat_s_api_Event_0)))
 (.seq
 (.region [
  ⟨some 23, .op (.mv (.t 3)), none⟩,
  ⟨some 24, .call (kF F_slices_Grow_s_api_Event) [kN, .t 23], none⟩,
  ⟨some 6, .op (.mv (.t 24)), none⟩])
 (.seq
 (.seq
 (.region [
  ⟨some 25, .op (.mv (.t 0)), none⟩,
  ⟨some 26, .op (.len (.t 25)), none⟩,
  ⟨some 27, .op (.mv (kI .i64 0)), none⟩])
 (.block 2
 (.loop acl_slices_Concat_s_api_Event_1)))
 (.seq
 (.region [
  ⟨some 35, .op (.mv (.t 6)), none⟩,
  ⟨some 2, .op (.mv (.t 35)), none⟩])
 .ret))))))
theorem fn_slices_Concat_s_api_Event : FnOk Try.prog F_slices_Concat_s_api_Event 36 ac_slices_Concat_s_api_Event [.t 2] :=
  ⟨[190, 189], Try.f123, Try.f123.body.getD .skip, Try.func123, by kernel_rfl, Try.ntmps123, by kernel_rfl, by kernel_rfl, Try.call123⟩
/-- slices.Clone[[]skylight/api.Event,skylight/api.Event] -/
noncomputable def ac_slices_Clone_s_api_Event : ACode :=
 (.seq
 (.region [
  ⟨some 2, .op (.mv (kN)), none⟩])
 (.seq
 (.seq
 (.region [
  ⟨some 3, .op (.mv (.t 0)), none⟩,
  ⟨some 4, .op (.isnil true (.t 3)), none⟩])
 (.cond (.t 4)
 (.seq
 (.region [
  ⟨some 2, .op (.mv (kN)), none⟩])
 .ret)
 .skip))
 (.seq
 (.region [
  ⟨some 5, .op (.bslice false 3 0 [.v (.int .u64 0), .v (.int .u64 0), .v (.int .u64 0)] []), none⟩,
  ⟨some 6, .op (.mv (.t 0)), none⟩,
  ⟨some 7, .op (.app 3 24 (.t 5) (.t 6)), none⟩,
  ⟨some 2, .op (.mv (.t 7)), none⟩])
 .ret)))
theorem fn_slices_Clone_s_api_Event : FnOk Try.prog F_slices_Clone_s_api_Event 8 ac_slices_Clone_s_api_Event [.t 2] :=
  ⟨[190, 189], Try.f118, Try.f118.body.getD .skip, Try.func118, by kernel_rfl, Try.ntmps118, by kernel_rfl, by kernel_rfl, Try.call118⟩
noncomputable def acl_buffer_Buf_settle_0 : ACode :=
 (.seq
 (.seq
 (.region [
  ⟨some 25, .op (.fadr 4 (.t 1)), none⟩,
  ⟨some 26, .op (.load false 1 (.t 25)), none⟩,
  ⟨some 27, .op (.len (.t 26)), none⟩,
  ⟨some 28, .op (.mv (.t 4)), none⟩,
  ⟨some 29, .op (.bin .sub (.t 27) (.t 28)), none⟩,
  ⟨some 30, .op (.fadr 1 (.t 1)), none⟩,
  ⟨some 31, .op (.load false 1 (.t 30)), none⟩,
  ⟨some 32, .op (.bin .gtr (.t 29) (.t 31)), none⟩])
 (.cond (.t 32)
 .skip
 (.exit 0)))
 (.block 1
 (.seq
 (.region [
  ⟨some 33, .op (.fadr 4 (.t 1)), none⟩,
  ⟨some 34, .op (.load false 1 (.t 33)), none⟩,
  ⟨some 35, .op (.mv (.t 4)), none⟩,
  ⟨some 36, .op (.iadr 3 (.t 34) (.t 35)), none⟩,
  ⟨some 37, .op (.fadr 0 (.t 36)), none⟩,
  ⟨some 38, .op (.load false 1 (.t 37)), none⟩,
  ⟨some 39, .op (.fadr 3 (.t 1)), none⟩,
  ⟨none, .op (.store 1 (.t 39) (.t 38)), none⟩])
 (.region [
  ⟨some 40, .op (.load true 5 (.t 1)), none⟩,
  ⟨some 41, .op (.fadr 3 (.t 1)), none⟩,
  ⟨some 42, .op (.load false 1 (.t 41)), none⟩,
  ⟨some 43, .call (kF F_buffer_Buf_below) [.t 40, .t 42], none⟩,
  ⟨some 4, .op (.mv (.t 43)), none⟩]))))
/-- (skylight/buffer.Buf).settle -/
noncomputable def ac_buffer_Buf_settle : ACode :=
 (.seq
 (.region [
  ⟨some 1, .op (.box (.t 0)), none⟩,
  ⟨some 2, .op (.alloc [.v (.int .u64 0), .v (.int .i64 0), .v (.int .u64 0), .v (.int .u64 0), .sl true []]), none⟩,
  ⟨some 3, .op (.mv (kN)), none⟩])
 (.seq
 (.seq
 (.region [
  ⟨some 6, .op (.fadr 2 (.t 1)), none⟩,
  ⟨some 7, .op (.load false 1 (.t 6)), none⟩,
  ⟨some 8, .op (.fadr 0 (.t 1)), none⟩,
  ⟨some 9, .op (.load false 1 (.t 8)), none⟩,
  ⟨some 10, .op (.bin .gtr (.t 7) (.t 9)), none⟩])
 (.cond (.t 10)
 (.region [
  ⟨some 11, .op (.fadr 3 (.t 1)), none⟩,
  ⟨some 12, .op (.load false 1 (.t 11)), none⟩,
  ⟨some 13, .op (.fadr 2 (.t 1)), none⟩,
  ⟨some 14, .op (.load false 1 (.t 13)), none⟩,
  ⟨some 15, .op (.fadr 0 (.t 1)), none⟩,
  ⟨some 16, .op (.load false 1 (.t 15)), none⟩,
  ⟨some 17, .op (.bin .sub (.t 14) (.t 16)), none⟩,
  ⟨some 18, .op (.bslice false 1 2 [.v (.int .u64 0)] [(0, .t 12), (1, .t 17)]), none⟩,
  ⟨some 19, .call (kF F_buffer_latest) [.t 18], none⟩,
  ⟨some 20, .op (.fadr 3 (.t 1)), none⟩,
  ⟨none, .op (.store 1 (.t 20) (.t 19)), none⟩])
 .skip))
 (.seq
 (.region [
  ⟨some 21, .op (.load true 5 (.t 1)), none⟩,
  ⟨some 22, .op (.fadr 3 (.t 1)), none⟩,
  ⟨some 23, .op (.load false 1 (.t 22)), none⟩,
  ⟨some 24, .call (kF F_buffer_Buf_below) [.t 21, .t 23], none⟩,
  ⟨some 4, .op (.mv (.t 24)), none⟩])
 (.seq
 (.block 0
 (.loop acl_buffer_Buf_settle_0))
 (.seq
 (.region [
  ⟨some 44, .op (.fadr 4 (.t 1)), none⟩,
  ⟨some 45, .op (.load false 1 (.t 44)), none⟩,
  ⟨some 46, .op (.mv (.t 4)), none⟩,
  ⟨some 47, .op (.mv (.t 4)), none⟩,
  ⟨some 48, .op (.slc 3 (.t 45) none (some (.t 46)) (some (.t 47))), none⟩,
  ⟨some 5, .op (.mv (.t 48)), none⟩])
 (.seq
 (.region [
  ⟨some 49, .op (.fadr 4 (.t 1)), none⟩,
  ⟨some 50, .op (.load false 1 (.t 49)), none⟩,
  ⟨some 51, .op (.mv (.t 4)), none⟩,
  ⟨some 52, .op (.slc 3 (.t 50) (some (.t 51)) none none), none⟩,
  ⟨some 53, .op (.fadr 4 (.t 1)), none⟩,
  ⟨none, .op (.store 1 (.t 53) (.t 52)), none⟩])
 (.seq
 (.drawn [
  ⟨⟨some 54, .op (.load true 5 (.t 1)), none⟩, false, 0, 0⟩,
  ⟨⟨some 55, .op (.mv (.t 5)), none⟩, false, 0, 0⟩,
  ⟨⟨some 56, .call (kF F_slices_Clone_s_api_Event) [.t 55], none⟩, false, 0, 0⟩,
  ⟨⟨none, .op (.store 5 (.t 2) (.t 54)), none⟩, true, 0, 1⟩,
  ⟨⟨some 3, .op (.mv (.t 56)), none⟩, false, 1, 1⟩])
 .ret)))))))
theorem fn_buffer_Buf_settle : FnOk Try.prog F_buffer_Buf_settle 57 ac_buffer_Buf_settle [.cell 2 true 5, .t 3] :=
  ⟨[190, 189], Try.f119, Try.f119.body.getD .skip, Try.func119, by kernel_rfl, Try.ntmps119, by kernel_rfl, by kernel_rfl, Try.call119⟩
/-- skylight/buffer.Push -/
noncomputable def ac_buffer_Push : ACode :=
 (.seq
 (.region [
  ⟨some 2, .op (.box (.t 0)), none⟩,
  ⟨some 3, .op (.box (.t 1)), none⟩,
  ⟨some 4, .op (.alloc [.v (.int .u64 0), .v (.int .i64 0), .v (.int .u64 0), .v (.int .u64 0), .sl true []]), none⟩,
  ⟨some 5, .op (.mv (kN)), none⟩,
  ⟨some 6, .op (.mv (kI .i64 0)), none⟩])
 (.seq
 (.block 0
 (.seq
 (.region [
  ⟨some 11, .op (.fadr 2 (.t 3)), none⟩,
  ⟨some 12, .op (.load false 1 (.t 11)), none⟩,
  ⟨some 13, .op (.bin .eql (.t 12) (kI .u64 0)), none⟩,
  ⟨some 10, .op (.mv (.t 13)), none⟩])
 (.cond (.t 10)
 (.seq
 (.region [
  ⟨some 14, .op (.build [.v (.int .u64 0), .v (.int .i64 0), .v (.int .u64 0), .v (.int .u64 0), .sl true []] []), none⟩,
  ⟨none, .op (.store 5 (.t 4) (.t 14)), none⟩,
  ⟨some 5, .op (.mv (kN)), none⟩,
  ⟨some 6, .op (.mv (kI .i64 1)), none⟩])
 .ret)
 (.seq
 (.region [
  ⟨some 16, .op (.fadr 0 (.t 3)), none⟩,
  ⟨some 17, .op (.load false 1 (.t 16)), none⟩,
  ⟨some 18, .op (.bin .gtr (.t 17) (kI .u64 9223372036854775807)), none⟩,
  ⟨some 15, .op (.mv (.t 18)), none⟩])
 (.cond (.t 15)
 (.seq
 (.region [
  ⟨some 19, .op (.build [.v (.int .u64 0), .v (.int .i64 0), .v (.int .u64 0), .v (.int .u64 0), .sl true []] []), none⟩,
  ⟨none, .op (.store 5 (.t 4) (.t 19)), none⟩,
  ⟨some 5, .op (.mv (kN)), none⟩,
  ⟨some 6, .op (.mv (kI .i64 6)), none⟩])
 .ret)
 (.seq
 (.region [
  ⟨some 21, .op (.fadr 0 (.t 3)), none⟩,
  ⟨some 22, .op (.load false 1 (.t 21)), none⟩,
  ⟨some 23, .op (.fadr 3 (.t 2)), none⟩,
  ⟨some 24, .op (.load false 1 (.t 23)), none⟩,
  ⟨some 25, .op (.bin .lss (.t 22) (.t 24)), none⟩,
  ⟨some 20, .op (.mv (.t 25)), none⟩])
 (.cond (.t 20)
 (.seq
 (.region [
  ⟨some 26, .op (.build [.v (.int .u64 0), .v (.int .i64 0), .v (.int .u64 0), .v (.int .u64 0), .sl true []] []), none⟩,
  ⟨none, .op (.store 5 (.t 4) (.t 26)), none⟩,
  ⟨some 5, .op (.mv (kN)), none⟩,
  ⟨some 6, .op (.mv (kI .i64 4)), none⟩])
 .ret)
 .skip)))))))
 (.seq
 (.region [
  ⟨some 27, .op (.load true 5 (.t 2)), none⟩,
  ⟨some 28, .op (.fadr 0 (.t 3)), none⟩,
  ⟨some 29, .op (.load false 1 (.t 28)), none⟩,
  ⟨some 30, .call (kF F_buffer_Buf_below) [.t 27, .t 29], none⟩,
  ⟨some 7, .op (.mv (.t 30)), none⟩])
 (.seq
 (.region [
  ⟨some 31, .op (.fadr 2 (.t 2)), none⟩,
  ⟨some 32, .op (.load false 1 (.t 31)), none⟩,
  ⟨some 33, .op (.fadr 0 (.t 3)), none⟩,
  ⟨some 34, .op (.load false 1 (.t 33)), none⟩,
  ⟨some 35, .op (.bslice false 1 2 [.v (.int .u64 0)] [(0, .t 32), (1, .t 34)]), none⟩,
  ⟨some 36, .call (kF F_buffer_latest) [.t 35], none⟩,
  ⟨some 37, .op (.fadr 2 (.t 2)), none⟩,
  ⟨none, .op (.store 1 (.t 37) (.t 36)), none⟩])
 (.seq
 (.drawn [
  ⟨⟨some 38, .op (.fadr 4 (.t 2)), none⟩, false, 0, 0⟩,
  ⟨⟨some 39, .op (.load false 1 (.t 38)), none⟩, false, 0, 0⟩,
  ⟨⟨some 40, .op (.mv (.t 7)), none⟩, false, 0, 0⟩,
  ⟨⟨some 41, .op (.mv (.t 7)), none⟩, false, 0, 0⟩,
  ⟨⟨some 42, .op (.slc 3 (.t 39) none (some (.t 40)) (some (.t 41))), none⟩, false, 0, 0⟩,
  ⟨⟨some 43, .op (.load true 3 (.t 3)), none⟩, false, 0, 0⟩,
  ⟨⟨some 44, .op (.bslice true 3 1 [.v (.int .u64 0), .v (.int .u64 0), .v (.int .u64 0)] [(0, .t 43)]), none⟩, false, 0, 0⟩,
  ⟨⟨some 45, .op (.fadr 4 (.t 2)), none⟩, false, 0, 0⟩,
  ⟨⟨some 46, .op (.load false 1 (.t 45)), none⟩, false, 0, 0⟩,
  ⟨⟨some 47, .op (.mv (.t 7)), none⟩, false, 0, 0⟩,
  ⟨⟨some 48, .op (.slc 3 (.t 46) (some (.t 47)) none none), none⟩, false, 0, 0⟩,
  ⟨⟨some 49, .op (.bslice true 1 3 [.sl true []] [(0, .t 42), (1, .t 44), (2, .t 48)]), none⟩, false, 0, 0⟩,
  ⟨⟨some 50, .call (kF F_slices_Concat_s_api_Event) [.t 49], none⟩, false, 0, 0⟩,
  ⟨⟨some 51, .op (.fadr 4 (.t 2)), none⟩, false, 0, 0⟩,
  ⟨⟨none, .op (.store 1 (.t 51) (.t 50)), none⟩, true, 0, 1⟩])
 (.seq
 (.region [
  ⟨some 53, .op (.load true 5 (.t 2)), none⟩,
  ⟨some 54, .call (kF F_buffer_Buf_settle) [.t 53], none⟩,
  ⟨some 52, .op (.mv (.t 54)), none⟩,
  ⟨some 55, .op (.ext (.t 52) 0), none⟩,
  ⟨some 56, .op (.ext (.t 52) 1), none⟩,
  ⟨some 8, .op (.alloc [.v (.int .u64 0), .v (.int .i64 0), .v (.int .u64 0), .v (.int .u64 0), .sl true []]), none⟩,
  ⟨none, .op (.store 5 (.t 8) (.t 55)), none⟩,
  ⟨some 9, .op (.mv (.t 56)), none⟩])
 (.seq
 (.region [
  ⟨some 57, .op (.load true 5 (.t 8)), none⟩,
  ⟨some 58, .op (.mv (.t 9)), none⟩,
  ⟨none, .op (.store 5 (.t 4) (.t 57)), none⟩,
  ⟨some 5, .op (.mv (.t 58)), none⟩,
  ⟨some 6, .op (.mv (kI .i64 0)), none⟩])
 .ret)))))))
theorem fn_buffer_Push : FnOk Try.prog F_buffer_Push 59 ac_buffer_Push [.cell 4 true 5, .t 5, .t 6] :=
  ⟨[190, 189], Try.f58, Try.f58.body.getD .skip, Try.func58, by kernel_rfl, Try.ntmps58, by kernel_rfl, by kernel_rfl, Try.call58⟩
noncomputable def acl_hist_Total_0 : ACode :=
 (.seq
 (.region [
  ⟨some 10, .op (.bin .lss (.t 9) (.t 8)), none⟩])
 (.seq
 (.cond (.t 10)
 .skip
 (.exit 0))
 (.seq
 (.block 1
 (.seq
 (.region [
  ⟨some 11, .op (.mv (.t 9)), none⟩,
  ⟨some 12, .op (.iadr 1 (.t 7) (.t 9)), none⟩,
  ⟨some 13, .op (.load false 1 (.t 12)), none⟩,
  ⟨some 4, .op (.mv (.t 11)), none⟩,
  ⟨some 5, .op (.mv (.t 13)), none⟩])
 (.region [
  ⟨some 14, .op (.mv (.t 3)), none⟩,
  ⟨some 15, .op (.mv (.t 5)), none⟩,
  ⟨some 16, .op (.len (.t 15)), none⟩,
  ⟨some 17, .op (.conv .u64 (.t 16)), none⟩,
  ⟨some 18, .op (.mv (.t 4)), none⟩,
  ⟨some 19, .op (.bin .shl (.t 17) (.t 18)), none⟩,
  ⟨some 20, .op (.bin .add (.t 14) (.t 19)), none⟩,
  ⟨some 3, .op (.mv (.t 20)), none⟩])))
 (.region [
  ⟨some 21, .op (.bin .add (.t 9) (kI .i64 1)), none⟩,
  ⟨some 9, .op (.mv (.t 21)), none⟩]))))
/-- skylight/hist.Total -/
noncomputable def ac_hist_Total : ACode :=
 (.seq
 (.region [
  ⟨some 1, .op (.box (.t 0)), none⟩,
  ⟨some 2, .op (.mv (kI .u64 0)), none⟩])
 (.seq
 (.region [
  ⟨some 3, .op (.mv (kI .u64 0)), none⟩])
 (.seq
 (.seq
 (.region [
  ⟨some 6, .op (.fadr 2 (.t 1)), none⟩,
  ⟨some 7, .op (.load false 1 (.t 6)), none⟩,
  ⟨some 8, .op (.len (.t 7)), none⟩,
  ⟨some 9, .op (.mv (kI .i64 0)), none⟩])
 (.block 0
 (.loop acl_hist_Total_0)))
 (.seq
 (.region [
  ⟨some 22, .op (.mv (.t 3)), none⟩,
  ⟨some 2, .op (.mv (.t 22)), none⟩])
 .ret))))
theorem fn_hist_Total : FnOk Try.prog F_hist_Total 23 ac_hist_Total [.t 2] :=
  ⟨[190, 189], Try.f37, Try.f37.body.getD .skip, Try.func37, by kernel_rfl, Try.ntmps37, by kernel_rfl, by kernel_rfl, Try.call37⟩
noncomputable def acl_buffer_Weight_0 : ACode :=
 (.seq
 (.region [
  ⟨some 10, .op (.bin .lss (.t 9) (.t 8)), none⟩])
 (.seq
 (.cond (.t 10)
 .skip
 (.exit 0))
 (.seq
 (.block 1
 (.seq
 (.region [
  ⟨some 11, .op (.iadr 3 (.t 7) (.t 9)), none⟩,
  ⟨some 12, .op (.load true 3 (.t 11)), none⟩,
  ⟨some 5, .op (.alloc [.v (.int .u64 0), .v (.int .u64 0), .v (.int .u64 0)]), none⟩,
  ⟨none, .op (.store 3 (.t 5) (.t 12)), none⟩])
 (.region [
  ⟨some 13, .op (.mv (.t 3)), none⟩,
  ⟨some 14, .op (.fadr 2 (.t 5)), none⟩,
  ⟨some 15, .op (.load false 1 (.t 14)), none⟩,
  ⟨some 16, .op (.bin .add (.t 13) (.t 15)), none⟩,
  ⟨some 3, .op (.mv (.t 16)), none⟩])))
 (.region [
  ⟨some 17, .op (.bin .add (.t 9) (kI .i64 1)), none⟩,
  ⟨some 9, .op (.mv (.t 17)), none⟩]))))
/-- skylight/buffer.Weight -/
noncomputable def ac_buffer_Weight : ACode :=
 (.seq
 (.region [
  ⟨some 1, .op (.box (.t 0)), none⟩,
  ⟨some 2, .op (.mv (kI .u64 0)), none⟩])
 (.seq
 (.region [
  ⟨some 3, .op (.mv (kI .u64 0)), none⟩])
 (.seq
 (.seq
 (.region [
  ⟨some 6, .op (.fadr 4 (.t 1)), none⟩,
  ⟨some 7, .op (.load false 1 (.t 6)), none⟩,
  ⟨some 8, .op (.len (.t 7)), none⟩,
  ⟨some 9, .op (.mv (kI .i64 0)), none⟩])
 (.block 0
 (.loop acl_buffer_Weight_0)))
 (.seq
 (.region [
  ⟨some 18, .op (.mv (.t 3)), none⟩,
  ⟨some 2, .op (.mv (.t 18)), none⟩])
 .ret))))
theorem fn_buffer_Weight : FnOk Try.prog F_buffer_Weight 19 ac_buffer_Weight [.t 2] :=
  ⟨[190, 189], Try.f60, Try.f60.body.getD .skip, Try.func60, by kernel_rfl, Try.ntmps60, by kernel_rfl, by kernel_rfl, Try.call60⟩
noncomputable def acl_count_room_0 : ACode :=
 (.seq
 (.region [
  ⟨some 9, .op (.bin .lss (.t 8) (.t 7)), none⟩])
 (.seq
 (.cond (.t 9)
 .skip
 (.exit 0))
 (.seq
 (.block 1
 (.seq
 (.region [
  ⟨some 10, .op (.iadr 1 (.t 6) (.t 8)), none⟩,
  ⟨some 11, .op (.load false 1 (.t 10)), none⟩,
  ⟨some 5, .op (.mv (.t 11)), none⟩])
 (.seq
 (.seq
 (.region [
  ⟨some 12, .op (.mv (.t 5)), none⟩,
  ⟨some 13, .op (.mv (.t 3)), none⟩,
  ⟨some 14, .op (.bin .gtr (.t 12) (.t 13)), none⟩])
 (.cond (.t 14)
 (.seq
 (.region [
  ⟨some 2, .op (.mv (kB false)), none⟩])
 .ret)
 .skip))
 (.region [
  ⟨some 15, .op (.mv (.t 3)), none⟩,
  ⟨some 16, .op (.mv (.t 5)), none⟩,
  ⟨some 17, .op (.bin .sub (.t 15) (.t 16)), none⟩,
  ⟨some 3, .op (.mv (.t 17)), none⟩]))))
 (.region [
  ⟨some 18, .op (.bin .add (.t 8) (kI .i64 1)), none⟩,
  ⟨some 8, .op (.mv (.t 18)), none⟩]))))
/-- skylight/count.room -/
noncomputable def ac_count_room : ACode :=
 (.seq
 (.region [
  ⟨some 2, .op (.mv (kB false)), none⟩])
 (.seq
 (.region [
  ⟨some 3, .op (.mv (kI .u64 4503599627370496)), none⟩])
 (.seq
 (.seq
 (.region [
  ⟨some 6, .op (.mv (.t 0)), none⟩,
  ⟨some 7, .op (.len (.t 6)), none⟩,
  ⟨some 8, .op (.mv (kI .i64 0)), none⟩])
 (.block 0
 (.loop acl_count_room_0)))
 (.seq
 (.region [
  ⟨some 2, .op (.mv (kB true)), none⟩])
 .ret))))
theorem fn_count_room : FnOk Try.prog F_count_room 19 ac_count_room [.t 2] :=
  ⟨[190, 189], Try.f59, Try.f59.body.getD .skip, Try.func59, by kernel_rfl, Try.ntmps59, by kernel_rfl, by kernel_rfl, Try.call59⟩
/-- skylight/expiry.Old -/
noncomputable def ac_expiry_Old : ACode :=
 (.seq
 (.region [
  ⟨some 6, .op (.mv (kB false)), none⟩])
 (.seq
 (.region [
  ⟨some 7, .op (.mv (.t 2)), none⟩,
  ⟨some 8, .op (.mv (.t 1)), none⟩,
  ⟨some 9, .op (.bin .leq (.t 7) (.t 8)), none⟩,
  ⟨some 10, .op (.mv (.t 9)), none⟩,
  ⟨some 11, .op (.mv (.t 0)), some (10, true)⟩,
  ⟨some 12, .op (.mv (.t 1)), some (10, true)⟩,
  ⟨some 13, .op (.mv (.t 2)), some (10, true)⟩,
  ⟨some 14, .op (.bin .sub (.t 12) (.t 13)), some (10, true)⟩,
  ⟨some 15, .op (.bin .leq (.t 11) (.t 14)), some (10, true)⟩,
  ⟨some 16, .op (.pick (.t 10) (.t 15) (kB false)), none⟩,
  ⟨some 6, .op (.mv (.t 16)), none⟩])
 .ret))
theorem fn_expiry_Old : FnOk Try.prog F_expiry_Old 17 ac_expiry_Old [.t 6] :=
  ⟨[190, 189], Try.f140, Try.f140.body.getD .skip, Try.func140, by kernel_rfl, Try.ntmps140, by kernel_rfl, by kernel_rfl, Try.call140⟩
/-- skylight/expiry.Drop$1 -/
noncomputable def ac_expiry_Drop_1 : ACode :=
 (.seq
 (.region [
  ⟨some 3, .op (.box (.t 0)), none⟩,
  ⟨some 4, .op (.mv (kB false)), none⟩])
 (.seq
 (.region [
  ⟨some 5, .op (.fadr 1 (.t 3)), none⟩,
  ⟨some 6, .op (.load false 1 (.t 5)), none⟩,
  ⟨some 7, .op (.load false 1 (.t 1)), none⟩,
  ⟨some 8, .op (.load false 1 (.t 2)), none⟩,
  ⟨some 9, .call (kF F_expiry_Old) [.t 6, .t 7, .t 8], none⟩,
  ⟨some 4, .op (.mv (.t 9)), none⟩])
 .ret))
theorem fn_expiry_Drop_1 : FnOk Try.prog F_expiry_Drop_1 10 ac_expiry_Drop_1 [.t 4] :=
  ⟨[190, 189], Try.f139, Try.f139.body.getD .skip, Try.func139, by kernel_rfl, Try.ntmps139, by kernel_rfl, by kernel_rfl, Try.call139⟩
noncomputable def acl_expiry_Drop_1 : ACode :=
 (.seq
 (.region [
  ⟨some 29, .op (.bin .lss (.t 28) (.t 27)), none⟩])
 (.seq
 (.cond (.t 29)
 .skip
 (.exit 2))
 (.seq
 (.block 3
 (.seq
 (.region [
  ⟨some 30, .op (.mv (.t 28)), none⟩,
  ⟨some 31, .op (.iadr 2 (.t 26) (.t 28)), none⟩,
  ⟨some 32, .op (.load true 2 (.t 31)), none⟩,
  ⟨some 12, .op (.alloc [.v (.int .u64 0), .v (.int .u64 0)]), none⟩,
  ⟨some 11, .op (.mv (.t 30)), none⟩,
  ⟨none, .op (.store 2 (.t 12) (.t 32)), none⟩])
 (.seq
 (.region [
  ⟨some 33, .op (.mv (.t 7)), none⟩,
  ⟨some 34, .op (.load true 2 (.t 12)), none⟩,
  ⟨some 35, .call (.t 33) [.t 34], none⟩,
  ⟨some 36, .op (.un .not (.t 35)), none⟩])
 (.cond (.t 36)
 (.seq
 (.drawn [
  ⟨⟨some 37, .op (.fadr 2 (.t 8)), none⟩, false, 0, 0⟩,
  ⟨⟨some 38, .op (.load false 1 (.t 37)), none⟩, false, 0, 0⟩,
  ⟨⟨some 39, .op (.mv (.t 10)), none⟩, false, 0, 0⟩,
  ⟨⟨some 40, .op (.mv (.t 11)), none⟩, false, 0, 0⟩,
  ⟨⟨some 41, .op (.mv (.t 10)), none⟩, false, 0, 0⟩,
  ⟨⟨some 42, .op (.len (.t 41)), none⟩, false, 0, 0⟩,
  ⟨⟨some 43, .op (.mv (.t 10)), none⟩, false, 0, 0⟩,
  ⟨⟨some 44, .op (.len (.t 43)), none⟩, false, 0, 0⟩,
  ⟨⟨some 45, .op (.slc 2 (.t 39) (some (.t 40)) (some (.t 42)) (some (.t 44))), none⟩, false, 0, 0⟩,
  ⟨⟨some 46, .op (.bslice true 1 1 [.sl true []] [(0, .t 45)]), none⟩, false, 0, 0⟩,
  ⟨⟨some 47, .op (.app 1 24 (.t 38) (.t 46)), none⟩, true, 0, 1⟩,
  ⟨⟨some 48, .op (.fadr 2 (.t 8)), none⟩, false, 1, 1⟩,
  ⟨⟨none, .op (.store 1 (.t 48) (.t 47)), none⟩, true, 1, 2⟩])
 (.exit 1))
 .skip))))
 (.region [
  ⟨some 49, .op (.bin .add (.t 28) (kI .i64 1)), none⟩,
  ⟨some 28, .op (.mv (.t 49)), none⟩]))))
noncomputable def acl_expiry_Drop_0 : ACode :=
 (.seq
 (.region [
  ⟨some 23, .op (.bin .lss (.t 22) (.t 21)), none⟩])
 (.seq
 (.cond (.t 23)
 .skip
 (.exit 0))
 (.seq
 (.block 1
 (.seq
 (.region [
  ⟨some 24, .op (.iadr 1 (.t 20) (.t 22)), none⟩,
  ⟨some 25, .op (.load false 1 (.t 24)), none⟩,
  ⟨some 10, .op (.mv (.t 25)), none⟩])
 (.seq
 (.seq
 (.region [
  ⟨some 26, .op (.mv (.t 10)), none⟩,
  ⟨some 27, .op (.len (.t 26)), none⟩,
  ⟨some 28, .op (.mv (kI .i64 0)), none⟩])
 (.block 2
 (.loop acl_expiry_Drop_1)))
 (.exit 0))))
 (.region [
  ⟨some 50, .op (.bin .add (.t 22) (kI .i64 1)), none⟩,
  ⟨some 22, .op (.mv (.t 50)), none⟩]))))
/-- skylight/expiry.Drop -/
noncomputable def ac_expiry_Drop : ACode :=
 (.seq
 (.region [
  ⟨some 3, .op (.box (.t 0)), none⟩,
  ⟨some 4, .op (.box (.t 1)), none⟩,
  ⟨some 5, .op (.box (.t 2)), none⟩,
  ⟨some 6, .op (.alloc [.v (.int .i64 0), .v (.int .i64 0), .sl true []]), none⟩])
 (.scope
 (.seq
 (.region [
  ⟨some 13, .op (.mkfn (.func F_expiry_Drop_1) [.t 4, .t 5]), none⟩,
  ⟨some 7, .op (.mv (.t 13)), none⟩])
 (.seq
 (.region [
  ⟨some 14, .op (.fadr 0 (.t 3)), none⟩,
  ⟨some 15, .op (.load false 1 (.t 14)), none⟩,
  ⟨some 16, .op (.fadr 1 (.t 3)), none⟩,
  ⟨some 17, .op (.load false 1 (.t 16)), none⟩,
  ⟨some 18, .op (.build [.v (.int .i64 0), .v (.int .i64 0), .sl true []] [(0, 1, .t 15), (1, 1, .t 17)]), none⟩,
  ⟨some 8, .op (.alloc [.v (.int .i64 0), .v (.int .i64 0), .sl true []]), none⟩,
  ⟨none, .op (.store 3 (.t 8) (.t 18)), none⟩])
 (.seq
 .skip
 (.seq
 (.seq
 (.region [
  ⟨some 19, .op (.fadr 2 (.t 3)), none⟩,
  ⟨some 20, .op (.load false 1 (.t 19)), none⟩,
  ⟨some 21, .op (.len (.t 20)), none⟩,
  ⟨some 22, .op (.mv (kI .i64 0)), none⟩])
 (.block 0
 (.loop acl_expiry_Drop_0)))
 (.seq
 (.region [
  ⟨some 51, .op (.load true 3 (.t 8)), none⟩,
  ⟨none, .op (.store 3 (.t 6) (.t 51)), none⟩])
 .ret)))))))
theorem fn_expiry_Drop : FnOk Try.prog F_expiry_Drop 52 ac_expiry_Drop [.cell 6 true 3] :=
  ⟨[190, 189], Try.f79, Try.f79.body.getD .skip, Try.func79, by kernel_rfl, Try.ntmps79, by kernel_rfl, by kernel_rfl, Try.call79⟩
/-- (*skylight/count.Sketch).drop -/
noncomputable def ac_count_Sketch_drop : ACode :=
 (.drawn [
  ⟨⟨some 2, .op (.mv (.t 0)), none⟩, false, 0, 0⟩,
  ⟨⟨some 3, .op (.mv (.t 0)), none⟩, false, 0, 0⟩,
  ⟨⟨some 4, .op (.nilck (.t 3)), none⟩, false, 0, 0⟩,
  ⟨⟨some 5, .op (.fadr 6 (.t 4)), none⟩, false, 0, 0⟩,
  ⟨⟨some 6, .op (.load true 3 (.t 5)), none⟩, false, 0, 0⟩,
  ⟨⟨some 7, .op (.mv (.t 0)), none⟩, false, 0, 0⟩,
  ⟨⟨some 8, .op (.nilck (.t 7)), none⟩, false, 0, 0⟩,
  ⟨⟨some 9, .op (.fadr 1 (.t 8)), none⟩, false, 0, 0⟩,
  ⟨⟨some 10, .op (.fadr 3 (.t 9)), none⟩, false, 0, 0⟩,
  ⟨⟨some 11, .op (.load false 1 (.t 10)), none⟩, false, 0, 0⟩,
  ⟨⟨some 12, .op (.mv (.t 0)), none⟩, false, 0, 0⟩,
  ⟨⟨some 13, .op (.nilck (.t 12)), none⟩, false, 0, 0⟩,
  ⟨⟨some 14, .op (.fadr 0 (.t 13)), none⟩, false, 0, 0⟩,
  ⟨⟨some 15, .op (.load false 1 (.t 14)), none⟩, false, 0, 0⟩,
  ⟨⟨some 16, .call (kF F_expiry_Drop) [.t 6, .t 11, .t 15], none⟩, false, 0, 0⟩,
  ⟨⟨some 17, .op (.nilck (.t 2)), none⟩, false, 0, 0⟩,
  ⟨⟨some 18, .op (.fadr 6 (.t 17)), none⟩, false, 0, 0⟩,
  ⟨⟨none, .op (.store 3 (.t 18) (.t 16)), none⟩, true, 0, 1⟩])
theorem fn_count_Sketch_drop : FnOk Try.prog F_count_Sketch_drop 19 ac_count_Sketch_drop [] :=
  ⟨[190, 189], Try.f120, Try.f120.body.getD .skip, Try.func120, by kernel_rfl, Try.ntmps120, by kernel_rfl, by kernel_rfl, Try.call120⟩
/-- skylight/hist.Last -/
noncomputable def ac_hist_Last : ACode :=
 (.seq
 (.region [
  ⟨some 1, .op (.box (.t 0)), none⟩,
  ⟨some 2, .op (.mv (kI .u64 0)), none⟩,
  ⟨some 3, .op (.mv (kB false)), none⟩])
 (.seq
 (.seq
 (.region [
  ⟨some 5, .op (.fadr 2 (.t 1)), none⟩,
  ⟨some 6, .op (.load false 1 (.t 5)), none⟩,
  ⟨some 7, .op (.len (.t 6)), none⟩,
  ⟨some 8, .op (.bin .eql (.t 7) (kI .i64 0)), none⟩,
  ⟨some 9, .op (.mv (.t 8)), none⟩,
  ⟨some 10, .op (.fadr 2 (.t 1)), some (9, false)⟩,
  ⟨some 11, .op (.load false 1 (.t 10)), some (9, false)⟩,
  ⟨some 12, .op (.iadr 1 (.t 11) (kI .i64 0)), some (9, false)⟩,
  ⟨some 13, .op (.load false 1 (.t 12)), some (9, false)⟩,
  ⟨some 14, .op (.len (.t 13)), some (9, false)⟩,
  ⟨some 15, .op (.bin .eql (.t 14) (kI .i64 0)), some (9, false)⟩,
  ⟨some 16, .op (.pick (.t 9) (kB true) (.t 15)), none⟩])
 (.cond (.t 16)
 (.seq
 (.region [
  ⟨some 2, .op (.mv (kI .u64 0)), none⟩,
  ⟨some 3, .op (.mv (kB false)), none⟩])
 .ret)
 .skip))
 (.seq
 (.region [
  ⟨some 17, .op (.fadr 2 (.t 1)), none⟩,
  ⟨some 18, .op (.load false 1 (.t 17)), none⟩,
  ⟨some 19, .op (.iadr 1 (.t 18) (kI .i64 0)), none⟩,
  ⟨some 20, .op (.load false 1 (.t 19)), none⟩,
  ⟨some 4, .op (.mv (.t 20)), none⟩])
 (.seq
 (.region [
  ⟨some 21, .op (.mv (.t 4)), none⟩,
  ⟨some 22, .op (.mv (.t 4)), none⟩,
  ⟨some 23, .op (.len (.t 22)), none⟩,
  ⟨some 24, .op (.bin .sub (.t 23) (kI .i64 1)), none⟩,
  ⟨some 25, .op (.iadr 2 (.t 21) (.t 24)), none⟩,
  ⟨some 26, .op (.fadr 1 (.t 25)), none⟩,
  ⟨some 27, .op (.load false 1 (.t 26)), none⟩,
  ⟨some 2, .op (.mv (.t 27)), none⟩,
  ⟨some 3, .op (.mv (kB true)), none⟩])
 .ret))))
theorem fn_hist_Last : FnOk Try.prog F_hist_Last 28 ac_hist_Last [.t 2, .t 3] :=
  ⟨[190, 189], Try.f103, Try.f103.body.getD .skip, Try.func103, by kernel_rfl, Try.ntmps103, by kernel_rfl, by kernel_rfl, Try.call103⟩
/-- skylight/level.Most -/
noncomputable def ac_level_Most : ACode :=
 (.seq
 (.region [
  ⟨some 4, .op (.mv (kI .i64 0)), none⟩])
 (.seq
 (.region [
  ⟨some 5, .op (.mv (.t 0)), none⟩,
  ⟨some 6, .op (.mx [.t 5, kI .i64 0]), none⟩,
  ⟨some 0, .op (.mv (.t 6)), none⟩])
 (.seq
 (.seq
 (.region [
  ⟨some 7, .op (.mv (.t 1)), none⟩,
  ⟨some 8, .op (.bin .eql (.t 7) (kI .i64 0)), none⟩])
 (.cond (.t 8)
 (.seq
 (.region [
  ⟨some 9, .op (.mv (.t 0)), none⟩,
  ⟨some 10, .op (.bin .add (.t 9) (kI .i64 1)), none⟩,
  ⟨some 4, .op (.mv (.t 10)), none⟩])
 .ret)
 .skip))
 (.seq
 (.region [
  ⟨some 11, .op (.mv (.t 0)), none⟩,
  ⟨some 12, .op (.bin .add (.t 11) (kI .i64 1)), none⟩,
  ⟨some 13, .op (.bin .quo (.t 12) (kI .i64 2)), none⟩,
  ⟨some 14, .op (.bin .add (.t 13) (kI .i64 1)), none⟩,
  ⟨some 4, .op (.mv (.t 14)), none⟩])
 .ret))))
theorem fn_level_Most : FnOk Try.prog F_level_Most 15 ac_level_Most [.t 4] :=
  ⟨[190, 189], Try.f153, Try.f153.body.getD .skip, Try.func153, by kernel_rfl, Try.ntmps153, by kernel_rfl, by kernel_rfl, Try.call153⟩
/-- skylight/level.bounded[int] -/
noncomputable def ac_level_bounded_int : ACode :=
 (.seq
 (.region [
  ⟨some 4, .op (.mv (kI .i64 0)), none⟩])
 (.seq
 (.seq
 (.region [
  ⟨some 5, .op (.mv (.t 0)), none⟩,
  ⟨some 6, .op (.mv (.t 1)), none⟩,
  ⟨some 7, .op (.bin .lss (.t 5) (.t 6)), none⟩])
 (.cond (.t 7)
 (.seq
 (.region [
  ⟨some 8, .op (.mv (.t 1)), none⟩,
  ⟨some 4, .op (.mv (.t 8)), none⟩])
 .ret)
 .skip))
 (.seq
 (.region [
  ⟨some 9, .op (.mv (.t 0)), none⟩,
  ⟨some 4, .op (.mv (.t 9)), none⟩])
 .ret)))
theorem fn_level_bounded_int : FnOk Try.prog F_level_bounded_int 10 ac_level_bounded_int [.t 4] :=
  ⟨[190, 189], Try.f186, Try.f186.body.getD .skip, Try.func186, by kernel_rfl, Try.ntmps186, by kernel_rfl, by kernel_rfl, Try.call186⟩
/-- (*skylight/level.line).long -/
noncomputable def ac_level_line_long : ACode :=
 (.seq
 (.region [
  ⟨some 2, .op (.mv (kI .u64 0)), none⟩])
 (.seq
 (.drawn [
  ⟨⟨some 3, .op (.mv (.t 0)), none⟩, false, 0, 0⟩,
  ⟨⟨some 4, .op (.nilck (.t 3)), none⟩, false, 0, 0⟩,
  ⟨⟨some 5, .op (.fadr 0 (.t 4)), none⟩, false, 0, 0⟩,
  ⟨⟨some 6, .op (.load false 1 (.t 5)), none⟩, false, 0, 0⟩,
  ⟨⟨some 7, .op (.len (.t 6)), none⟩, false, 0, 0⟩,
  ⟨⟨some 8, .op (.conv .u64 (.t 7)), none⟩, false, 0, 0⟩,
  ⟨⟨some 9, .op (.mv (.t 0)), none⟩, false, 0, 0⟩,
  ⟨⟨some 10, .op (.nilck (.t 9)), none⟩, false, 0, 0⟩,
  ⟨⟨some 11, .op (.fadr 1 (.t 10)), none⟩, false, 0, 0⟩,
  ⟨⟨some 12, .op (.load false 1 (.t 11)), none⟩, false, 0, 0⟩,
  ⟨⟨some 13, .op (.bin .add (.t 8) (.t 12)), none⟩, false, 0, 0⟩,
  ⟨⟨some 2, .op (.mv (.t 13)), none⟩, false, 0, 0⟩])
 .ret))
theorem fn_level_line_long : FnOk Try.prog F_level_line_long 14 ac_level_line_long [.t 2] :=
  ⟨[190, 189], Try.f189, Try.f189.body.getD .skip, Try.func189, by kernel_rfl, Try.ntmps189, by kernel_rfl, by kernel_rfl, Try.call189⟩
/-- skylight/level.bounded[uint64] -/
noncomputable def ac_level_bounded_uint64 : ACode :=
 (.seq
 (.region [
  ⟨some 4, .op (.mv (kI .u64 0)), none⟩])
 (.seq
 (.seq
 (.region [
  ⟨some 5, .op (.mv (.t 0)), none⟩,
  ⟨some 6, .op (.mv (.t 1)), none⟩,
  ⟨some 7, .op (.bin .lss (.t 5) (.t 6)), none⟩])
 (.cond (.t 7)
 (.seq
 (.region [
  ⟨some 8, .op (.mv (.t 1)), none⟩,
  ⟨some 4, .op (.mv (.t 8)), none⟩])
 .ret)
 .skip))
 (.seq
 (.region [
  ⟨some 9, .op (.mv (.t 0)), none⟩,
  ⟨some 4, .op (.mv (.t 9)), none⟩])
 .ret)))
theorem fn_level_bounded_uint64 : FnOk Try.prog F_level_bounded_uint64 10 ac_level_bounded_uint64 [.t 4] :=
  ⟨[190, 189], Try.f188, Try.f188.body.getD .skip, Try.func188, by kernel_rfl, Try.ntmps188, by kernel_rfl, by kernel_rfl, Try.call188⟩
/-- skylight/level.Push$1 -/
noncomputable def ac_level_Push_1 : ACode :=
 (.seq
 (.region [
  ⟨some 2, .op (.mv (kI .u64 0)), none⟩])
 (.seq
 (.drawn [
  ⟨⟨some 3, .op (.load false 1 (.t 0)), none⟩, false, 0, 0⟩,
  ⟨⟨some 4, .call (kF F_level_line_long) [.t 3], none⟩, true, 0, 1⟩,
  ⟨⟨some 5, .op (.load false 1 (.t 1)), none⟩, false, 0, 1⟩,
  ⟨⟨some 6, .call (kF F_level_bounded_uint64) [.t 4, .t 5], none⟩, false, 1, 1⟩,
  ⟨⟨some 7, .op (.load false 1 (.t 1)), none⟩, false, 0, 1⟩,
  ⟨⟨some 8, .op (.bin .sub (.t 6) (.t 7)), none⟩, false, 1, 1⟩,
  ⟨⟨some 2, .op (.mv (.t 8)), none⟩, false, 1, 1⟩])
 .ret))
theorem fn_level_Push_1 : FnOk Try.prog F_level_Push_1 9 ac_level_Push_1 [.t 2] :=
  ⟨[190, 189], Try.f187, Try.f187.body.getD .skip, Try.func187, by kernel_rfl, Try.ntmps187, by kernel_rfl, by kernel_rfl, Try.call187⟩
/-- (*skylight/level.line).next -/
noncomputable def ac_level_line_next : ACode :=
 (.seq
 (.region [
  ⟨some 2, .op (.alloc [.v (.int .u64 0), .v (.int .u64 0)]), none⟩])
 (.seq
 (.seq
 (.region [
  ⟨some 4, .op (.mv (.t 0)), none⟩,
  ⟨some 5, .op (.nilck (.t 4)), none⟩,
  ⟨some 6, .op (.fadr 0 (.t 5)), none⟩,
  ⟨some 7, .op (.load false 1 (.t 6)), none⟩,
  ⟨some 8, .op (.len (.t 7)), none⟩,
  ⟨some 9, .op (.bin .gtr (.t 8) (kI .i64 0)), none⟩])
 (.cond (.t 9)
 (.seq
 (.region [
  ⟨some 10, .op (.mv (.t 0)), none⟩,
  ⟨some 11, .op (.nilck (.t 10)), none⟩,
  ⟨some 12, .op (.fadr 0 (.t 11)), none⟩,
  ⟨some 13, .op (.load false 1 (.t 12)), none⟩,
  ⟨some 14, .op (.iadr 2 (.t 13) (kI .i64 0)), none⟩,
  ⟨some 15, .op (.load true 2 (.t 14)), none⟩,
  ⟨some 3, .op (.alloc [.v (.int .u64 0), .v (.int .u64 0)]), none⟩,
  ⟨none, .op (.store 2 (.t 3) (.t 15)), none⟩])
 (.seq
 (.region [
  ⟨some 16, .op (.mv (.t 0)), none⟩,
  ⟨some 17, .op (.mv (.t 0)), none⟩,
  ⟨some 18, .op (.nilck (.t 17)), none⟩,
  ⟨some 19, .op (.fadr 0 (.t 18)), none⟩,
  ⟨some 20, .op (.load false 1 (.t 19)), none⟩,
  ⟨some 21, .op (.slc 2 (.t 20) (some (kI .i64 1)) none none), none⟩,
  ⟨some 22, .op (.nilck (.t 16)), none⟩,
  ⟨some 23, .op (.fadr 0 (.t 22)), none⟩,
  ⟨none, .op (.store 1 (.t 23) (.t 21)), none⟩])
 (.seq
 (.region [
  ⟨some 24, .op (.load true 2 (.t 3)), none⟩,
  ⟨none, .op (.store 2 (.t 2) (.t 24)), none⟩])
 .ret)))
 .skip))
 (.seq
 (.region [
  ⟨some 25, .op (.mv (.t 0)), none⟩,
  ⟨some 26, .op (.nilck (.t 25)), none⟩,
  ⟨some 27, .op (.fadr 1 (.t 26)), none⟩,
  ⟨some 28, .op (.load false 1 (.t 27)), none⟩,
  ⟨some 29, .op (.bin .sub (.t 28) (kI .u64 1)), none⟩,
  ⟨some 30, .op (.nilck (.t 25)), none⟩,
  ⟨some 31, .op (.fadr 1 (.t 30)), none⟩,
  ⟨none, .op (.store 1 (.t 31) (.t 29)), none⟩])
 (.seq
 (.drawn [
  ⟨⟨some 32, .op (.mv (.t 0)), none⟩, false, 0, 0⟩,
  ⟨⟨some 33, .op (.nilck (.t 32)), none⟩, false, 0, 0⟩,
  ⟨⟨some 34, .op (.fadr 2 (.t 33)), none⟩, false, 0, 0⟩,
  ⟨⟨some 35, .op (.load false 1 (.t 34)), none⟩, false, 0, 0⟩,
  ⟨⟨some 36, .op (.mv (.t 0)), none⟩, false, 0, 0⟩,
  ⟨⟨some 37, .op (.nilck (.t 36)), none⟩, false, 0, 0⟩,
  ⟨⟨some 38, .op (.fadr 2 (.t 37)), none⟩, false, 0, 0⟩,
  ⟨⟨some 39, .op (.load false 1 (.t 38)), none⟩, false, 0, 0⟩,
  ⟨⟨some 40, .op (.build [.v (.int .u64 0), .v (.int .u64 0)] [(0, 1, .t 35), (1, 1, .t 39)]), none⟩, false, 0, 0⟩,
  ⟨⟨none, .op (.store 2 (.t 2) (.t 40)), none⟩, true, 0, 1⟩])
 .ret))))
theorem fn_level_line_next : FnOk Try.prog F_level_line_next 41 ac_level_line_next [.cell 2 true 2] :=
  ⟨[190, 189], Try.f190, Try.f190.body.getD .skip, Try.func190, by kernel_rfl, Try.ntmps190, by kernel_rfl, by kernel_rfl, Try.call190⟩
/-- skylight/level.both -/
noncomputable def ac_level_both : ACode :=
 (.seq
 (.region [
  ⟨some 2, .op (.box (.t 0)), none⟩,
  ⟨some 3, .op (.box (.t 1)), none⟩,
  ⟨some 4, .op (.alloc [.v (.int .u64 0), .v (.int .u64 0)]), none⟩])
 (.seq
 (.region [
  ⟨some 5, .op (.fadr 0 (.t 2)), none⟩,
  ⟨some 6, .op (.load false 1 (.t 5)), none⟩,
  ⟨some 7, .op (.fadr 1 (.t 3)), none⟩,
  ⟨some 8, .op (.load false 1 (.t 7)), none⟩,
  ⟨some 9, .op (.build [.v (.int .u64 0), .v (.int .u64 0)] [(0, 1, .t 6), (1, 1, .t 8)]), none⟩,
  ⟨none, .op (.store 2 (.t 4) (.t 9)), none⟩])
 .ret))
theorem fn_level_both : FnOk Try.prog F_level_both 10 ac_level_both [.cell 4 true 2] :=
  ⟨[190, 189], Try.f191, Try.f191.body.getD .skip, Try.func191, by kernel_rfl, Try.ntmps191, by kernel_rfl, by kernel_rfl, Try.call191⟩
noncomputable def acl_level_Push_0 : ACode :=
 (.seq
 (.region [
  ⟨some 30, .op (.bin .lss (.t 29) (kI .i64 2)), none⟩])
 (.seq
 (.cond (.t 30)
 .skip
 (.exit 0))
 (.seq
 (.block 1
 (.seq
 (.region [
  ⟨some 31, .op (.idxA 2 1 false (.t 28) (.t 29)), none⟩,
  ⟨some 15, .op (.mv (.t 31)), none⟩])
 (.drawn [
  ⟨⟨some 32, .op (.load false 1 (.t 13)), none⟩, false, 0, 1⟩,
  ⟨⟨some 33, .op (.load false 1 (.t 13)), none⟩, false, 0, 0⟩,
  ⟨⟨some 34, .op (.nilck (.t 33)), none⟩, false, 0, 0⟩,
  ⟨⟨some 35, .op (.fadr 0 (.t 34)), none⟩, false, 0, 0⟩,
  ⟨⟨some 36, .op (.load false 1 (.t 35)), none⟩, false, 0, 0⟩,
  ⟨⟨some 37, .op (.mv (.t 15)), none⟩, false, 0, 0⟩,
  ⟨⟨some 38, .op (.app 2 16 (.t 36) (.t 37)), none⟩, true, 0, 1⟩,
  ⟨⟨some 39, .op (.nilck (.t 32)), none⟩, false, 1, 1⟩,
  ⟨⟨some 40, .op (.fadr 0 (.t 39)), none⟩, false, 1, 1⟩,
  ⟨⟨none, .op (.store 1 (.t 40) (.t 38)), none⟩, true, 1, 2⟩])))
 (.region [
  ⟨some 41, .op (.bin .add (.t 29) (kI .i64 1)), none⟩,
  ⟨some 29, .op (.mv (.t 41)), none⟩]))))
noncomputable def acl_level_Push_1 : ACode :=
 (.seq
 (.seq
 (.region [
  ⟨some 46, .op (.mv (.t 17)), none⟩,
  ⟨some 47, .call (.t 46) [], none⟩,
  ⟨some 48, .op (.bin .gtr (.t 47) (kI .u64 0)), none⟩,
  ⟨some 49, .op (.mv (.t 48)), none⟩,
  ⟨some 50, .op (.load false 1 (.t 13)), some (49, true)⟩,
  ⟨some 51, .op (.nilck (.t 50)), some (49, true)⟩,
  ⟨some 52, .op (.fadr 0 (.t 51)), some (49, true)⟩,
  ⟨some 53, .op (.load false 1 (.t 52)), some (49, true)⟩,
  ⟨some 54, .op (.len (.t 53)), some (49, true)⟩,
  ⟨some 55, .op (.bin .gtr (.t 54) (kI .i64 0)), some (49, true)⟩,
  ⟨some 56, .op (.pick (.t 49) (.t 55) (kB false)), none⟩])
 (.cond (.t 56)
 .skip
 (.exit 2)))
 (.block 3
 (.seq
 (.region [
  ⟨some 57, .op (.load false 1 (.t 13)), none⟩,
  ⟨some 58, .call (kF F_level_line_next) [.t 57], none⟩,
  ⟨some 19, .op (.alloc [.v (.int .u64 0), .v (.int .u64 0)]), none⟩,
  ⟨none, .op (.store 2 (.t 19) (.t 58)), none⟩])
 (.drawn [
  ⟨⟨some 59, .op (.mv (.t 18)), none⟩, false, 0, 1⟩,
  ⟨⟨some 60, .op (.load true 2 (.t 19)), none⟩, false, 0, 1⟩,
  ⟨⟨some 61, .op (.load false 1 (.t 13)), none⟩, false, 0, 0⟩,
  ⟨⟨some 62, .call (kF F_level_line_next) [.t 61], none⟩, true, 0, 1⟩,
  ⟨⟨some 63, .call (kF F_level_both) [.t 60, .t 62], none⟩, false, 1, 1⟩,
  ⟨⟨some 64, .op (.bslice true 2 1 [.v (.int .u64 0), .v (.int .u64 0)] [(0, .t 63)]), none⟩, false, 1, 1⟩,
  ⟨⟨some 65, .op (.app 2 16 (.t 59) (.t 64)), none⟩, true, 1, 2⟩,
  ⟨⟨some 18, .op (.mv (.t 65)), none⟩, false, 2, 2⟩]))))
noncomputable def acl_level_Push_2 : ACode :=
 (.seq
 (.seq
 (.region [
  ⟨some 79, .op (.load false 1 (.t 13)), none⟩,
  ⟨some 80, .call (kF F_level_line_long) [.t 79], none⟩,
  ⟨some 81, .op (.bin .gtr (.t 80) (kI .u64 0)), none⟩])
 (.cond (.t 81)
 .skip
 (.exit 4)))
 (.block 5
 (.region [
  ⟨some 82, .op (.mv (.t 21)), none⟩,
  ⟨some 83, .op (.load false 1 (.t 13)), none⟩,
  ⟨some 84, .call (kF F_level_line_next) [.t 83], none⟩,
  ⟨some 85, .op (.bslice false 2 1 [.v (.int .u64 0), .v (.int .u64 0)] [(0, .t 84)]), none⟩,
  ⟨some 86, .op (.app 2 16 (.t 82) (.t 85)), none⟩,
  ⟨some 21, .op (.mv (.t 86)), none⟩])))
/-- skylight/level.Push -/
noncomputable def ac_level_Push : ACode :=
 (.seq
 (.region [
  ⟨some 10, .op (.mv (kN)), none⟩,
  ⟨some 11, .op (.mv (kN)), none⟩,
  ⟨some 12, .op (.mv (kI .u64 0)), none⟩])
 (.seq
 (.region [
  ⟨some 22, .op (.mv (.t 3)), none⟩,
  ⟨some 23, .op (.mv (.t 4)), none⟩,
  ⟨some 24, .op (.build [.sl true [], .v (.int .u64 0), .v (.int .u64 0)] [(1, 1, .t 22), (2, 1, .t 23)]), none⟩,
  ⟨some 25, .op (.box (.t 24)), none⟩,
  ⟨some 13, .op (.alloc [.v (.pointer none)]), none⟩,
  ⟨none, .op (.store 1 (.t 13) (.t 25)), none⟩])
 (.seq
 (.seq
 (.region [
  ⟨some 26, .op (.mv (.t 0)), none⟩,
  ⟨some 27, .op (.mv (.t 2)), none⟩,
  ⟨some 28, .op (.build [.sl true [], .sl true []] [(0, 1, .t 26), (1, 1, .t 27)]), none⟩,
  ⟨some 29, .op (.mv (kI .i64 0)), none⟩])
 (.block 0
 (.loop acl_level_Push_0)))
 (.seq
 (.region [
  ⟨some 42, .op (.mv (.t 1)), none⟩,
  ⟨some 43, .call (kF F_level_bounded_int) [.t 42, kI .i64 1], none⟩,
  ⟨some 44, .op (.conv .u64 (.t 43)), none⟩,
  ⟨some 16, .op (.alloc [.v (.int .u64 0)]), none⟩,
  ⟨none, .op (.store 1 (.t 16) (.t 44)), none⟩])
 (.seq
 (.region [
  ⟨some 45, .op (.mkfn (.func F_level_Push_1) [.t 13, .t 16]), none⟩,
  ⟨some 17, .op (.mv (.t 45)), none⟩])
 (.seq
 (.region [
  ⟨some 18, .op (.mv (kN)), none⟩])
 (.seq
 (.block 2
 (.loop acl_level_Push_1))
 (.seq
 (.region [
  ⟨some 66, .op (.mv (.t 17)), none⟩,
  ⟨some 67, .call (.t 66) [], none⟩,
  ⟨some 68, .op (.bin .add (.t 67) (kI .u64 1)), none⟩,
  ⟨some 69, .op (.bin .quo (.t 68) (kI .u64 2)), none⟩,
  ⟨some 20, .op (.mv (.t 69)), none⟩])
 (.seq
 (.region [
  ⟨some 70, .op (.load false 1 (.t 13)), none⟩,
  ⟨some 71, .op (.nilck (.t 70)), none⟩,
  ⟨some 72, .op (.fadr 1 (.t 71)), none⟩,
  ⟨some 73, .op (.load false 1 (.t 72)), none⟩,
  ⟨some 74, .op (.mv (.t 20)), none⟩,
  ⟨some 75, .op (.bin .mul (kI .u64 2) (.t 74)), none⟩,
  ⟨some 76, .op (.bin .sub (.t 73) (.t 75)), none⟩,
  ⟨some 77, .op (.nilck (.t 70)), none⟩,
  ⟨some 78, .op (.fadr 1 (.t 77)), none⟩,
  ⟨none, .op (.store 1 (.t 78) (.t 76)), none⟩])
 (.seq
 (.region [
  ⟨some 21, .op (.mv (kN)), none⟩])
 (.seq
 (.block 4
 (.loop acl_level_Push_2))
 (.seq
 (.region [
  ⟨some 87, .op (.mv (.t 21)), none⟩,
  ⟨some 88, .op (.mv (.t 18)), none⟩,
  ⟨some 89, .op (.mv (.t 20)), none⟩,
  ⟨some 10, .op (.mv (.t 87)), none⟩,
  ⟨some 11, .op (.mv (.t 88)), none⟩,
  ⟨some 12, .op (.mv (.t 89)), none⟩])
 .ret))))))))))))
theorem fn_level_Push : FnOk Try.prog F_level_Push 90 ac_level_Push [.t 10, .t 11, .t 12] :=
  ⟨[190, 189], Try.f152, Try.f152.body.getD .skip, Try.func152, by kernel_rfl, Try.ntmps152, by kernel_rfl, by kernel_rfl, Try.call152⟩
noncomputable def acl_hist_Hist_flow_1_0 : ACode :=
 (.seq
 (.seq
 (.region [
  ⟨some 13, .op (.mv (.t 5)), none⟩,
  ⟨some 14, .op (.len (.t 13)), none⟩,
  ⟨some 15, .op (.bin .gtr (.t 14) (kI .i64 0)), none⟩,
  ⟨some 16, .op (.mv (.t 15)), none⟩,
  ⟨some 17, .op (.mv (.t 6)), some (16, false)⟩,
  ⟨some 18, .op (.bin .gtr (.t 17) (kI .u64 0)), some (16, false)⟩,
  ⟨some 19, .op (.pick (.t 16) (kB true) (.t 18)), none⟩,
  ⟨some 20, .op (.mv (.t 19)), none⟩,
  ⟨some 21, .op (.mv (.t 7)), some (20, false)⟩,
  ⟨some 22, .op (.fadr 2 (.t 2)), some (20, false)⟩,
  ⟨some 23, .op (.load false 1 (.t 22)), some (20, false)⟩,
  ⟨some 24, .op (.len (.t 23)), some (20, false)⟩,
  ⟨some 25, .op (.bin .lss (.t 21) (.t 24)), some (20, false)⟩,
  ⟨some 26, .op (.pick (.t 20) (kB true) (.t 25)), none⟩])
 (.cond (.t 26)
 .skip
 (.exit 0)))
 (.seq
 (.block 1
 (.seq
 (.region [
  ⟨some 8, .op (.mv (kN)), none⟩])
 (.seq
 (.seq
 (.region [
  ⟨some 29, .op (.mv (.t 7)), none⟩,
  ⟨some 30, .op (.fadr 2 (.t 2)), none⟩,
  ⟨some 31, .op (.load false 1 (.t 30)), none⟩,
  ⟨some 32, .op (.len (.t 31)), none⟩,
  ⟨some 33, .op (.bin .lss (.t 29) (.t 32)), none⟩])
 (.cond (.t 33)
 (.region [
  ⟨some 34, .op (.fadr 2 (.t 2)), none⟩,
  ⟨some 35, .op (.load false 1 (.t 34)), none⟩,
  ⟨some 36, .op (.mv (.t 7)), none⟩,
  ⟨some 37, .op (.iadr 1 (.t 35) (.t 36)), none⟩,
  ⟨some 38, .op (.load false 1 (.t 37)), none⟩,
  ⟨some 8, .op (.mv (.t 38)), none⟩])
 .skip))
 (.seq
 (.drawn [
  ⟨⟨some 40, .op (.mv (.t 8)), none⟩, false, 0, 0⟩,
  ⟨⟨some 41, .op (.fadr 0 (.t 2)), none⟩, false, 0, 0⟩,
  ⟨⟨some 42, .op (.load false 1 (.t 41)), none⟩, false, 0, 0⟩,
  ⟨⟨some 43, .op (.mv (.t 7)), none⟩, false, 0, 0⟩,
  ⟨⟨some 44, .call (kF F_level_Most) [.t 42, .t 43], none⟩, false, 0, 0⟩,
  ⟨⟨some 45, .op (.mv (.t 5)), none⟩, false, 0, 0⟩,
  ⟨⟨some 46, .op (.mv (.t 6)), none⟩, false, 0, 0⟩,
  ⟨⟨some 47, .op (.load false 1 (.t 3)), none⟩, false, 0, 0⟩,
  ⟨⟨some 48, .call (kF F_level_Push) [.t 40, .t 44, .t 45, .t 46, .t 47], none⟩, false, 0, 0⟩,
  ⟨⟨some 39, .op (.mv (.t 48)), none⟩, false, 0, 0⟩,
  ⟨⟨some 49, .op (.ext (.t 39) 0), none⟩, false, 0, 0⟩,
  ⟨⟨some 50, .op (.ext (.t 39) 1), none⟩, false, 0, 0⟩,
  ⟨⟨some 51, .op (.ext (.t 39) 2), none⟩, false, 0, 0⟩,
  ⟨⟨some 9, .op (.mv (.t 49)), none⟩, false, 0, 0⟩,
  ⟨⟨some 10, .op (.mv (.t 50)), none⟩, false, 0, 0⟩,
  ⟨⟨some 11, .op (.mv (.t 51)), none⟩, false, 0, 0⟩])
 (.seq
 (.seq
 (.region [
  ⟨some 52, .op (.mv (.t 0)), none⟩,
  ⟨some 53, .op (.mv (.t 9)), none⟩,
  ⟨some 54, .call (.t 52) [.t 53], none⟩,
  ⟨some 55, .op (.un .not (.t 54)), none⟩])
 (.cond (.t 55)
 .ret
 .skip))
 (.region [
  ⟨some 56, .op (.mv (.t 10)), none⟩,
  ⟨some 57, .op (.mv (.t 11)), none⟩,
  ⟨some 5, .op (.mv (.t 56)), none⟩,
  ⟨some 6, .op (.mv (.t 57)), none⟩]))))))
 (.region [
  ⟨some 27, .op (.mv (.t 7)), none⟩,
  ⟨some 28, .op (.bin .add (.t 27) (kI .i64 1)), none⟩,
  ⟨some 7, .op (.mv (.t 28)), none⟩])))
/-- (skylight/hist.Hist).flow$1 -/
noncomputable def ac_hist_Hist_flow_1 : ACode :=
 (.seq
 (.region [
  ⟨some 5, .op (.mv (kN)), none⟩])
 (.seq
 (.region [
  ⟨some 12, .op (.load false 1 (.t 1)), none⟩,
  ⟨some 6, .op (.mv (.t 12)), none⟩])
 (.seq
 (.region [
  ⟨some 7, .op (.mv (kI .i64 0)), none⟩])
 (.block 0
 (.loop acl_hist_Hist_flow_1_0)))))
theorem fn_hist_Hist_flow_1 : FnOk Try.prog F_hist_Hist_flow_1 58 ac_hist_Hist_flow_1 [] :=
  ⟨[190, 189], Try.f151, Try.f151.body.getD .skip, Try.func151, by kernel_rfl, Try.ntmps151, by kernel_rfl, by kernel_rfl, Try.call151⟩
/-- (skylight/hist.Hist).flow -/
noncomputable def ac_hist_Hist_flow : ACode :=
 (.seq
 (.region [
  ⟨some 3, .op (.box (.t 0)), none⟩,
  ⟨some 4, .op (.box (.t 1)), none⟩,
  ⟨some 5, .op (.box (.t 2)), none⟩,
  ⟨some 6, .op (.mv (.k (.c (.x (.v .nilFunc))))), none⟩])
 (.seq
 (.region [
  ⟨some 7, .op (.mkfn (.func F_hist_Hist_flow_1) [.t 5, .t 3, .t 4]), none⟩,
  ⟨some 6, .op (.mv (.t 7)), none⟩])
 .ret))
theorem fn_hist_Hist_flow : FnOk Try.prog F_hist_Hist_flow 8 ac_hist_Hist_flow [.t 6] :=
  ⟨[190, 189], Try.f104, Try.f104.body.getD .skip, Try.func104, by kernel_rfl, Try.ntmps104, by kernel_rfl, by kernel_rfl, Try.call104⟩
noncomputable def rfa_hist_Add_0 : Code := ((rfs (Try.f44.body.getD .skip)).getD 0 (.skip, .skip)).1
noncomputable def rfb_hist_Add_0 : Code := ((rfs (Try.f44.body.getD .skip)).getD 0 (.skip, .skip)).2
noncomputable def aca_hist_Add_0 : ACode :=
 (.region [
  ⟨some 11, .op (.mv (.t 49)), none⟩])
noncomputable def acb_hist_Add_0 : ACode :=
 (.block 2
 (.region [
  ⟨some 50, .op (.fadr 2 (.t 10)), none⟩,
  ⟨some 51, .op (.load false 1 (.t 50)), none⟩,
  ⟨some 52, .op (.mv (.t 11)), none⟩,
  ⟨some 53, .op (.bslice false 1 1 [.sl true []] [(0, .t 52)]), none⟩,
  ⟨some 54, .op (.app 1 24 (.t 51) (.t 53)), none⟩,
  ⟨some 55, .op (.fadr 2 (.t 10)), none⟩,
  ⟨none, .op (.store 1 (.t 55) (.t 54)), none⟩]))
theorem rca_hist_Add_0 : compC Try.prog false 57 [190, 189] rfa_hist_Add_0 = some aca_hist_Add_0 := by kernel_rfl
theorem rcb_hist_Add_0 : compC Try.prog false 57 [190, 189] rfb_hist_Add_0 = some acb_hist_Add_0 := by kernel_rfl
/-- skylight/hist.Add -/
noncomputable def ac_hist_Add : ACode :=
 (.seq
 (.region [
  ⟨some 3, .op (.box (.t 0)), none⟩,
  ⟨some 6, .op (.alloc [.v (.int .i64 0), .v (.int .i64 0), .sl true []]), none⟩,
  ⟨some 7, .op (.mv (kI .i64 0)), none⟩])
 (.seq
 (.region [
  ⟨some 13, .op (.load true 3 (.t 3)), none⟩,
  ⟨some 14, .call (kF F_hist_Last) [.t 13], none⟩,
  ⟨some 12, .op (.mv (.t 14)), none⟩,
  ⟨some 15, .op (.ext (.t 12) 0), none⟩,
  ⟨some 16, .op (.ext (.t 12) 1), none⟩,
  ⟨some 8, .op (.mv (.t 15)), none⟩,
  ⟨some 9, .op (.mv (.t 16)), none⟩])
 (.seq
 (.block 0
 (.seq
 (.region [
  ⟨some 18, .op (.mv (.t 2)), none⟩,
  ⟨some 19, .op (.bin .eql (.t 18) (kI .u64 0)), none⟩,
  ⟨some 17, .op (.mv (.t 19)), none⟩])
 (.cond (.t 17)
 (.seq
 (.region [
  ⟨some 20, .op (.build [.v (.int .i64 0), .v (.int .i64 0), .sl true []] []), none⟩,
  ⟨none, .op (.store 3 (.t 6) (.t 20)), none⟩,
  ⟨some 7, .op (.mv (kI .i64 1)), none⟩])
 .ret)
 (.seq
 (.region [
  ⟨some 22, .op (.mv (.t 1)), none⟩,
  ⟨some 23, .op (.bin .gtr (.t 22) (kI .u64 9223372036854775807)), none⟩,
  ⟨some 24, .op (.mv (.t 23)), none⟩,
  ⟨some 25, .op (.mv (.t 9)), some (24, false)⟩,
  ⟨some 26, .op (.mv (.t 25)), some (24, false)⟩,
  ⟨some 27, .op (.mv (.t 1)), some (26, true)⟩,
  ⟨some 28, .op (.mv (.t 8)), some (26, true)⟩,
  ⟨some 29, .op (.bin .lss (.t 27) (.t 28)), some (26, true)⟩,
  ⟨some 30, .op (.pick (.t 26) (.t 29) (kB false)), some (24, false)⟩,
  ⟨some 31, .op (.pick (.t 24) (kB true) (.t 30)), none⟩,
  ⟨some 21, .op (.mv (.t 31)), none⟩])
 (.cond (.t 21)
 (.seq
 (.region [
  ⟨some 32, .op (.build [.v (.int .i64 0), .v (.int .i64 0), .sl true []] []), none⟩,
  ⟨none, .op (.store 3 (.t 6) (.t 32)), none⟩,
  ⟨some 7, .op (.mv (kI .i64 6)), none⟩])
 .ret)
 (.seq
 (.region [
  ⟨some 34, .op (.mv (.t 2)), none⟩,
  ⟨some 35, .op (.load true 3 (.t 3)), none⟩,
  ⟨some 36, .call (kF F_hist_Total) [.t 35], none⟩,
  ⟨some 37, .op (.bin .sub (kI .u64 4503599627370496) (.t 36)), none⟩,
  ⟨some 38, .op (.bin .gtr (.t 34) (.t 37)), none⟩,
  ⟨some 33, .op (.mv (.t 38)), none⟩])
 (.cond (.t 33)
 (.seq
 (.region [
  ⟨some 39, .op (.build [.v (.int .i64 0), .v (.int .i64 0), .sl true []] []), none⟩,
  ⟨none, .op (.store 3 (.t 6) (.t 39)), none⟩,
  ⟨some 7, .op (.mv (kI .i64 5)), none⟩])
 .ret)
 .skip)))))))
 (.seq
 (.region [
  ⟨some 40, .op (.fadr 0 (.t 3)), none⟩,
  ⟨some 41, .op (.load false 1 (.t 40)), none⟩,
  ⟨some 42, .op (.fadr 1 (.t 3)), none⟩,
  ⟨some 43, .op (.load false 1 (.t 42)), none⟩,
  ⟨some 44, .op (.build [.v (.int .i64 0), .v (.int .i64 0), .sl true []] [(0, 1, .t 41), (1, 1, .t 43)]), none⟩,
  ⟨some 10, .op (.alloc [.v (.int .i64 0), .v (.int .i64 0), .sl true []]), none⟩,
  ⟨none, .op (.store 3 (.t 10) (.t 44)), none⟩])
 (.seq
 (.seq
 (.region [
  ⟨some 45, .op (.load true 3 (.t 3)), none⟩,
  ⟨some 46, .op (.mv (.t 1)), none⟩,
  ⟨some 47, .op (.mv (.t 2)), none⟩,
  ⟨some 48, .call (kF F_hist_Hist_flow) [.t 45, .t 46, .t 47], none⟩])
 (.block 1
 (.rfunc (.t 48) [49] rfa_hist_Add_0 rfb_hist_Add_0)))
 (.seq
 (.region [
  ⟨some 56, .op (.load true 3 (.t 10)), none⟩,
  ⟨none, .op (.store 3 (.t 6) (.t 56)), none⟩,
  ⟨some 7, .op (.mv (kI .i64 0)), none⟩])
 .ret))))))
theorem fn_hist_Add : FnOk Try.prog F_hist_Add 57 ac_hist_Add [.cell 6 true 3, .t 7] :=
  ⟨[190, 189], Try.f44, Try.f44.body.getD .skip, Try.func44, by kernel_rfl, Try.ntmps44, by kernel_rfl, by kernel_rfl, Try.call44⟩
noncomputable def acl_count_pass_0 : ACode :=
 (.seq
 (.region [
  ⟨some 18, .op (.bin .lss (.t 17) (.t 16)), none⟩])
 (.seq
 (.cond (.t 18)
 .skip
 (.exit 0))
 (.seq
 (.block 1
 (.seq
 (.region [
  ⟨some 19, .op (.iadr 3 (.t 15) (.t 17)), none⟩,
  ⟨some 20, .op (.load true 3 (.t 19)), none⟩,
  ⟨some 8, .op (.alloc [.v (.int .u64 0), .v (.int .u64 0), .v (.int .u64 0)]), none⟩,
  ⟨none, .op (.store 3 (.t 8) (.t 20)), none⟩])
 (.region [
  ⟨some 22, .op (.fadr 6 (.t 6)), none⟩,
  ⟨some 23, .op (.load true 3 (.t 22)), none⟩,
  ⟨some 24, .op (.fadr 0 (.t 8)), none⟩,
  ⟨some 25, .op (.load false 1 (.t 24)), none⟩,
  ⟨some 26, .op (.fadr 2 (.t 8)), none⟩,
  ⟨some 27, .op (.load false 1 (.t 26)), none⟩,
  ⟨some 28, .call (kF F_hist_Add) [.t 23, .t 25, .t 27], none⟩,
  ⟨some 21, .op (.mv (.t 28)), none⟩,
  ⟨some 29, .op (.ext (.t 21) 0), none⟩,
  ⟨some 30, .op (.ext (.t 21) 1), none⟩,
  ⟨some 31, .op (.fadr 6 (.t 6)), none⟩,
  ⟨none, .op (.store 3 (.t 31) (.t 29)), none⟩])))
 (.region [
  ⟨some 32, .op (.bin .add (.t 17) (kI .i64 1)), none⟩,
  ⟨some 17, .op (.mv (.t 32)), none⟩]))))
/-- skylight/count.pass -/
noncomputable def ac_count_pass : ACode :=
 (.seq
 (.region [
  ⟨some 3, .op (.box (.t 0)), none⟩,
  ⟨some 4, .op (.box (.t 1)), none⟩,
  ⟨some 6, .op (.alloc [.v (.int .u64 0), .v (.int .u64 0), .v (.int .i64 0), .v (.int .u64 0), .v (.int .u64 0), .sl true [], .v (.int .i64 0), .v (.int .i64 0), .sl true []]), none⟩])
 (.seq
 (.region [
  ⟨some 9, .op (.fadr 0 (.t 3)), none⟩,
  ⟨some 10, .op (.load false 1 (.t 9)), none⟩,
  ⟨some 11, .op (.load true 5 (.t 4)), none⟩,
  ⟨some 12, .op (.fadr 6 (.t 3)), none⟩,
  ⟨some 13, .op (.load true 3 (.t 12)), none⟩,
  ⟨some 14, .op (.build [.v (.int .u64 0), .v (.int .u64 0), .v (.int .i64 0), .v (.int .u64 0), .v (.int .u64 0), .sl true [], .v (.int .i64 0), .v (.int .i64 0), .sl true []] [(0, 1, .t 10), (1, 5, .t 11), (6, 3, .t 13)]), none⟩,
  ⟨none, .op (.store 9 (.t 6) (.t 14)), none⟩])
 (.seq
 (.region [
  ⟨none, .defer (kF F_count_Sketch_drop) [.t 6], none⟩])
 (.seq
 (.seq
 (.region [
  ⟨some 15, .op (.mv (.t 2)), none⟩,
  ⟨some 16, .op (.len (.t 15)), none⟩,
  ⟨some 17, .op (.mv (kI .i64 0)), none⟩])
 (.block 0
 (.loop acl_count_pass_0)))
 (.seq
 (.region [
  ⟨some 33, .op (.load true 9 (.t 6)), none⟩,
  ⟨none, .op (.store 9 (.t 6) (.t 33)), none⟩])
 .ret)))))
theorem fn_count_pass : FnOk Try.prog F_count_pass 34 ac_count_pass [.cell 6 true 9] :=
  ⟨[190, 189], Try.f56, Try.f56.body.getD .skip, Try.func56, by kernel_rfl, Try.ntmps56, by kernel_rfl, by kernel_rfl, Try.call56⟩
/-- skylight/count.Add -/
noncomputable def ac_count_Add : ACode :=
 (.seq
 (.region [
  ⟨some 2, .op (.box (.t 0)), none⟩,
  ⟨some 3, .op (.box (.t 1)), none⟩,
  ⟨some 4, .op (.alloc [.v (.int .u64 0), .v (.int .u64 0), .v (.int .i64 0), .v (.int .u64 0), .v (.int .u64 0), .sl true [], .v (.int .i64 0), .v (.int .i64 0), .sl true []]), none⟩,
  ⟨some 5, .op (.mv (kI .i64 0)), none⟩])
 (.seq
 (.region [
  ⟨some 10, .op (.fadr 1 (.t 2)), none⟩,
  ⟨some 11, .op (.load true 5 (.t 10)), none⟩,
  ⟨some 12, .op (.load true 3 (.t 3)), none⟩,
  ⟨some 13, .call (kF F_buffer_Push) [.t 11, .t 12], none⟩,
  ⟨some 9, .op (.mv (.t 13)), none⟩,
  ⟨some 14, .op (.ext (.t 9) 0), none⟩,
  ⟨some 15, .op (.ext (.t 9) 1), none⟩,
  ⟨some 16, .op (.ext (.t 9) 2), none⟩,
  ⟨some 6, .op (.alloc [.v (.int .u64 0), .v (.int .i64 0), .v (.int .u64 0), .v (.int .u64 0), .sl true []]), none⟩,
  ⟨none, .op (.store 5 (.t 6) (.t 14)), none⟩,
  ⟨some 7, .op (.mv (.t 15)), none⟩,
  ⟨some 8, .op (.mv (.t 16)), none⟩])
 (.seq
 (.block 0
 (.seq
 (.region [
  ⟨some 18, .op (.mv (.t 8)), none⟩,
  ⟨some 19, .op (.bin .neq (.t 18) (kI .i64 0)), none⟩,
  ⟨some 17, .op (.mv (.t 19)), none⟩])
 (.cond (.t 17)
 (.seq
 (.region [
  ⟨some 20, .op (.build [.v (.int .u64 0), .v (.int .u64 0), .v (.int .i64 0), .v (.int .u64 0), .v (.int .u64 0), .sl true [], .v (.int .i64 0), .v (.int .i64 0), .sl true []] []), none⟩,
  ⟨some 21, .op (.mv (.t 8)), none⟩,
  ⟨none, .op (.store 9 (.t 4) (.t 20)), none⟩,
  ⟨some 5, .op (.mv (.t 21)), none⟩])
 .ret)
 (.seq
 (.drawn [
  ⟨⟨some 23, .op (.fadr 6 (.t 2)), none⟩, false, 0, 0⟩,
  ⟨⟨some 24, .op (.load true 3 (.t 23)), none⟩, false, 0, 0⟩,
  ⟨⟨some 25, .call (kF F_hist_Total) [.t 24], none⟩, false, 0, 0⟩,
  ⟨⟨some 26, .op (.fadr 1 (.t 2)), none⟩, false, 0, 0⟩,
  ⟨⟨some 27, .op (.load true 5 (.t 26)), none⟩, false, 0, 0⟩,
  ⟨⟨some 28, .call (kF F_buffer_Weight) [.t 27], none⟩, false, 0, 0⟩,
  ⟨⟨some 29, .op (.fadr 2 (.t 3)), none⟩, false, 0, 0⟩,
  ⟨⟨some 30, .op (.load false 1 (.t 29)), none⟩, false, 0, 0⟩,
  ⟨⟨some 31, .op (.bslice true 1 3 [.v (.int .u64 0)] [(0, .t 25), (1, .t 28), (2, .t 30)]), none⟩, false, 0, 0⟩,
  ⟨⟨some 32, .call (kF F_count_room) [.t 31], none⟩, false, 0, 0⟩,
  ⟨⟨some 33, .op (.un .not (.t 32)), none⟩, false, 0, 0⟩,
  ⟨⟨some 22, .op (.mv (.t 33)), none⟩, false, 0, 0⟩])
 (.cond (.t 22)
 (.seq
 (.region [
  ⟨some 34, .op (.build [.v (.int .u64 0), .v (.int .u64 0), .v (.int .i64 0), .v (.int .u64 0), .v (.int .u64 0), .sl true [], .v (.int .i64 0), .v (.int .i64 0), .sl true []] []), none⟩,
  ⟨none, .op (.store 9 (.t 4) (.t 34)), none⟩,
  ⟨some 5, .op (.mv (kI .i64 5)), none⟩])
 .ret)
 .skip)))))
 (.seq
 (.region [
  ⟨some 35, .op (.load true 9 (.t 2)), none⟩,
  ⟨some 36, .op (.load true 5 (.t 6)), none⟩,
  ⟨some 37, .op (.mv (.t 7)), none⟩,
  ⟨some 38, .call (kF F_count_pass) [.t 35, .t 36, .t 37], none⟩,
  ⟨none, .op (.store 9 (.t 4) (.t 38)), none⟩,
  ⟨some 5, .op (.mv (kI .i64 0)), none⟩])
 .ret))))
theorem fn_count_Add : FnOk Try.prog F_count_Add 39 ac_count_Add [.cell 4 true 9, .t 5] :=
  ⟨[190, 189], Try.f17, Try.f17.body.getD .skip, Try.func17, by kernel_rfl, Try.ntmps17, by kernel_rfl, by kernel_rfl, Try.call17⟩
/-- skylight/estimate.Parts$1 -/
noncomputable def ac_estimate_Parts_1 : ACode :=
 (.seq
 (.region [
  ⟨some 4, .op (.mv (kB false)), none⟩])
 (.seq
 (.region [
  ⟨some 5, .op (.load false 1 (.t 1)), none⟩,
  ⟨some 6, .op (.load false 1 (.t 2)), none⟩,
  ⟨some 7, .op (.bin .gtr (.t 5) (.t 6)), none⟩,
  ⟨some 8, .op (.mv (.t 7)), none⟩,
  ⟨some 9, .op (.mv (.t 0)), some (8, false)⟩,
  ⟨some 10, .op (.load false 1 (.t 2)), some (8, false)⟩,
  ⟨some 11, .op (.load false 1 (.t 1)), some (8, false)⟩,
  ⟨some 12, .op (.bin .sub (.t 10) (.t 11)), some (8, false)⟩,
  ⟨some 13, .op (.bin .gtr (.t 9) (.t 12)), some (8, false)⟩,
  ⟨some 14, .op (.pick (.t 8) (kB true) (.t 13)), none⟩,
  ⟨some 4, .op (.mv (.t 14)), none⟩])
 .ret))
theorem fn_estimate_Parts_1 : FnOk Try.prog F_estimate_Parts_1 15 ac_estimate_Parts_1 [.t 4] :=
  ⟨[190, 189], Try.f90, Try.f90.body.getD .skip, Try.func90, by kernel_rfl, Try.ntmps90, by kernel_rfl, by kernel_rfl, Try.call90⟩
noncomputable def acl_estimate_buckets_1_1 : ACode :=
 (.seq
 (.region [
  ⟨some 18, .op (.bin .lss (.t 17) (.t 16)), none⟩])
 (.seq
 (.cond (.t 18)
 .skip
 (.exit 2))
 (.seq
 (.block 3
 (.seq
 (.region [
  ⟨some 19, .op (.iadr 2 (.t 15) (.t 17)), none⟩,
  ⟨some 20, .op (.load true 2 (.t 19)), none⟩,
  ⟨some 6, .op (.alloc [.v (.int .u64 0), .v (.int .u64 0)]), none⟩,
  ⟨none, .op (.store 2 (.t 6) (.t 20)), none⟩])
 (.seq
 (.drawn [
  ⟨⟨some 21, .op (.mv (.t 0)), none⟩, false, 0, 0⟩,
  ⟨⟨some 22, .op (.load true 2 (.t 6)), none⟩, false, 0, 0⟩,
  ⟨⟨some 23, .op (.mv (.t 3)), none⟩, false, 0, 0⟩,
  ⟨⟨some 24, .op (.bin .shl (kI .u64 1) (.t 23)), none⟩, false, 0, 0⟩,
  ⟨⟨some 25, .call (.t 21) [.t 22, .t 24], none⟩, true, 0, 1⟩,
  ⟨⟨some 26, .op (.un .not (.t 25)), none⟩, false, 1, 1⟩])
 (.cond (.t 26)
 .ret
 .skip))))
 (.region [
  ⟨some 27, .op (.bin .add (.t 17) (kI .i64 1)), none⟩,
  ⟨some 17, .op (.mv (.t 27)), none⟩]))))
noncomputable def acl_estimate_buckets_1_0 : ACode :=
 (.seq
 (.region [
  ⟨some 11, .op (.bin .lss (.t 10) (.t 9)), none⟩])
 (.seq
 (.cond (.t 11)
 .skip
 (.exit 0))
 (.seq
 (.block 1
 (.seq
 (.region [
  ⟨some 12, .op (.mv (.t 10)), none⟩,
  ⟨some 13, .op (.iadr 1 (.t 8) (.t 10)), none⟩,
  ⟨some 14, .op (.load false 1 (.t 13)), none⟩,
  ⟨some 3, .op (.mv (.t 12)), none⟩,
  ⟨some 4, .op (.mv (.t 14)), none⟩])
 (.seq
 (.region [
  ⟨some 15, .op (.mv (.t 4)), none⟩,
  ⟨some 16, .op (.len (.t 15)), none⟩,
  ⟨some 17, .op (.mv (kI .i64 0)), none⟩])
 (.block 2
 (.loop acl_estimate_buckets_1_1)))))
 (.region [
  ⟨some 28, .op (.bin .add (.t 10) (kI .i64 1)), none⟩,
  ⟨some 10, .op (.mv (.t 28)), none⟩]))))
/-- skylight/estimate.buckets$1 -/
noncomputable def ac_estimate_buckets_1 : ACode :=
 (.seq
 (.region [
  ⟨some 7, .op (.fadr 2 (.t 1)), none⟩,
  ⟨some 8, .op (.load false 1 (.t 7)), none⟩,
  ⟨some 9, .op (.len (.t 8)), none⟩,
  ⟨some 10, .op (.mv (kI .i64 0)), none⟩])
 (.block 0
 (.loop acl_estimate_buckets_1_0)))
theorem fn_estimate_buckets_1 : FnOk Try.prog F_estimate_buckets_1 29 ac_estimate_buckets_1 [] :=
  ⟨[190, 189], Try.f144, Try.f144.body.getD .skip, Try.func144, by kernel_rfl, Try.ntmps144, by kernel_rfl, by kernel_rfl, Try.call144⟩
/-- skylight/estimate.buckets -/
noncomputable def ac_estimate_buckets : ACode :=
 (.seq
 (.region [
  ⟨some 1, .op (.box (.t 0)), none⟩,
  ⟨some 2, .op (.mv (.k (.c (.x (.v .nilFunc))))), none⟩])
 (.seq
 (.region [
  ⟨some 3, .op (.mkfn (.func F_estimate_buckets_1) [.t 1]), none⟩,
  ⟨some 2, .op (.mv (.t 3)), none⟩])
 .ret))
theorem fn_estimate_buckets : FnOk Try.prog F_estimate_buckets 4 ac_estimate_buckets [.t 2] :=
  ⟨[190, 189], Try.f91, Try.f91.body.getD .skip, Try.func91, by kernel_rfl, Try.ntmps91, by kernel_rfl, by kernel_rfl, Try.call91⟩
noncomputable def rfa_estimate_Parts_0 : Code := ((rfs (Try.f41.body.getD .skip)).getD 0 (.skip, .skip)).1
noncomputable def rfb_estimate_Parts_0 : Code := ((rfs (Try.f41.body.getD .skip)).getD 0 (.skip, .skip)).2
noncomputable def aca_estimate_Parts_0 : ACode :=
 (.seq
 (.region [
  ⟨some 11, .op (.alloc [.v (.int .u64 0), .v (.int .u64 0)]), none⟩,
  ⟨none, .op (.store 2 (.t 11) (.t 16)), none⟩])
 (.region [
  ⟨some 12, .op (.mv (.t 17)), none⟩]))
noncomputable def acb_estimate_Parts_0 : ACode :=
 (.block 1
 (.block 2
 (.seq
 (.region [
  ⟨some 19, .op (.load false 1 (.t 8)), none⟩,
  ⟨some 20, .op (.fadr 0 (.t 11)), none⟩,
  ⟨some 21, .op (.load false 1 (.t 20)), none⟩,
  ⟨some 22, .call (.t 19) [.t 21], none⟩,
  ⟨some 18, .op (.mv (.t 22)), none⟩])
 (.cond (.t 18)
 (.region [
  ⟨some 23, .op (.load false 1 (.t 9)), none⟩,
  ⟨some 24, .op (.mv (.t 12)), none⟩,
  ⟨some 25, .op (.bin .add (.t 23) (.t 24)), none⟩,
  ⟨none, .op (.store 1 (.t 9) (.t 25)), none⟩])
 (.seq
 (.region [
  ⟨some 27, .op (.load false 1 (.t 8)), none⟩,
  ⟨some 28, .op (.fadr 1 (.t 11)), none⟩,
  ⟨some 29, .op (.load false 1 (.t 28)), none⟩,
  ⟨some 30, .call (.t 27) [.t 29], none⟩,
  ⟨some 26, .op (.mv (.t 30)), none⟩])
 (.cond (.t 26)
 (.region [
  ⟨some 31, .op (.load false 1 (.t 10)), none⟩,
  ⟨some 32, .op (.mv (.t 12)), none⟩,
  ⟨some 33, .op (.bin .add (.t 31) (.t 32)), none⟩,
  ⟨none, .op (.store 1 (.t 10) (.t 33)), none⟩])
 .skip))))))
theorem rca_estimate_Parts_0 : compC Try.prog false 36 [190, 189] rfa_estimate_Parts_0 = some aca_estimate_Parts_0 := by kernel_rfl
theorem rcb_estimate_Parts_0 : compC Try.prog false 36 [190, 189] rfb_estimate_Parts_0 = some acb_estimate_Parts_0 := by kernel_rfl
/-- skylight/estimate.Parts -/
noncomputable def ac_estimate_Parts : ACode :=
 (.seq
 (.region [
  ⟨some 3, .op (.box (.t 0)), none⟩,
  ⟨some 4, .op (.box (.t 1)), none⟩,
  ⟨some 5, .op (.box (.t 2)), none⟩,
  ⟨some 6, .op (.mv (kI .u64 0)), none⟩,
  ⟨some 7, .op (.mv (kI .u64 0)), none⟩])
 (.seq
 (.region [
  ⟨some 13, .op (.mkfn (.func F_estimate_Parts_1) [.t 5, .t 4]), none⟩,
  ⟨some 8, .op (.alloc [.v .nilFunc]), none⟩,
  ⟨none, .op (.store 1 (.t 8) (.t 13)), none⟩])
 (.seq
 (.region [
  ⟨some 9, .op (.alloc [.v (.int .u64 0)]), none⟩,
  ⟨some 10, .op (.alloc [.v (.int .u64 0)]), none⟩,
  ⟨none, .op (.store 1 (.t 9) (kI .u64 0)), none⟩,
  ⟨none, .op (.store 1 (.t 10) (kI .u64 0)), none⟩])
 (.seq
 (.seq
 (.region [
  ⟨some 14, .op (.load true 3 (.t 3)), none⟩,
  ⟨some 15, .call (kF F_estimate_buckets) [.t 14], none⟩])
 (.block 0
 (.rfunc (.t 15) [16, 17] rfa_estimate_Parts_0 rfb_estimate_Parts_0)))
 (.seq
 (.drawn [
  ⟨⟨some 34, .op (.load false 1 (.t 9)), none⟩, false, 0, 0⟩,
  ⟨⟨some 35, .op (.load false 1 (.t 10)), none⟩, false, 0, 0⟩,
  ⟨⟨some 6, .op (.mv (.t 34)), none⟩, false, 0, 0⟩,
  ⟨⟨some 7, .op (.mv (.t 35)), none⟩, false, 0, 0⟩])
 .ret)))))
theorem fn_estimate_Parts : FnOk Try.prog F_estimate_Parts 36 ac_estimate_Parts [.t 6, .t 7] :=
  ⟨[190, 189], Try.f41, Try.f41.body.getD .skip, Try.func41, by kernel_rfl, Try.ntmps41, by kernel_rfl, by kernel_rfl, Try.call41⟩
/-- skylight/estimate.Of -/
noncomputable def ac_estimate_Of : ACode :=
 (.seq
 (.region [
  ⟨some 3, .op (.box (.t 0)), none⟩,
  ⟨some 6, .op (.mv (kI .u64 0)), none⟩])
 (.seq
 (.region [
  ⟨some 10, .op (.load true 3 (.t 3)), none⟩,
  ⟨some 11, .op (.mv (.t 1)), none⟩,
  ⟨some 12, .op (.mv (.t 2)), none⟩,
  ⟨some 13, .call (kF F_estimate_Parts) [.t 10, .t 11, .t 12], none⟩,
  ⟨some 9, .op (.mv (.t 13)), none⟩,
  ⟨some 14, .op (.ext (.t 9) 0), none⟩,
  ⟨some 15, .op (.ext (.t 9) 1), none⟩,
  ⟨some 7, .op (.mv (.t 14)), none⟩,
  ⟨some 8, .op (.mv (.t 15)), none⟩])
 (.seq
 (.region [
  ⟨some 16, .op (.mv (.t 7)), none⟩,
  ⟨some 17, .op (.mv (.t 8)), none⟩,
  ⟨some 18, .op (.bin .shr (.t 17) (kI .u64 1)), none⟩,
  ⟨some 19, .op (.bin .add (.t 16) (.t 18)), none⟩,
  ⟨some 6, .op (.mv (.t 19)), none⟩])
 .ret)))
theorem fn_estimate_Of : FnOk Try.prog F_estimate_Of 20 ac_estimate_Of [.t 6] :=
  ⟨[190, 189], Try.f39, Try.f39.body.getD .skip, Try.func39, by kernel_rfl, Try.ntmps39, by kernel_rfl, by kernel_rfl, Try.call39⟩
/-- skylight/scan.within$1 -/
noncomputable def ac_scan_within_1 : ACode :=
 (.seq
 (.region [
  ⟨some 3, .op (.box (.t 0)), none⟩,
  ⟨some 4, .op (.mv (kB false)), none⟩])
 (.seq
 (.region [
  ⟨some 5, .op (.fadr 0 (.t 3)), none⟩,
  ⟨some 6, .op (.load false 1 (.t 5)), none⟩,
  ⟨some 7, .op (.load false 1 (.t 1)), none⟩,
  ⟨some 8, .op (.bin .leq (.t 6) (.t 7)), none⟩,
  ⟨some 9, .op (.mv (.t 8)), none⟩,
  ⟨some 10, .op (.load false 1 (.t 2)), some (9, true)⟩,
  ⟨some 11, .op (.load false 1 (.t 1)), some (9, true)⟩,
  ⟨some 12, .op (.bin .gtr (.t 10) (.t 11)), some (9, true)⟩,
  ⟨some 13, .op (.mv (.t 12)), some (9, true)⟩,
  ⟨some 14, .op (.fadr 0 (.t 3)), some (13, false)⟩,
  ⟨some 15, .op (.load false 1 (.t 14)), some (13, false)⟩,
  ⟨some 16, .op (.load false 1 (.t 1)), some (13, false)⟩,
  ⟨some 17, .op (.load false 1 (.t 2)), some (13, false)⟩,
  ⟨some 18, .op (.bin .sub (.t 16) (.t 17)), some (13, false)⟩,
  ⟨some 19, .op (.bin .gtr (.t 15) (.t 18)), some (13, false)⟩,
  ⟨some 20, .op (.pick (.t 13) (kB true) (.t 19)), some (9, true)⟩,
  ⟨some 21, .op (.pick (.t 9) (.t 20) (kB false)), none⟩,
  ⟨some 4, .op (.mv (.t 21)), none⟩])
 .ret))
theorem fn_scan_within_1 : FnOk Try.prog F_scan_within_1 22 ac_scan_within_1 [.t 4] :=
  ⟨[190, 189], Try.f192, Try.f192.body.getD .skip, Try.func192, by kernel_rfl, Try.ntmps192, by kernel_rfl, by kernel_rfl, Try.call192⟩
/-- skylight/scan.within -/
noncomputable def ac_scan_within : ACode :=
 (.seq
 (.region [
  ⟨some 2, .op (.box (.t 0)), none⟩,
  ⟨some 3, .op (.box (.t 1)), none⟩,
  ⟨some 4, .op (.mv (.k (.c (.x (.v .nilFunc))))), none⟩])
 (.seq
 (.region [
  ⟨some 5, .op (.mkfn (.func F_scan_within_1) [.t 2, .t 3]), none⟩,
  ⟨some 4, .op (.mv (.t 5)), none⟩])
 .ret))
theorem fn_scan_within : FnOk Try.prog F_scan_within 6 ac_scan_within [.t 4] :=
  ⟨[190, 189], Try.f159, Try.f159.body.getD .skip, Try.func159, by kernel_rfl, Try.ntmps159, by kernel_rfl, by kernel_rfl, Try.call159⟩
noncomputable def acl_scan_sum_api_Event_0 : ACode :=
 (.seq
 (.region [
  ⟨some 13, .op (.bin .lss (.t 12) (.t 11)), none⟩])
 (.seq
 (.cond (.t 13)
 .skip
 (.exit 0))
 (.seq
 (.block 1
 (.seq
 (.region [
  ⟨some 14, .op (.iadr 3 (.t 10) (.t 12)), none⟩,
  ⟨some 15, .op (.load true 3 (.t 14)), none⟩,
  ⟨some 9, .op (.alloc [.v (.int .u64 0), .v (.int .u64 0), .v (.int .u64 0)]), none⟩,
  ⟨none, .op (.store 3 (.t 9) (.t 15)), none⟩])
 (.seq
 (.region [
  ⟨some 16, .op (.mv (.t 1)), none⟩,
  ⟨some 17, .op (.load true 3 (.t 9)), none⟩,
  ⟨some 18, .call (.t 16) [.t 17], none⟩])
 (.cond (.t 18)
 (.region [
  ⟨some 19, .op (.mv (.t 7)), none⟩,
  ⟨some 20, .op (.mv (.t 2)), none⟩,
  ⟨some 21, .op (.load true 3 (.t 9)), none⟩,
  ⟨some 22, .call (.t 20) [.t 21], none⟩,
  ⟨some 23, .op (.bin .add (.t 19) (.t 22)), none⟩,
  ⟨some 7, .op (.mv (.t 23)), none⟩])
 .skip))))
 (.region [
  ⟨some 24, .op (.bin .add (.t 12) (kI .i64 1)), none⟩,
  ⟨some 12, .op (.mv (.t 24)), none⟩]))))
/-- skylight/scan.sum[skylight/api.Event,uint64] -/
noncomputable def ac_scan_sum_api_Event : ACode :=
 (.seq
 (.region [
  ⟨some 6, .op (.mv (kI .u64 0)), none⟩])
 (.seq
 (.region [
  ⟨some 7, .op (.mv (kI .u64 0)), none⟩])
 (.seq
 (.seq
 (.region [
  ⟨some 10, .op (.mv (.t 0)), none⟩,
  ⟨some 11, .op (.len (.t 10)), none⟩,
  ⟨some 12, .op (.mv (kI .i64 0)), none⟩])
 (.block 0
 (.loop acl_scan_sum_api_Event_0)))
 (.seq
 (.region [
  ⟨some 25, .op (.mv (.t 7)), none⟩,
  ⟨some 6, .op (.mv (.t 25)), none⟩])
 .ret))))
theorem fn_scan_sum_api_Event : FnOk Try.prog F_scan_sum_api_Event 26 ac_scan_sum_api_Event [.t 6] :=
  ⟨[190, 189], Try.f158, Try.f158.body.getD .skip, Try.func158, by kernel_rfl, Try.ntmps158, by kernel_rfl, by kernel_rfl, Try.call158⟩
/-- skylight/scan.weight -/
noncomputable def ac_scan_weight : ACode :=
 (.seq
 (.region [
  ⟨some 1, .op (.box (.t 0)), none⟩,
  ⟨some 2, .op (.mv (kI .u64 0)), none⟩])
 (.seq
 (.region [
  ⟨some 3, .op (.fadr 2 (.t 1)), none⟩,
  ⟨some 4, .op (.load false 1 (.t 3)), none⟩,
  ⟨some 2, .op (.mv (.t 4)), none⟩])
 .ret))
theorem fn_scan_weight : FnOk Try.prog F_scan_weight 5 ac_scan_weight [.t 2] :=
  ⟨[190, 189], Try.f160, Try.f160.body.getD .skip, Try.func160, by kernel_rfl, Try.ntmps160, by kernel_rfl, by kernel_rfl, Try.call160⟩
/-- skylight/scan.Sum -/
noncomputable def ac_scan_Sum : ACode :=
 (.seq
 (.region [
  ⟨some 6, .op (.mv (kI .u64 0)), none⟩])
 (.seq
 (.region [
  ⟨some 7, .op (.mv (.t 0)), none⟩,
  ⟨some 8, .op (.mv (.t 1)), none⟩,
  ⟨some 9, .op (.mv (.t 2)), none⟩,
  ⟨some 10, .call (kF F_scan_within) [.t 8, .t 9], none⟩,
  ⟨some 11, .call (kF F_scan_sum_api_Event) [.t 7, .t 10, kF F_scan_weight], none⟩,
  ⟨some 6, .op (.mv (.t 11)), none⟩])
 .ret))
theorem fn_scan_Sum : FnOk Try.prog F_scan_Sum 12 ac_scan_Sum [.t 6] :=
  ⟨[190, 189], Try.f110, Try.f110.body.getD .skip, Try.func110, by kernel_rfl, Try.ntmps110, by kernel_rfl, by kernel_rfl, Try.call110⟩
/-- skylight/count.Query -/
noncomputable def ac_count_Query : ACode :=
 (.seq
 (.region [
  ⟨some 3, .op (.box (.t 0)), none⟩,
  ⟨some 6, .op (.mv (kI .u64 0)), none⟩,
  ⟨some 7, .op (.mv (kI .i64 0)), none⟩])
 (.seq
 (.block 0
 (.seq
 (.region [
  ⟨some 9, .op (.mv (.t 1)), none⟩,
  ⟨some 10, .op (.fadr 1 (.t 3)), none⟩,
  ⟨some 11, .op (.fadr 3 (.t 10)), none⟩,
  ⟨some 12, .op (.load false 1 (.t 11)), none⟩,
  ⟨some 13, .op (.bin .lss (.t 9) (.t 12)), none⟩,
  ⟨some 14, .op (.mv (.t 13)), none⟩,
  ⟨some 15, .op (.mv (.t 1)), some (14, false)⟩,
  ⟨some 16, .op (.bin .gtr (.t 15) (kI .u64 9223372036854775807)), some (14, false)⟩,
  ⟨some 17, .op (.pick (.t 14) (kB true) (.t 16)), none⟩,
  ⟨some 8, .op (.mv (.t 17)), none⟩])
 (.cond (.t 8)
 (.seq
 (.region [
  ⟨some 6, .op (.mv (kI .u64 0)), none⟩,
  ⟨some 7, .op (.mv (kI .i64 6)), none⟩])
 .ret)
 (.seq
 (.region [
  ⟨some 19, .op (.mv (.t 2)), none⟩,
  ⟨some 20, .op (.bin .eql (.t 19) (kI .u64 0)), none⟩,
  ⟨some 21, .op (.mv (.t 20)), none⟩,
  ⟨some 22, .op (.mv (.t 2)), some (21, false)⟩,
  ⟨some 23, .op (.fadr 0 (.t 3)), some (21, false)⟩,
  ⟨some 24, .op (.load false 1 (.t 23)), some (21, false)⟩,
  ⟨some 25, .op (.bin .gtr (.t 22) (.t 24)), some (21, false)⟩,
  ⟨some 26, .op (.pick (.t 21) (kB true) (.t 25)), none⟩,
  ⟨some 18, .op (.mv (.t 26)), none⟩])
 (.cond (.t 18)
 (.seq
 (.region [
  ⟨some 6, .op (.mv (kI .u64 0)), none⟩,
  ⟨some 7, .op (.mv (kI .i64 8)), none⟩])
 .ret)
 .skip)))))
 (.seq
 (.drawn [
  ⟨⟨some 27, .op (.fadr 6 (.t 3)), none⟩, false, 0, 0⟩,
  ⟨⟨some 28, .op (.load true 3 (.t 27)), none⟩, false, 0, 0⟩,
  ⟨⟨some 29, .op (.mv (.t 1)), none⟩, false, 0, 0⟩,
  ⟨⟨some 30, .op (.mv (.t 2)), none⟩, false, 0, 0⟩,
  ⟨⟨some 31, .call (kF F_estimate_Of) [.t 28, .t 29, .t 30], none⟩, false, 0, 0⟩,
  ⟨⟨some 32, .op (.fadr 1 (.t 3)), none⟩, false, 0, 0⟩,
  ⟨⟨some 33, .op (.fadr 4 (.t 32)), none⟩, false, 0, 0⟩,
  ⟨⟨some 34, .op (.load false 1 (.t 33)), none⟩, false, 0, 0⟩,
  ⟨⟨some 35, .op (.mv (.t 1)), none⟩, false, 0, 0⟩,
  ⟨⟨some 36, .op (.mv (.t 2)), none⟩, false, 0, 0⟩,
  ⟨⟨some 37, .call (kF F_scan_Sum) [.t 34, .t 35, .t 36], none⟩, false, 0, 0⟩,
  ⟨⟨some 38, .op (.bin .add (.t 31) (.t 37)), none⟩, false, 0, 0⟩,
  ⟨⟨some 6, .op (.mv (.t 38)), none⟩, false, 0, 0⟩,
  ⟨⟨some 7, .op (.mv (kI .i64 0)), none⟩, false, 0, 0⟩])
 .ret)))
theorem fn_count_Query : FnOk Try.prog F_count_Query 39 ac_count_Query [.t 6, .t 7] :=
  ⟨[190, 189], Try.f49, Try.f49.body.getD .skip, Try.func49, by kernel_rfl, Try.ntmps49, by kernel_rfl, by kernel_rfl, Try.call49⟩
noncomputable def acl_slices_Equal_s_api_Event_0 : ACode :=
 (.seq
 (.region [
  ⟨some 14, .op (.bin .lss (.t 13) (.t 12)), none⟩])
 (.seq
 (.cond (.t 14)
 .skip
 (.exit 0))
 (.seq
 (.block 1
 (.seq
 (.region [
  ⟨some 15, .op (.mv (.t 13)), none⟩,
  ⟨some 5, .op (.mv (.t 15)), none⟩])
 (.seq
 (.drawn [
  ⟨⟨some 16, .op (.mv (.t 0)), none⟩, false, 0, 0⟩,
  ⟨⟨some 17, .op (.mv (.t 5)), none⟩, false, 0, 0⟩,
  ⟨⟨some 18, .op (.iadr 3 (.t 16) (.t 17)), none⟩, false, 0, 0⟩,
  ⟨⟨some 19, .op (.load true 3 (.t 18)), none⟩, false, 0, 0⟩,
  ⟨⟨some 20, .op (.mv (.t 1)), none⟩, false, 0, 0⟩,
  ⟨⟨some 21, .op (.mv (.t 5)), none⟩, false, 0, 0⟩,
  ⟨⟨some 22, .op (.iadr 3 (.t 20) (.t 21)), none⟩, false, 0, 0⟩,
  ⟨⟨some 23, .op (.load true 3 (.t 22)), none⟩, false, 0, 0⟩,
  ⟨⟨some 24, .op (.eqv true [some .u64, some .u64, some .u64] (.t 19) (.t 23)), none⟩, false, 0, 0⟩])
 (.cond (.t 24)
 (.seq
 (.region [
  ⟨some 4, .op (.mv (kB false)), none⟩])
 .ret)
 .skip))))
 (.region [
  ⟨some 25, .op (.bin .add (.t 13) (kI .i64 1)), none⟩,
  ⟨some 13, .op (.mv (.t 25)), none⟩]))))
/-- slices.Equal[[]skylight/api.Event,skylight/api.Event] -/
noncomputable def ac_slices_Equal_s_api_Event : ACode :=
 (.seq
 (.region [
  ⟨some 4, .op (.mv (kB false)), none⟩])
 (.seq
 (.seq
 (.region [
  ⟨some 6, .op (.mv (.t 0)), none⟩,
  ⟨some 7, .op (.len (.t 6)), none⟩,
  ⟨some 8, .op (.mv (.t 1)), none⟩,
  ⟨some 9, .op (.len (.t 8)), none⟩,
  ⟨some 10, .op (.bin .neq (.t 7) (.t 9)), none⟩])
 (.cond (.t 10)
 (.seq
 (.region [
  ⟨some 4, .op (.mv (kB false)), none⟩])
 .ret)
 .skip))
 (.seq
 (.seq
 (.region [
  ⟨some 11, .op (.mv (.t 0)), none⟩,
  ⟨some 12, .op (.len (.t 11)), none⟩,
  ⟨some 13, .op (.mv (kI .i64 0)), none⟩])
 (.block 0
 (.loop acl_slices_Equal_s_api_Event_0)))
 (.seq
 (.region [
  ⟨some 4, .op (.mv (kB true)), none⟩])
 .ret))))
theorem fn_slices_Equal_s_api_Event : FnOk Try.prog F_slices_Equal_s_api_Event 26 ac_slices_Equal_s_api_Event [.t 4] :=
  ⟨[190, 189], Try.f161, Try.f161.body.getD .skip, Try.func161, by kernel_rfl, Try.ntmps161, by kernel_rfl, by kernel_rfl, Try.call161⟩
/-- skylight/buffer.Same -/
noncomputable def ac_buffer_Same : ACode :=
 (.seq
 (.region [
  ⟨some 2, .op (.box (.t 0)), none⟩,
  ⟨some 3, .op (.box (.t 1)), none⟩,
  ⟨some 4, .op (.mv (kB false)), none⟩])
 (.seq
 (.region [
  ⟨some 6, .op (.fadr 0 (.t 2)), none⟩,
  ⟨some 7, .op (.load false 1 (.t 6)), none⟩,
  ⟨some 8, .op (.fadr 0 (.t 3)), none⟩,
  ⟨some 9, .op (.load false 1 (.t 8)), none⟩,
  ⟨some 10, .op (.bin .eql (.t 7) (.t 9)), none⟩,
  ⟨some 11, .op (.mv (.t 10)), none⟩,
  ⟨some 12, .op (.fadr 2 (.t 2)), some (11, true)⟩,
  ⟨some 13, .op (.load false 1 (.t 12)), some (11, true)⟩,
  ⟨some 14, .op (.fadr 2 (.t 3)), some (11, true)⟩,
  ⟨some 15, .op (.load false 1 (.t 14)), some (11, true)⟩,
  ⟨some 16, .op (.bin .eql (.t 13) (.t 15)), some (11, true)⟩,
  ⟨some 17, .op (.pick (.t 11) (.t 16) (kB false)), none⟩,
  ⟨some 18, .op (.mv (.t 17)), none⟩,
  ⟨some 19, .op (.fadr 3 (.t 2)), some (18, true)⟩,
  ⟨some 20, .op (.load false 1 (.t 19)), some (18, true)⟩,
  ⟨some 21, .op (.fadr 3 (.t 3)), some (18, true)⟩,
  ⟨some 22, .op (.load false 1 (.t 21)), some (18, true)⟩,
  ⟨some 23, .op (.bin .eql (.t 20) (.t 22)), some (18, true)⟩,
  ⟨some 24, .op (.pick (.t 18) (.t 23) (kB false)), none⟩,
  ⟨some 5, .op (.mv (.t 24)), none⟩])
 (.seq
 (.region [
  ⟨some 25, .op (.mv (.t 5)), none⟩,
  ⟨some 26, .op (.mv (.t 25)), none⟩,
  ⟨some 27, .op (.fadr 1 (.t 2)), some (26, true)⟩,
  ⟨some 28, .op (.load false 1 (.t 27)), some (26, true)⟩,
  ⟨some 29, .op (.fadr 1 (.t 3)), some (26, true)⟩,
  ⟨some 30, .op (.load false 1 (.t 29)), some (26, true)⟩,
  ⟨some 31, .op (.bin .eql (.t 28) (.t 30)), some (26, true)⟩,
  ⟨some 32, .op (.pick (.t 26) (.t 31) (kB false)), none⟩,
  ⟨some 33, .op (.mv (.t 32)), none⟩,
  ⟨some 34, .op (.fadr 4 (.t 2)), some (33, true)⟩,
  ⟨some 35, .op (.load false 1 (.t 34)), some (33, true)⟩,
  ⟨some 36, .op (.fadr 4 (.t 3)), some (33, true)⟩,
  ⟨some 37, .op (.load false 1 (.t 36)), some (33, true)⟩,
  ⟨some 38, .call (kF F_slices_Equal_s_api_Event) [.t 35, .t 37], some (33, true)⟩,
  ⟨some 39, .op (.pick (.t 33) (.t 38) (kB false)), none⟩,
  ⟨some 4, .op (.mv (.t 39)), none⟩])
 .ret)))
theorem fn_buffer_Same : FnOk Try.prog F_buffer_Same 40 ac_buffer_Same [.t 4] :=
  ⟨[190, 189], Try.f111, Try.f111.body.getD .skip, Try.func111, by kernel_rfl, Try.ntmps111, by kernel_rfl, by kernel_rfl, Try.call111⟩
noncomputable def acl_slices_EqualFunc_s_s_api_Span_0 : ACode :=
 (.seq
 (.region [
  ⟨some 18, .op (.bin .lss (.t 17) (.t 16)), none⟩])
 (.seq
 (.cond (.t 18)
 .skip
 (.exit 0))
 (.seq
 (.block 1
 (.seq
 (.region [
  ⟨some 19, .op (.mv (.t 17)), none⟩,
  ⟨some 20, .op (.iadr 1 (.t 15) (.t 17)), none⟩,
  ⟨some 21, .op (.load false 1 (.t 20)), none⟩,
  ⟨some 7, .op (.mv (.t 19)), none⟩,
  ⟨some 8, .op (.mv (.t 21)), none⟩])
 (.seq
 (.region [
  ⟨some 22, .op (.mv (.t 1)), none⟩,
  ⟨some 23, .op (.mv (.t 7)), none⟩,
  ⟨some 24, .op (.iadr 1 (.t 22) (.t 23)), none⟩,
  ⟨some 25, .op (.load false 1 (.t 24)), none⟩,
  ⟨some 9, .op (.mv (.t 25)), none⟩])
 (.seq
 (.region [
  ⟨some 26, .op (.mv (.t 2)), none⟩,
  ⟨some 27, .op (.mv (.t 8)), none⟩,
  ⟨some 28, .op (.mv (.t 9)), none⟩,
  ⟨some 29, .call (.t 26) [.t 27, .t 28], none⟩,
  ⟨some 30, .op (.un .not (.t 29)), none⟩])
 (.cond (.t 30)
 (.seq
 (.region [
  ⟨some 6, .op (.mv (kB false)), none⟩])
 .ret)
 .skip)))))
 (.region [
  ⟨some 31, .op (.bin .add (.t 17) (kI .i64 1)), none⟩,
  ⟨some 17, .op (.mv (.t 31)), none⟩]))))
/-- slices.EqualFunc[[][]skylight/api.Span,[][]skylight/api.Span,[]skylight/api.Span,[]skylight/api.Span] -/
noncomputable def ac_slices_EqualFunc_s_s_api_Span : ACode :=
 (.seq
 (.region [
  ⟨some 6, .op (.mv (kB false)), none⟩])
 (.seq
 (.seq
 (.region [
  ⟨some 10, .op (.mv (.t 0)), none⟩,
  ⟨some 11, .op (.len (.t 10)), none⟩,
  ⟨some 12, .op (.mv (.t 1)), none⟩,
  ⟨some 13, .op (.len (.t 12)), none⟩,
  ⟨some 14, .op (.bin .neq (.t 11) (.t 13)), none⟩])
 (.cond (.t 14)
 (.seq
 (.region [
  ⟨some 6, .op (.mv (kB false)), none⟩])
 .ret)
 .skip))
 (.seq
 (.seq
 (.region [
  ⟨some 15, .op (.mv (.t 0)), none⟩,
  ⟨some 16, .op (.len (.t 15)), none⟩,
  ⟨some 17, .op (.mv (kI .i64 0)), none⟩])
 (.block 0
 (.loop acl_slices_EqualFunc_s_s_api_Span_0)))
 (.seq
 (.region [
  ⟨some 6, .op (.mv (kB true)), none⟩])
 .ret))))
theorem fn_slices_EqualFunc_s_s_api_Span : FnOk Try.prog F_slices_EqualFunc_s_s_api_Span 32 ac_slices_EqualFunc_s_s_api_Span [.t 6] :=
  ⟨[190, 189], Try.f154, Try.f154.body.getD .skip, Try.func154, by kernel_rfl, Try.ntmps154, by kernel_rfl, by kernel_rfl, Try.call154⟩
noncomputable def acl_slices_Equal_s_api_Span_0 : ACode :=
 (.seq
 (.region [
  ⟨some 14, .op (.bin .lss (.t 13) (.t 12)), none⟩])
 (.seq
 (.cond (.t 14)
 .skip
 (.exit 0))
 (.seq
 (.block 1
 (.seq
 (.region [
  ⟨some 15, .op (.mv (.t 13)), none⟩,
  ⟨some 5, .op (.mv (.t 15)), none⟩])
 (.seq
 (.drawn [
  ⟨⟨some 16, .op (.mv (.t 0)), none⟩, false, 0, 0⟩,
  ⟨⟨some 17, .op (.mv (.t 5)), none⟩, false, 0, 0⟩,
  ⟨⟨some 18, .op (.iadr 2 (.t 16) (.t 17)), none⟩, false, 0, 0⟩,
  ⟨⟨some 19, .op (.load true 2 (.t 18)), none⟩, false, 0, 0⟩,
  ⟨⟨some 20, .op (.mv (.t 1)), none⟩, false, 0, 0⟩,
  ⟨⟨some 21, .op (.mv (.t 5)), none⟩, false, 0, 0⟩,
  ⟨⟨some 22, .op (.iadr 2 (.t 20) (.t 21)), none⟩, false, 0, 0⟩,
  ⟨⟨some 23, .op (.load true 2 (.t 22)), none⟩, false, 0, 0⟩,
  ⟨⟨some 24, .op (.eqv true [some .u64, some .u64] (.t 19) (.t 23)), none⟩, false, 0, 0⟩])
 (.cond (.t 24)
 (.seq
 (.region [
  ⟨some 4, .op (.mv (kB false)), none⟩])
 .ret)
 .skip))))
 (.region [
  ⟨some 25, .op (.bin .add (.t 13) (kI .i64 1)), none⟩,
  ⟨some 13, .op (.mv (.t 25)), none⟩]))))
/-- slices.Equal[[]skylight/api.Span,skylight/api.Span] -/
noncomputable def ac_slices_Equal_s_api_Span : ACode :=
 (.seq
 (.region [
  ⟨some 4, .op (.mv (kB false)), none⟩])
 (.seq
 (.seq
 (.region [
  ⟨some 6, .op (.mv (.t 0)), none⟩,
  ⟨some 7, .op (.len (.t 6)), none⟩,
  ⟨some 8, .op (.mv (.t 1)), none⟩,
  ⟨some 9, .op (.len (.t 8)), none⟩,
  ⟨some 10, .op (.bin .neq (.t 7) (.t 9)), none⟩])
 (.cond (.t 10)
 (.seq
 (.region [
  ⟨some 4, .op (.mv (kB false)), none⟩])
 .ret)
 .skip))
 (.seq
 (.seq
 (.region [
  ⟨some 11, .op (.mv (.t 0)), none⟩,
  ⟨some 12, .op (.len (.t 11)), none⟩,
  ⟨some 13, .op (.mv (kI .i64 0)), none⟩])
 (.block 0
 (.loop acl_slices_Equal_s_api_Span_0)))
 (.seq
 (.region [
  ⟨some 4, .op (.mv (kB true)), none⟩])
 .ret))))
theorem fn_slices_Equal_s_api_Span : FnOk Try.prog F_slices_Equal_s_api_Span 26 ac_slices_Equal_s_api_Span [.t 4] :=
  ⟨[190, 189], Try.f155, Try.f155.body.getD .skip, Try.func155, by kernel_rfl, Try.ntmps155, by kernel_rfl, by kernel_rfl, Try.call155⟩
/-- (skylight/hist.Hist).equal -/
noncomputable def ac_hist_Hist_equal : ACode :=
 (.seq
 (.region [
  ⟨some 2, .op (.box (.t 0)), none⟩,
  ⟨some 4, .op (.mv (kB false)), none⟩])
 (.seq
 (.region [
  ⟨some 5, .op (.fadr 2 (.t 2)), none⟩,
  ⟨some 6, .op (.load false 1 (.t 5)), none⟩,
  ⟨some 7, .op (.mv (.t 1)), none⟩,
  ⟨some 8, .call (kF F_slices_EqualFunc_s_s_api_Span) [.t 6, .t 7, kF F_slices_Equal_s_api_Span], none⟩,
  ⟨some 4, .op (.mv (.t 8)), none⟩])
 .ret))
theorem fn_hist_Hist_equal : FnOk Try.prog F_hist_Hist_equal 9 ac_hist_Hist_equal [.t 4] :=
  ⟨[190, 189], Try.f105, Try.f105.body.getD .skip, Try.func105, by kernel_rfl, Try.ntmps105, by kernel_rfl, by kernel_rfl, Try.call105⟩
/-- skylight/hist.Same -/
noncomputable def ac_hist_Same : ACode :=
 (.seq
 (.region [
  ⟨some 2, .op (.box (.t 0)), none⟩,
  ⟨some 3, .op (.box (.t 1)), none⟩,
  ⟨some 4, .op (.mv (kB false)), none⟩])
 (.seq
 (.region [
  ⟨some 6, .op (.load true 3 (.t 2)), none⟩,
  ⟨some 7, .op (.mkbm (.func F_hist_Hist_equal) (.t 6)), none⟩,
  ⟨some 5, .op (.mv (.t 7)), none⟩])
 (.seq
 (.region [
  ⟨some 8, .op (.fadr 0 (.t 2)), none⟩,
  ⟨some 9, .op (.load false 1 (.t 8)), none⟩,
  ⟨some 10, .op (.fadr 0 (.t 3)), none⟩,
  ⟨some 11, .op (.load false 1 (.t 10)), none⟩,
  ⟨some 12, .op (.bin .eql (.t 9) (.t 11)), none⟩,
  ⟨some 13, .op (.mv (.t 12)), none⟩,
  ⟨some 14, .op (.fadr 1 (.t 2)), some (13, true)⟩,
  ⟨some 15, .op (.load false 1 (.t 14)), some (13, true)⟩,
  ⟨some 16, .op (.fadr 1 (.t 3)), some (13, true)⟩,
  ⟨some 17, .op (.load false 1 (.t 16)), some (13, true)⟩,
  ⟨some 18, .op (.bin .eql (.t 15) (.t 17)), some (13, true)⟩,
  ⟨some 19, .op (.pick (.t 13) (.t 18) (kB false)), none⟩,
  ⟨some 20, .op (.mv (.t 19)), none⟩,
  ⟨some 21, .op (.mv (.t 5)), some (20, true)⟩,
  ⟨some 22, .op (.fadr 2 (.t 3)), some (20, true)⟩,
  ⟨some 23, .op (.load false 1 (.t 22)), some (20, true)⟩,
  ⟨some 24, .call (.t 21) [.t 23], some (20, true)⟩,
  ⟨some 25, .op (.pick (.t 20) (.t 24) (kB false)), none⟩,
  ⟨some 4, .op (.mv (.t 25)), none⟩])
 .ret)))
theorem fn_hist_Same : FnOk Try.prog F_hist_Same 26 ac_hist_Same [.t 4] :=
  ⟨[190, 189], Try.f47, Try.f47.body.getD .skip, Try.func47, by kernel_rfl, Try.ntmps47, by kernel_rfl, by kernel_rfl, Try.call47⟩
/-- skylight/count.Same -/
noncomputable def ac_count_Same : ACode :=
 (.seq
 (.region [
  ⟨some 2, .op (.box (.t 0)), none⟩,
  ⟨some 3, .op (.box (.t 1)), none⟩,
  ⟨some 4, .op (.mv (kB false)), none⟩])
 (.seq
 (.region [
  ⟨some 5, .op (.fadr 0 (.t 2)), none⟩,
  ⟨some 6, .op (.load false 1 (.t 5)), none⟩,
  ⟨some 7, .op (.fadr 0 (.t 3)), none⟩,
  ⟨some 8, .op (.load false 1 (.t 7)), none⟩,
  ⟨some 9, .op (.bin .eql (.t 6) (.t 8)), none⟩,
  ⟨some 10, .op (.mv (.t 9)), none⟩,
  ⟨some 11, .op (.fadr 1 (.t 2)), some (10, true)⟩,
  ⟨some 12, .op (.load true 5 (.t 11)), some (10, true)⟩,
  ⟨some 13, .op (.fadr 1 (.t 3)), some (10, true)⟩,
  ⟨some 14, .op (.load true 5 (.t 13)), some (10, true)⟩,
  ⟨some 15, .call (kF F_buffer_Same) [.t 12, .t 14], some (10, true)⟩,
  ⟨some 16, .op (.pick (.t 10) (.t 15) (kB false)), none⟩,
  ⟨some 17, .op (.mv (.t 16)), none⟩,
  ⟨some 18, .op (.fadr 6 (.t 2)), some (17, true)⟩,
  ⟨some 19, .op (.load true 3 (.t 18)), some (17, true)⟩,
  ⟨some 20, .op (.fadr 6 (.t 3)), some (17, true)⟩,
  ⟨some 21, .op (.load true 3 (.t 20)), some (17, true)⟩,
  ⟨some 22, .call (kF F_hist_Same) [.t 19, .t 21], some (17, true)⟩,
  ⟨some 23, .op (.pick (.t 17) (.t 22) (kB false)), none⟩,
  ⟨some 4, .op (.mv (.t 23)), none⟩])
 .ret))
theorem fn_count_Same : FnOk Try.prog F_count_Same 24 ac_count_Same [.t 4] :=
  ⟨[190, 189], Try.f50, Try.f50.body.getD .skip, Try.func50, by kernel_rfl, Try.ntmps50, by kernel_rfl, by kernel_rfl, Try.call50⟩
/-- skylight/skylightlaw14.awake -/
noncomputable def ac_skylightlaw14_awake : ACode :=
 (.seq
 (.region [
  ⟨some 0, .op (.mv (kB false)), none⟩])
 (.seq
 (.region [
  ⟨some 10, .call (kF F_count_New) [kI .i64 2, kI .u64 10, kI .u64 2, kI .i64 9], none⟩,
  ⟨some 9, .op (.mv (.t 10)), none⟩,
  ⟨some 11, .op (.ext (.t 9) 0), none⟩,
  ⟨some 12, .op (.ext (.t 9) 1), none⟩,
  ⟨some 1, .op (.alloc [.v (.int .u64 0), .v (.int .u64 0), .v (.int .i64 0), .v (.int .u64 0), .v (.int .u64 0), .sl true [], .v (.int .i64 0), .v (.int .i64 0), .sl true []]), none⟩,
  ⟨none, .op (.store 9 (.t 1) (.t 11)), none⟩,
  ⟨some 2, .op (.mv (.t 12)), none⟩])
 (.seq
 (.region [
  ⟨some 14, .op (.load true 9 (.t 1)), none⟩,
  ⟨some 15, .op (.build [.v (.int .u64 0), .v (.int .u64 0), .v (.int .u64 0)] [(0, 1, kI .u64 5), (2, 1, kI .u64 3)]), none⟩,
  ⟨some 16, .call (kF F_count_Add) [.t 14, .t 15], none⟩,
  ⟨some 13, .op (.mv (.t 16)), none⟩,
  ⟨some 17, .op (.ext (.t 13) 0), none⟩,
  ⟨some 18, .op (.ext (.t 13) 1), none⟩,
  ⟨some 3, .op (.alloc [.v (.int .u64 0), .v (.int .u64 0), .v (.int .i64 0), .v (.int .u64 0), .v (.int .u64 0), .sl true [], .v (.int .i64 0), .v (.int .i64 0), .sl true []]), none⟩,
  ⟨none, .op (.store 9 (.t 3) (.t 17)), none⟩,
  ⟨some 4, .op (.mv (.t 18)), none⟩])
 (.seq
 (.region [
  ⟨some 20, .op (.load true 9 (.t 3)), none⟩,
  ⟨some 21, .call (kF F_count_Query) [.t 20, kI .u64 5, kI .u64 10], none⟩,
  ⟨some 19, .op (.mv (.t 21)), none⟩,
  ⟨some 22, .op (.ext (.t 19) 0), none⟩,
  ⟨some 23, .op (.ext (.t 19) 1), none⟩,
  ⟨some 5, .op (.mv (.t 22)), none⟩,
  ⟨some 6, .op (.mv (.t 23)), none⟩])
 (.seq
 (.region [
  ⟨some 25, .op (.load true 9 (.t 3)), none⟩,
  ⟨some 26, .call (kF F_count_Query) [.t 25, kI .u64 2, kI .u64 10], none⟩,
  ⟨some 24, .op (.mv (.t 26)), none⟩,
  ⟨some 27, .op (.ext (.t 24) 0), none⟩,
  ⟨some 28, .op (.ext (.t 24) 1), none⟩,
  ⟨some 7, .op (.mv (.t 27)), none⟩,
  ⟨some 8, .op (.mv (.t 28)), none⟩])
 (.seq
 (.region [
  ⟨some 29, .op (.mv (.t 2)), none⟩,
  ⟨some 30, .op (.bin .eql (.t 29) (kI .i64 0)), none⟩,
  ⟨some 31, .op (.mv (.t 30)), none⟩,
  ⟨some 32, .op (.mv (.t 4)), some (31, true)⟩,
  ⟨some 33, .op (.bin .eql (.t 32) (kI .i64 0)), some (31, true)⟩,
  ⟨some 34, .op (.pick (.t 31) (.t 33) (kB false)), none⟩,
  ⟨some 35, .op (.mv (.t 34)), none⟩,
  ⟨some 36, .op (.mv (.t 5)), some (35, true)⟩,
  ⟨some 37, .op (.bin .eql (.t 36) (kI .u64 3)), some (35, true)⟩,
  ⟨some 38, .op (.pick (.t 35) (.t 37) (kB false)), none⟩,
  ⟨some 39, .op (.mv (.t 38)), none⟩,
  ⟨some 40, .op (.mv (.t 6)), some (39, true)⟩,
  ⟨some 41, .op (.bin .eql (.t 40) (kI .i64 0)), some (39, true)⟩,
  ⟨some 42, .op (.pick (.t 39) (.t 41) (kB false)), none⟩,
  ⟨some 43, .op (.mv (.t 42)), none⟩,
  ⟨some 44, .op (.mv (.t 8)), some (43, true)⟩,
  ⟨some 45, .op (.bin .eql (.t 44) (kI .i64 6)), some (43, true)⟩,
  ⟨some 46, .op (.pick (.t 43) (.t 45) (kB false)), none⟩,
  ⟨some 47, .op (.mv (.t 46)), none⟩,
  ⟨some 48, .op (.load true 9 (.t 3)), some (47, true)⟩,
  ⟨some 49, .op (.load true 9 (.t 3)), some (47, true)⟩,
  ⟨some 50, .call (kF F_count_Same) [.t 48, .t 49], some (47, true)⟩,
  ⟨some 51, .op (.pick (.t 47) (.t 50) (kB false)), none⟩,
  ⟨some 52, .op (.mv (.t 51)), none⟩,
  ⟨some 53, .op (.load true 9 (.t 1)), some (52, true)⟩,
  ⟨some 54, .op (.load true 9 (.t 3)), some (52, true)⟩,
  ⟨some 55, .call (kF F_count_Same) [.t 53, .t 54], some (52, true)⟩,
  ⟨some 56, .op (.un .not (.t 55)), some (52, true)⟩,
  ⟨some 57, .op (.pick (.t 52) (.t 56) (kB false)), none⟩,
  ⟨some 0, .op (.mv (.t 57)), none⟩])
 .ret))))))
theorem fn_skylightlaw14_awake : FnOk Try.prog F_skylightlaw14_awake 58 ac_skylightlaw14_awake [.t 0] :=
  ⟨[190, 189], Try.f11, Try.f11.body.getD .skip, Try.func11, by kernel_rfl, Try.ntmps11, by kernel_rfl, by kernel_rfl, Try.call11⟩
/-- skylight/skylightref14.New -/
noncomputable def ac_skylightref14_New : ACode :=
 (.seq
 (.region [
  ⟨some 8, .op (.alloc [.v (.int .u64 0), .v (.int .u64 0), .v (.int .i64 0), .v (.int .u64 0), .v (.int .u64 0), .sl true [], .v (.int .i64 0), .v (.int .i64 0), .sl true []]), none⟩])
 (.seq
 (.region [
  ⟨some 9, .op (.mv (.t 1)), none⟩,
  ⟨some 10, .op (.mv (.t 2)), none⟩,
  ⟨some 11, .op (.mv (.t 3)), none⟩,
  ⟨some 12, .op (.build [.v (.int .u64 0), .v (.int .i64 0), .v (.int .u64 0), .v (.int .u64 0), .sl true []] [(0, 1, .t 10), (1, 1, .t 11)]), none⟩,
  ⟨some 13, .op (.mv (.t 0)), none⟩,
  ⟨some 14, .op (.build [.v (.int .i64 0), .v (.int .i64 0), .sl true []] [(0, 1, .t 13)]), none⟩,
  ⟨some 15, .op (.build [.v (.int .u64 0), .v (.int .u64 0), .v (.int .i64 0), .v (.int .u64 0), .v (.int .u64 0), .sl true [], .v (.int .i64 0), .v (.int .i64 0), .sl true []] [(0, 1, .t 9), (1, 5, .t 12), (6, 3, .t 14)]), none⟩,
  ⟨none, .op (.store 9 (.t 8) (.t 15)), none⟩])
 .ret))
theorem fn_skylightref14_New : FnOk Try.prog F_skylightref14_New 16 ac_skylightref14_New [.cell 8 true 9] :=
  ⟨[190, 189], Try.f12, Try.f12.body.getD .skip, Try.func12, by kernel_rfl, Try.ntmps12, by kernel_rfl, by kernel_rfl, Try.call12⟩
noncomputable def acl_skylightref12_split_0 : ACode :=
 (.seq
 (.seq
 (.region [
  ⟨some 9, .op (.mv (.t 8)), none⟩,
  ⟨some 10, .op (.mv (.t 0)), none⟩,
  ⟨some 11, .op (.len (.t 10)), none⟩,
  ⟨some 12, .op (.bin .lss (.t 9) (.t 11)), none⟩])
 (.cond (.t 12)
 .skip
 (.exit 0)))
 (.seq
 (.block 1
 (.seq
 (.region [
  ⟨some 15, .op (.mv (.t 0)), none⟩,
  ⟨some 16, .op (.mv (.t 8)), none⟩,
  ⟨some 17, .op (.iadr 3 (.t 15) (.t 16)), none⟩,
  ⟨some 18, .op (.fadr 0 (.t 17)), none⟩,
  ⟨some 19, .op (.load false 1 (.t 18)), none⟩,
  ⟨some 20, .op (.mv (.t 1)), none⟩,
  ⟨some 21, .op (.bin .leq (.t 19) (.t 20)), none⟩])
 (.cond (.t 21)
 (.region [
  ⟨some 22, .op (.mv (.t 6)), none⟩,
  ⟨some 23, .op (.mv (.t 0)), none⟩,
  ⟨some 24, .op (.mv (.t 8)), none⟩,
  ⟨some 25, .op (.iadr 3 (.t 23) (.t 24)), none⟩,
  ⟨some 26, .op (.load true 3 (.t 25)), none⟩,
  ⟨some 27, .op (.bslice false 3 1 [.v (.int .u64 0), .v (.int .u64 0), .v (.int .u64 0)] [(0, .t 26)]), none⟩,
  ⟨some 28, .op (.app 3 24 (.t 22) (.t 27)), none⟩,
  ⟨some 6, .op (.mv (.t 28)), none⟩])
 (.region [
  ⟨some 29, .op (.mv (.t 7)), none⟩,
  ⟨some 30, .op (.mv (.t 0)), none⟩,
  ⟨some 31, .op (.mv (.t 8)), none⟩,
  ⟨some 32, .op (.iadr 3 (.t 30) (.t 31)), none⟩,
  ⟨some 33, .op (.load true 3 (.t 32)), none⟩,
  ⟨some 34, .op (.bslice false 3 1 [.v (.int .u64 0), .v (.int .u64 0), .v (.int .u64 0)] [(0, .t 33)]), none⟩,
  ⟨some 35, .op (.app 3 24 (.t 29) (.t 34)), none⟩,
  ⟨some 7, .op (.mv (.t 35)), none⟩]))))
 (.region [
  ⟨some 13, .op (.mv (.t 8)), none⟩,
  ⟨some 14, .op (.bin .add (.t 13) (kI .i64 1)), none⟩,
  ⟨some 8, .op (.mv (.t 14)), none⟩])))
/-- skylight/skylightref12.split -/
noncomputable def ac_skylightref12_split : ACode :=
 (.seq
 (.region [
  ⟨some 4, .op (.mv (kN)), none⟩,
  ⟨some 5, .op (.mv (kN)), none⟩])
 (.seq
 (.region [
  ⟨some 6, .op (.mv (kN)), none⟩])
 (.seq
 (.region [
  ⟨some 7, .op (.mv (kN)), none⟩])
 (.seq
 (.seq
 (.region [
  ⟨some 8, .op (.mv (kI .i64 0)), none⟩])
 (.block 0
 (.loop acl_skylightref12_split_0)))
 (.seq
 (.region [
  ⟨some 36, .op (.mv (.t 6)), none⟩,
  ⟨some 37, .op (.mv (.t 7)), none⟩,
  ⟨some 4, .op (.mv (.t 36)), none⟩,
  ⟨some 5, .op (.mv (.t 37)), none⟩])
 .ret)))))
theorem fn_skylightref12_split : FnOk Try.prog F_skylightref12_split 38 ac_skylightref12_split [.t 4, .t 5] :=
  ⟨[190, 189], Try.f163, Try.f163.body.getD .skip, Try.func163, by kernel_rfl, Try.ntmps163, by kernel_rfl, by kernel_rfl, Try.call163⟩
noncomputable def acl_skylightref12_settle_0 : ACode :=
 (.seq
 (.seq
 (.region [
  ⟨some 37, .op (.mv (.t 5)), none⟩,
  ⟨some 38, .op (.len (.t 37)), none⟩,
  ⟨some 39, .op (.fadr 1 (.t 1)), none⟩,
  ⟨some 40, .op (.load false 1 (.t 39)), none⟩,
  ⟨some 41, .op (.bin .gtr (.t 38) (.t 40)), none⟩])
 (.cond (.t 41)
 .skip
 (.exit 0)))
 (.block 1
 (.seq
 (.region [
  ⟨some 42, .op (.mv (.t 5)), none⟩,
  ⟨some 43, .op (.iadr 3 (.t 42) (kI .i64 0)), none⟩,
  ⟨some 44, .op (.fadr 0 (.t 43)), none⟩,
  ⟨some 45, .op (.load false 1 (.t 44)), none⟩,
  ⟨some 46, .op (.fadr 3 (.t 1)), none⟩,
  ⟨none, .op (.store 1 (.t 46) (.t 45)), none⟩])
 (.seq
 (.region [
  ⟨some 48, .op (.mv (.t 5)), none⟩,
  ⟨some 49, .op (.fadr 3 (.t 1)), none⟩,
  ⟨some 50, .op (.load false 1 (.t 49)), none⟩,
  ⟨some 51, .call (kF F_skylightref12_split) [.t 48, .t 50], none⟩,
  ⟨some 47, .op (.mv (.t 51)), none⟩,
  ⟨some 52, .op (.ext (.t 47) 0), none⟩,
  ⟨some 53, .op (.ext (.t 47) 1), none⟩,
  ⟨some 6, .op (.mv (.t 52)), none⟩,
  ⟨some 7, .op (.mv (.t 53)), none⟩])
 (.seq
 (.region [
  ⟨some 54, .op (.mv (.t 4)), none⟩,
  ⟨some 55, .op (.mv (.t 6)), none⟩,
  ⟨some 56, .op (.app 3 24 (.t 54) (.t 55)), none⟩,
  ⟨some 4, .op (.mv (.t 56)), none⟩])
 (.region [
  ⟨some 57, .op (.mv (.t 7)), none⟩,
  ⟨some 5, .op (.mv (.t 57)), none⟩]))))))
/-- skylight/skylightref12.settle -/
noncomputable def ac_skylightref12_settle : ACode :=
 (.seq
 (.region [
  ⟨some 1, .op (.box (.t 0)), none⟩,
  ⟨some 2, .op (.alloc [.v (.int .u64 0), .v (.int .i64 0), .v (.int .u64 0), .v (.int .u64 0), .sl true []]), none⟩,
  ⟨some 3, .op (.mv (kN)), none⟩])
 (.seq
 (.seq
 (.region [
  ⟨some 8, .op (.fadr 2 (.t 1)), none⟩,
  ⟨some 9, .op (.load false 1 (.t 8)), none⟩,
  ⟨some 10, .op (.fadr 0 (.t 1)), none⟩,
  ⟨some 11, .op (.load false 1 (.t 10)), none⟩,
  ⟨some 12, .op (.bin .geq (.t 9) (.t 11)), none⟩,
  ⟨some 13, .op (.mv (.t 12)), none⟩,
  ⟨some 14, .op (.fadr 2 (.t 1)), some (13, true)⟩,
  ⟨some 15, .op (.load false 1 (.t 14)), some (13, true)⟩,
  ⟨some 16, .op (.fadr 0 (.t 1)), some (13, true)⟩,
  ⟨some 17, .op (.load false 1 (.t 16)), some (13, true)⟩,
  ⟨some 18, .op (.bin .sub (.t 15) (.t 17)), some (13, true)⟩,
  ⟨some 19, .op (.fadr 3 (.t 1)), some (13, true)⟩,
  ⟨some 20, .op (.load false 1 (.t 19)), some (13, true)⟩,
  ⟨some 21, .op (.bin .gtr (.t 18) (.t 20)), some (13, true)⟩,
  ⟨some 22, .op (.pick (.t 13) (.t 21) (kB false)), none⟩])
 (.cond (.t 22)
 (.region [
  ⟨some 23, .op (.fadr 2 (.t 1)), none⟩,
  ⟨some 24, .op (.load false 1 (.t 23)), none⟩,
  ⟨some 25, .op (.fadr 0 (.t 1)), none⟩,
  ⟨some 26, .op (.load false 1 (.t 25)), none⟩,
  ⟨some 27, .op (.bin .sub (.t 24) (.t 26)), none⟩,
  ⟨some 28, .op (.fadr 3 (.t 1)), none⟩,
  ⟨none, .op (.store 1 (.t 28) (.t 27)), none⟩])
 .skip))
 (.seq
 (.region [
  ⟨some 30, .op (.fadr 4 (.t 1)), none⟩,
  ⟨some 31, .op (.load false 1 (.t 30)), none⟩,
  ⟨some 32, .op (.fadr 3 (.t 1)), none⟩,
  ⟨some 33, .op (.load false 1 (.t 32)), none⟩,
  ⟨some 34, .call (kF F_skylightref12_split) [.t 31, .t 33], none⟩,
  ⟨some 29, .op (.mv (.t 34)), none⟩,
  ⟨some 35, .op (.ext (.t 29) 0), none⟩,
  ⟨some 36, .op (.ext (.t 29) 1), none⟩,
  ⟨some 4, .op (.mv (.t 35)), none⟩,
  ⟨some 5, .op (.mv (.t 36)), none⟩])
 (.seq
 (.block 0
 (.loop acl_skylightref12_settle_0))
 (.seq
 (.region [
  ⟨some 58, .op (.mv (.t 5)), none⟩,
  ⟨some 59, .op (.fadr 4 (.t 1)), none⟩,
  ⟨none, .op (.store 1 (.t 59) (.t 58)), none⟩])
 (.seq
 (.region [
  ⟨some 60, .op (.load true 5 (.t 1)), none⟩,
  ⟨some 61, .op (.mv (.t 4)), none⟩,
  ⟨none, .op (.store 5 (.t 2) (.t 60)), none⟩,
  ⟨some 3, .op (.mv (.t 61)), none⟩])
 .ret))))))
theorem fn_skylightref12_settle : FnOk Try.prog F_skylightref12_settle 62 ac_skylightref12_settle [.cell 2 true 5, .t 3] :=
  ⟨[190, 189], Try.f162, Try.f162.body.getD .skip, Try.func162, by kernel_rfl, Try.ntmps162, by kernel_rfl, by kernel_rfl, Try.call162⟩
/-- skylight/skylightref12.Move -/
noncomputable def ac_skylightref12_Move : ACode :=
 (.seq
 (.region [
  ⟨some 2, .op (.box (.t 0)), none⟩,
  ⟨some 4, .op (.alloc [.v (.int .u64 0), .v (.int .i64 0), .v (.int .u64 0), .v (.int .u64 0), .sl true []]), none⟩,
  ⟨some 5, .op (.mv (kN)), none⟩,
  ⟨some 6, .op (.mv (kI .i64 0)), none⟩])
 (.seq
 (.seq
 (.region [
  ⟨some 9, .op (.mv (.t 1)), none⟩,
  ⟨some 10, .op (.bin .gtr (.t 9) (kI .u64 9223372036854775807)), none⟩])
 (.cond (.t 10)
 (.seq
 (.region [
  ⟨some 11, .op (.build [.v (.int .u64 0), .v (.int .i64 0), .v (.int .u64 0), .v (.int .u64 0), .sl true []] []), none⟩,
  ⟨none, .op (.store 5 (.t 4) (.t 11)), none⟩,
  ⟨some 5, .op (.mv (kN)), none⟩,
  ⟨some 6, .op (.mv (kI .i64 6)), none⟩])
 .ret)
 .skip))
 (.seq
 (.region [
  ⟨some 12, .op (.fadr 2 (.t 2)), none⟩,
  ⟨some 13, .op (.load false 1 (.t 12)), none⟩,
  ⟨some 14, .op (.mv (.t 1)), none⟩,
  ⟨some 15, .op (.mx [.t 13, .t 14]), none⟩,
  ⟨some 16, .op (.fadr 2 (.t 2)), none⟩,
  ⟨none, .op (.store 1 (.t 16) (.t 15)), none⟩])
 (.seq
 (.region [
  ⟨some 18, .op (.load true 5 (.t 2)), none⟩,
  ⟨some 19, .call (kF F_skylightref12_settle) [.t 18], none⟩,
  ⟨some 17, .op (.mv (.t 19)), none⟩,
  ⟨some 20, .op (.ext (.t 17) 0), none⟩,
  ⟨some 21, .op (.ext (.t 17) 1), none⟩,
  ⟨some 7, .op (.alloc [.v (.int .u64 0), .v (.int .i64 0), .v (.int .u64 0), .v (.int .u64 0), .sl true []]), none⟩,
  ⟨none, .op (.store 5 (.t 7) (.t 20)), none⟩,
  ⟨some 8, .op (.mv (.t 21)), none⟩])
 (.seq
 (.region [
  ⟨some 22, .op (.load true 5 (.t 7)), none⟩,
  ⟨some 23, .op (.mv (.t 8)), none⟩,
  ⟨none, .op (.store 5 (.t 4) (.t 22)), none⟩,
  ⟨some 5, .op (.mv (.t 23)), none⟩,
  ⟨some 6, .op (.mv (kI .i64 0)), none⟩])
 .ret)))))
theorem fn_skylightref12_Move : FnOk Try.prog F_skylightref12_Move 24 ac_skylightref12_Move [.cell 4 true 5, .t 5, .t 6] :=
  ⟨[190, 189], Try.f112, Try.f112.body.getD .skip, Try.func112, by kernel_rfl, Try.ntmps112, by kernel_rfl, by kernel_rfl, Try.call112⟩
/-- skylight/skylightref06.Last -/
noncomputable def ac_skylightref06_Last : ACode :=
 (.seq
 (.region [
  ⟨some 1, .op (.box (.t 0)), none⟩,
  ⟨some 2, .op (.mv (kI .u64 0)), none⟩,
  ⟨some 3, .op (.mv (kB false)), none⟩])
 (.seq
 (.seq
 (.region [
  ⟨some 5, .op (.fadr 2 (.t 1)), none⟩,
  ⟨some 6, .op (.load false 1 (.t 5)), none⟩,
  ⟨some 7, .op (.len (.t 6)), none⟩,
  ⟨some 8, .op (.bin .eql (.t 7) (kI .i64 0)), none⟩,
  ⟨some 9, .op (.mv (.t 8)), none⟩,
  ⟨some 10, .op (.fadr 2 (.t 1)), some (9, false)⟩,
  ⟨some 11, .op (.load false 1 (.t 10)), some (9, false)⟩,
  ⟨some 12, .op (.iadr 1 (.t 11) (kI .i64 0)), some (9, false)⟩,
  ⟨some 13, .op (.load false 1 (.t 12)), some (9, false)⟩,
  ⟨some 14, .op (.len (.t 13)), some (9, false)⟩,
  ⟨some 15, .op (.bin .eql (.t 14) (kI .i64 0)), some (9, false)⟩,
  ⟨some 16, .op (.pick (.t 9) (kB true) (.t 15)), none⟩])
 (.cond (.t 16)
 (.seq
 (.region [
  ⟨some 2, .op (.mv (kI .u64 0)), none⟩,
  ⟨some 3, .op (.mv (kB false)), none⟩])
 .ret)
 .skip))
 (.seq
 (.region [
  ⟨some 17, .op (.fadr 2 (.t 1)), none⟩,
  ⟨some 18, .op (.load false 1 (.t 17)), none⟩,
  ⟨some 19, .op (.iadr 1 (.t 18) (kI .i64 0)), none⟩,
  ⟨some 20, .op (.load false 1 (.t 19)), none⟩,
  ⟨some 4, .op (.mv (.t 20)), none⟩])
 (.seq
 (.region [
  ⟨some 21, .op (.mv (.t 4)), none⟩,
  ⟨some 22, .op (.mv (.t 4)), none⟩,
  ⟨some 23, .op (.len (.t 22)), none⟩,
  ⟨some 24, .op (.bin .sub (.t 23) (kI .i64 1)), none⟩,
  ⟨some 25, .op (.iadr 2 (.t 21) (.t 24)), none⟩,
  ⟨some 26, .op (.fadr 1 (.t 25)), none⟩,
  ⟨some 27, .op (.load false 1 (.t 26)), none⟩,
  ⟨some 2, .op (.mv (.t 27)), none⟩,
  ⟨some 3, .op (.mv (kB true)), none⟩])
 .ret))))
theorem fn_skylightref06_Last : FnOk Try.prog F_skylightref06_Last 28 ac_skylightref06_Last [.t 2, .t 3] :=
  ⟨[190, 189], Try.f134, Try.f134.body.getD .skip, Try.func134, by kernel_rfl, Try.ntmps134, by kernel_rfl, by kernel_rfl, Try.call134⟩
noncomputable def acl_skylightref06_Total_0 : ACode :=
 (.seq
 (.seq
 (.region [
  ⟨some 5, .op (.mv (.t 4)), none⟩,
  ⟨some 6, .op (.fadr 2 (.t 1)), none⟩,
  ⟨some 7, .op (.load false 1 (.t 6)), none⟩,
  ⟨some 8, .op (.len (.t 7)), none⟩,
  ⟨some 9, .op (.bin .lss (.t 5) (.t 8)), none⟩])
 (.cond (.t 9)
 .skip
 (.exit 0)))
 (.seq
 (.block 1
 (.region [
  ⟨some 12, .op (.mv (.t 3)), none⟩,
  ⟨some 13, .op (.fadr 2 (.t 1)), none⟩,
  ⟨some 14, .op (.load false 1 (.t 13)), none⟩,
  ⟨some 15, .op (.mv (.t 4)), none⟩,
  ⟨some 16, .op (.iadr 1 (.t 14) (.t 15)), none⟩,
  ⟨some 17, .op (.load false 1 (.t 16)), none⟩,
  ⟨some 18, .op (.len (.t 17)), none⟩,
  ⟨some 19, .op (.conv .u64 (.t 18)), none⟩,
  ⟨some 20, .op (.mv (.t 4)), none⟩,
  ⟨some 21, .op (.bin .shl (.t 19) (.t 20)), none⟩,
  ⟨some 22, .op (.bin .add (.t 12) (.t 21)), none⟩,
  ⟨some 3, .op (.mv (.t 22)), none⟩]))
 (.region [
  ⟨some 10, .op (.mv (.t 4)), none⟩,
  ⟨some 11, .op (.bin .add (.t 10) (kI .i64 1)), none⟩,
  ⟨some 4, .op (.mv (.t 11)), none⟩])))
/-- skylight/skylightref06.Total -/
noncomputable def ac_skylightref06_Total : ACode :=
 (.seq
 (.region [
  ⟨some 1, .op (.box (.t 0)), none⟩,
  ⟨some 2, .op (.mv (kI .u64 0)), none⟩])
 (.seq
 (.region [
  ⟨some 3, .op (.mv (kI .u64 0)), none⟩])
 (.seq
 (.seq
 (.region [
  ⟨some 4, .op (.mv (kI .i64 0)), none⟩])
 (.block 0
 (.loop acl_skylightref06_Total_0)))
 (.seq
 (.region [
  ⟨some 23, .op (.mv (.t 3)), none⟩,
  ⟨some 2, .op (.mv (.t 23)), none⟩])
 .ret))))
theorem fn_skylightref06_Total : FnOk Try.prog F_skylightref06_Total 24 ac_skylightref06_Total [.t 2] :=
  ⟨[190, 189], Try.f36, Try.f36.body.getD .skip, Try.func36, by kernel_rfl, Try.ntmps36, by kernel_rfl, by kernel_rfl, Try.call36⟩
/-- skylight/skylightref06.at -/
noncomputable def ac_skylightref06_at : ACode :=
 (.seq
 (.region [
  ⟨some 2, .op (.box (.t 0)), none⟩,
  ⟨some 4, .op (.mv (kN)), none⟩])
 (.seq
 (.seq
 (.region [
  ⟨some 5, .op (.mv (.t 1)), none⟩,
  ⟨some 6, .op (.fadr 2 (.t 2)), none⟩,
  ⟨some 7, .op (.load false 1 (.t 6)), none⟩,
  ⟨some 8, .op (.len (.t 7)), none⟩,
  ⟨some 9, .op (.bin .geq (.t 5) (.t 8)), none⟩])
 (.cond (.t 9)
 (.seq
 (.region [
  ⟨some 4, .op (.mv (kN)), none⟩])
 .ret)
 .skip))
 (.seq
 (.region [
  ⟨some 10, .op (.fadr 2 (.t 2)), none⟩,
  ⟨some 11, .op (.load false 1 (.t 10)), none⟩,
  ⟨some 12, .op (.mv (.t 1)), none⟩,
  ⟨some 13, .op (.iadr 1 (.t 11) (.t 12)), none⟩,
  ⟨some 14, .op (.load false 1 (.t 13)), none⟩,
  ⟨some 4, .op (.mv (.t 14)), none⟩])
 .ret)))
theorem fn_skylightref06_at : FnOk Try.prog F_skylightref06_at 15 ac_skylightref06_at [.t 4] :=
  ⟨[190, 189], Try.f136, Try.f136.body.getD .skip, Try.func136, by kernel_rfl, Try.ntmps136, by kernel_rfl, by kernel_rfl, Try.call136⟩
/-- skylight/skylightref05.Most -/
noncomputable def ac_skylightref05_Most : ACode :=
 (.seq
 (.region [
  ⟨some 4, .op (.mv (kI .i64 0)), none⟩])
 (.seq
 (.region [
  ⟨some 5, .op (.mv (.t 0)), none⟩,
  ⟨some 6, .op (.mx [.t 5, kI .i64 0]), none⟩,
  ⟨some 0, .op (.mv (.t 6)), none⟩])
 (.seq
 (.seq
 (.region [
  ⟨some 7, .op (.mv (.t 1)), none⟩,
  ⟨some 8, .op (.bin .eql (.t 7) (kI .i64 0)), none⟩])
 (.cond (.t 8)
 (.seq
 (.region [
  ⟨some 9, .op (.mv (.t 0)), none⟩,
  ⟨some 10, .op (.bin .add (.t 9) (kI .i64 1)), none⟩,
  ⟨some 4, .op (.mv (.t 10)), none⟩])
 .ret)
 .skip))
 (.seq
 (.region [
  ⟨some 11, .op (.mv (.t 0)), none⟩,
  ⟨some 12, .op (.bin .quo (.t 11) (kI .i64 2)), none⟩,
  ⟨some 13, .op (.mv (.t 0)), none⟩,
  ⟨some 14, .op (.bin .rem (.t 13) (kI .i64 2)), none⟩,
  ⟨some 15, .op (.bin .add (.t 12) (.t 14)), none⟩,
  ⟨some 16, .op (.bin .add (.t 15) (kI .i64 1)), none⟩,
  ⟨some 4, .op (.mv (.t 16)), none⟩])
 .ret))))
theorem fn_skylightref05_Most : FnOk Try.prog F_skylightref05_Most 17 ac_skylightref05_Most [.t 4] :=
  ⟨[190, 189], Try.f87, Try.f87.body.getD .skip, Try.func87, by kernel_rfl, Try.ntmps87, by kernel_rfl, by kernel_rfl, Try.call87⟩
noncomputable def acl_skylightref05_Push_0 : ACode :=
 (.seq
 (.seq
 (.region [
  ⟨some 47, .op (.mv (.t 18)), none⟩,
  ⟨some 48, .op (.mv (.t 15)), none⟩,
  ⟨some 49, .op (.bin .lss (.t 47) (.t 48)), none⟩,
  ⟨some 50, .op (.mv (.t 49)), none⟩,
  ⟨some 51, .op (.mv (.t 18)), some (50, true)⟩,
  ⟨some 52, .op (.bin .mul (kI .u64 2) (.t 51)), some (50, true)⟩,
  ⟨some 53, .op (.mv (.t 14)), some (50, true)⟩,
  ⟨some 54, .op (.bin .lss (.t 52) (.t 53)), some (50, true)⟩,
  ⟨some 55, .op (.pick (.t 50) (.t 54) (kB false)), none⟩])
 (.cond (.t 55)
 .skip
 (.exit 0)))
 (.block 1
 (.seq
 (.region [
  ⟨some 56, .op (.mv (.t 13)), none⟩,
  ⟨some 57, .op (.mv (.t 18)), none⟩,
  ⟨some 58, .op (.bin .mul (kI .u64 2) (.t 57)), none⟩,
  ⟨some 59, .op (.iadr 2 (.t 56) (.t 58)), none⟩,
  ⟨some 60, .op (.fadr 0 (.t 59)), none⟩,
  ⟨some 61, .op (.load false 1 (.t 60)), none⟩,
  ⟨some 19, .op (.mv (.t 61)), none⟩])
 (.seq
 (.region [
  ⟨some 62, .op (.mv (.t 4)), none⟩,
  ⟨some 20, .op (.mv (.t 62)), none⟩])
 (.seq
 (.seq
 (.region [
  ⟨some 63, .op (.mv (.t 18)), none⟩,
  ⟨some 64, .op (.bin .mul (kI .u64 2) (.t 63)), none⟩,
  ⟨some 65, .op (.bin .add (.t 64) (kI .u64 1)), none⟩,
  ⟨some 66, .op (.mv (.t 14)), none⟩,
  ⟨some 67, .op (.bin .lss (.t 65) (.t 66)), none⟩])
 (.cond (.t 67)
 (.region [
  ⟨some 68, .op (.mv (.t 13)), none⟩,
  ⟨some 69, .op (.mv (.t 18)), none⟩,
  ⟨some 70, .op (.bin .mul (kI .u64 2) (.t 69)), none⟩,
  ⟨some 71, .op (.bin .add (.t 70) (kI .u64 1)), none⟩,
  ⟨some 72, .op (.iadr 2 (.t 68) (.t 71)), none⟩,
  ⟨some 73, .op (.fadr 1 (.t 72)), none⟩,
  ⟨some 74, .op (.load false 1 (.t 73)), none⟩,
  ⟨some 20, .op (.mv (.t 74)), none⟩])
 .skip))
 (.seq
 (.region [
  ⟨some 75, .op (.mv (.t 17)), none⟩,
  ⟨some 76, .op (.mv (.t 19)), none⟩,
  ⟨some 77, .op (.mv (.t 20)), none⟩,
  ⟨some 78, .op (.build [.v (.int .u64 0), .v (.int .u64 0)] [(0, 1, .t 76), (1, 1, .t 77)]), none⟩,
  ⟨some 79, .op (.bslice false 2 1 [.v (.int .u64 0), .v (.int .u64 0)] [(0, .t 78)]), none⟩,
  ⟨some 80, .op (.app 2 16 (.t 75) (.t 79)), none⟩,
  ⟨some 17, .op (.mv (.t 80)), none⟩])
 (.region [
  ⟨some 81, .op (.mv (.t 18)), none⟩,
  ⟨some 82, .op (.bin .add (.t 81) (kI .u64 1)), none⟩,
  ⟨some 18, .op (.mv (.t 82)), none⟩])))))))
noncomputable def acl_skylightref05_Push_1 : ACode :=
 (.seq
 (.seq
 (.region [
  ⟨some 85, .op (.mv (.t 22)), none⟩,
  ⟨some 86, .op (.mv (.t 16)), none⟩,
  ⟨some 87, .op (.bin .lss (.t 85) (.t 86)), none⟩])
 (.cond (.t 87)
 .skip
 (.exit 2)))
 (.seq
 (.block 3
 (.seq
 (.region [
  ⟨some 90, .op (.mv (.t 22)), none⟩,
  ⟨some 91, .op (.mv (.t 14)), none⟩,
  ⟨some 92, .op (.bin .lss (.t 90) (.t 91)), none⟩])
 (.cond (.t 92)
 (.region [
  ⟨some 93, .op (.mv (.t 21)), none⟩,
  ⟨some 94, .op (.mv (.t 13)), none⟩,
  ⟨some 95, .op (.mv (.t 22)), none⟩,
  ⟨some 96, .op (.iadr 2 (.t 94) (.t 95)), none⟩,
  ⟨some 97, .op (.load true 2 (.t 96)), none⟩,
  ⟨some 98, .op (.bslice false 2 1 [.v (.int .u64 0), .v (.int .u64 0)] [(0, .t 97)]), none⟩,
  ⟨some 99, .op (.app 2 16 (.t 93) (.t 98)), none⟩,
  ⟨some 21, .op (.mv (.t 99)), none⟩])
 (.region [
  ⟨some 100, .op (.mv (.t 21)), none⟩,
  ⟨some 101, .op (.mv (.t 4)), none⟩,
  ⟨some 102, .op (.mv (.t 4)), none⟩,
  ⟨some 103, .op (.build [.v (.int .u64 0), .v (.int .u64 0)] [(0, 1, .t 101), (1, 1, .t 102)]), none⟩,
  ⟨some 104, .op (.bslice false 2 1 [.v (.int .u64 0), .v (.int .u64 0)] [(0, .t 103)]), none⟩,
  ⟨some 105, .op (.app 2 16 (.t 100) (.t 104)), none⟩,
  ⟨some 21, .op (.mv (.t 105)), none⟩]))))
 (.region [
  ⟨some 88, .op (.mv (.t 22)), none⟩,
  ⟨some 89, .op (.bin .add (.t 88) (kI .u64 1)), none⟩,
  ⟨some 22, .op (.mv (.t 89)), none⟩])))
/-- skylight/skylightref05.Push -/
noncomputable def ac_skylightref05_Push : ACode :=
 (.seq
 (.region [
  ⟨some 10, .op (.mv (kN)), none⟩,
  ⟨some 11, .op (.mv (kN)), none⟩,
  ⟨some 12, .op (.mv (kI .u64 0)), none⟩])
 (.seq
 (.region [
  ⟨some 23, .op (.mv (.t 1)), none⟩,
  ⟨some 24, .op (.mx [.t 23, kI .i64 1]), none⟩,
  ⟨some 1, .op (.mv (.t 24)), none⟩])
 (.seq
 (.region [
  ⟨some 25, .op (.bslice false 2 0 [.v (.int .u64 0), .v (.int .u64 0)] []), none⟩,
  ⟨some 26, .op (.mv (.t 0)), none⟩,
  ⟨some 27, .op (.app 2 16 (.t 25) (.t 26)), none⟩,
  ⟨some 13, .op (.mv (.t 27)), none⟩])
 (.seq
 (.region [
  ⟨some 28, .op (.mv (.t 13)), none⟩,
  ⟨some 29, .op (.mv (.t 2)), none⟩,
  ⟨some 30, .op (.app 2 16 (.t 28) (.t 29)), none⟩,
  ⟨some 13, .op (.mv (.t 30)), none⟩])
 (.seq
 (.region [
  ⟨some 31, .op (.mv (.t 13)), none⟩,
  ⟨some 32, .op (.len (.t 31)), none⟩,
  ⟨some 33, .op (.conv .u64 (.t 32)), none⟩,
  ⟨some 14, .op (.mv (.t 33)), none⟩])
 (.seq
 (.region [
  ⟨some 15, .op (.mv (kI .u64 0)), none⟩])
 (.seq
 (.region [
  ⟨some 34, .op (.mv (.t 14)), none⟩,
  ⟨some 35, .op (.mv (.t 3)), none⟩,
  ⟨some 36, .op (.bin .add (.t 34) (.t 35)), none⟩,
  ⟨some 16, .op (.mv (.t 36)), none⟩])
 (.seq
 (.seq
 (.region [
  ⟨some 37, .op (.mv (.t 16)), none⟩,
  ⟨some 38, .op (.mv (.t 1)), none⟩,
  ⟨some 39, .op (.conv .u64 (.t 38)), none⟩,
  ⟨some 40, .op (.bin .gtr (.t 37) (.t 39)), none⟩])
 (.cond (.t 40)
 (.region [
  ⟨some 41, .op (.mv (.t 16)), none⟩,
  ⟨some 42, .op (.mv (.t 1)), none⟩,
  ⟨some 43, .op (.conv .u64 (.t 42)), none⟩,
  ⟨some 44, .op (.bin .sub (.t 41) (.t 43)), none⟩,
  ⟨some 45, .op (.bin .add (.t 44) (kI .u64 1)), none⟩,
  ⟨some 46, .op (.bin .quo (.t 45) (kI .u64 2)), none⟩,
  ⟨some 15, .op (.mv (.t 46)), none⟩])
 .skip))
 (.seq
 (.region [
  ⟨some 17, .op (.mv (kN)), none⟩])
 (.seq
 (.region [
  ⟨some 18, .op (.mv (kI .u64 0)), none⟩])
 (.seq
 (.block 0
 (.loop acl_skylightref05_Push_0))
 (.seq
 (.region [
  ⟨some 21, .op (.mv (kN)), none⟩])
 (.seq
 (.seq
 (.region [
  ⟨some 83, .op (.mv (.t 15)), none⟩,
  ⟨some 84, .op (.bin .mul (kI .u64 2) (.t 83)), none⟩,
  ⟨some 22, .op (.mv (.t 84)), none⟩])
 (.block 2
 (.loop acl_skylightref05_Push_1)))
 (.seq
 (.region [
  ⟨some 106, .op (.mv (.t 21)), none⟩,
  ⟨some 107, .op (.mv (.t 17)), none⟩,
  ⟨some 108, .op (.mv (.t 15)), none⟩,
  ⟨some 109, .op (.mv (.t 18)), none⟩,
  ⟨some 110, .op (.bin .sub (.t 108) (.t 109)), none⟩,
  ⟨some 10, .op (.mv (.t 106)), none⟩,
  ⟨some 11, .op (.mv (.t 107)), none⟩,
  ⟨some 12, .op (.mv (.t 110)), none⟩])
 .ret))))))))))))))
theorem fn_skylightref05_Push : FnOk Try.prog F_skylightref05_Push 111 ac_skylightref05_Push [.t 10, .t 11, .t 12] :=
  ⟨[190, 189], Try.f135, Try.f135.body.getD .skip, Try.func135, by kernel_rfl, Try.ntmps135, by kernel_rfl, by kernel_rfl, Try.call135⟩
noncomputable def acl_skylightref06_Add_0 : ACode :=
 (.seq
 (.seq
 (.region [
  ⟨some 52, .op (.mv (.t 11)), none⟩,
  ⟨some 53, .op (.len (.t 52)), none⟩,
  ⟨some 54, .op (.bin .gtr (.t 53) (kI .i64 0)), none⟩,
  ⟨some 55, .op (.mv (.t 54)), none⟩,
  ⟨some 56, .op (.mv (.t 12)), some (55, false)⟩,
  ⟨some 57, .op (.bin .gtr (.t 56) (kI .u64 0)), some (55, false)⟩,
  ⟨some 58, .op (.pick (.t 55) (kB true) (.t 57)), none⟩,
  ⟨some 59, .op (.mv (.t 58)), none⟩,
  ⟨some 60, .op (.mv (.t 13)), some (59, false)⟩,
  ⟨some 61, .op (.fadr 2 (.t 3)), some (59, false)⟩,
  ⟨some 62, .op (.load false 1 (.t 61)), some (59, false)⟩,
  ⟨some 63, .op (.len (.t 62)), some (59, false)⟩,
  ⟨some 64, .op (.bin .lss (.t 60) (.t 63)), some (59, false)⟩,
  ⟨some 65, .op (.pick (.t 59) (kB true) (.t 64)), none⟩])
 (.cond (.t 65)
 .skip
 (.exit 0)))
 (.seq
 (.block 1
 (.seq
 (.drawn [
  ⟨⟨some 69, .op (.load true 3 (.t 3)), none⟩, false, 0, 0⟩,
  ⟨⟨some 70, .op (.mv (.t 13)), none⟩, false, 0, 0⟩,
  ⟨⟨some 71, .call (kF F_skylightref06_at) [.t 69, .t 70], none⟩, false, 0, 0⟩,
  ⟨⟨some 72, .op (.fadr 0 (.t 3)), none⟩, false, 0, 0⟩,
  ⟨⟨some 73, .op (.load false 1 (.t 72)), none⟩, false, 0, 0⟩,
  ⟨⟨some 74, .op (.mv (.t 13)), none⟩, false, 0, 0⟩,
  ⟨⟨some 75, .call (kF F_skylightref05_Most) [.t 73, .t 74], none⟩, false, 0, 0⟩,
  ⟨⟨some 76, .op (.mv (.t 11)), none⟩, false, 0, 0⟩,
  ⟨⟨some 77, .op (.mv (.t 12)), none⟩, false, 0, 0⟩,
  ⟨⟨some 78, .op (.mv (.t 1)), none⟩, false, 0, 0⟩,
  ⟨⟨some 79, .call (kF F_skylightref05_Push) [.t 71, .t 75, .t 76, .t 77, .t 78], none⟩, false, 0, 0⟩,
  ⟨⟨some 68, .op (.mv (.t 79)), none⟩, false, 0, 0⟩,
  ⟨⟨some 80, .op (.ext (.t 68) 0), none⟩, false, 0, 0⟩,
  ⟨⟨some 81, .op (.ext (.t 68) 1), none⟩, false, 0, 0⟩,
  ⟨⟨some 82, .op (.ext (.t 68) 2), none⟩, false, 0, 0⟩,
  ⟨⟨some 14, .op (.mv (.t 80)), none⟩, false, 0, 0⟩,
  ⟨⟨some 15, .op (.mv (.t 81)), none⟩, false, 0, 0⟩,
  ⟨⟨some 16, .op (.mv (.t 82)), none⟩, false, 0, 0⟩])
 (.seq
 (.region [
  ⟨some 83, .op (.fadr 2 (.t 10)), none⟩,
  ⟨some 84, .op (.load false 1 (.t 83)), none⟩,
  ⟨some 85, .op (.mv (.t 14)), none⟩,
  ⟨some 86, .op (.bslice false 1 1 [.sl true []] [(0, .t 85)]), none⟩,
  ⟨some 87, .op (.app 1 24 (.t 84) (.t 86)), none⟩,
  ⟨some 88, .op (.fadr 2 (.t 10)), none⟩,
  ⟨none, .op (.store 1 (.t 88) (.t 87)), none⟩])
 (.seq
 (.region [
  ⟨some 89, .op (.mv (.t 15)), none⟩,
  ⟨some 11, .op (.mv (.t 89)), none⟩])
 (.region [
  ⟨some 90, .op (.mv (.t 16)), none⟩,
  ⟨some 12, .op (.mv (.t 90)), none⟩])))))
 (.region [
  ⟨some 66, .op (.mv (.t 13)), none⟩,
  ⟨some 67, .op (.bin .add (.t 66) (kI .i64 1)), none⟩,
  ⟨some 13, .op (.mv (.t 67)), none⟩])))
/-- skylight/skylightref06.Add -/
noncomputable def ac_skylightref06_Add : ACode :=
 (.seq
 (.region [
  ⟨some 3, .op (.box (.t 0)), none⟩,
  ⟨some 6, .op (.alloc [.v (.int .i64 0), .v (.int .i64 0), .sl true []]), none⟩,
  ⟨some 7, .op (.mv (kI .i64 0)), none⟩])
 (.seq
 (.seq
 (.region [
  ⟨some 17, .op (.mv (.t 2)), none⟩,
  ⟨some 18, .op (.bin .eql (.t 17) (kI .u64 0)), none⟩])
 (.cond (.t 18)
 (.seq
 (.region [
  ⟨some 19, .op (.build [.v (.int .i64 0), .v (.int .i64 0), .sl true []] []), none⟩,
  ⟨none, .op (.store 3 (.t 6) (.t 19)), none⟩,
  ⟨some 7, .op (.mv (kI .i64 1)), none⟩])
 .ret)
 .skip))
 (.seq
 (.region [
  ⟨some 21, .op (.load true 3 (.t 3)), none⟩,
  ⟨some 22, .call (kF F_skylightref06_Last) [.t 21], none⟩,
  ⟨some 20, .op (.mv (.t 22)), none⟩,
  ⟨some 23, .op (.ext (.t 20) 0), none⟩,
  ⟨some 24, .op (.ext (.t 20) 1), none⟩,
  ⟨some 8, .op (.mv (.t 23)), none⟩,
  ⟨some 9, .op (.mv (.t 24)), none⟩])
 (.seq
 (.seq
 (.region [
  ⟨some 25, .op (.mv (.t 1)), none⟩,
  ⟨some 26, .op (.bin .gtr (.t 25) (kI .u64 9223372036854775807)), none⟩,
  ⟨some 27, .op (.mv (.t 26)), none⟩,
  ⟨some 28, .op (.mv (.t 9)), some (27, false)⟩,
  ⟨some 29, .op (.mv (.t 28)), some (27, false)⟩,
  ⟨some 30, .op (.mv (.t 1)), some (29, true)⟩,
  ⟨some 31, .op (.mv (.t 8)), some (29, true)⟩,
  ⟨some 32, .op (.bin .lss (.t 30) (.t 31)), some (29, true)⟩,
  ⟨some 33, .op (.pick (.t 29) (.t 32) (kB false)), some (27, false)⟩,
  ⟨some 34, .op (.pick (.t 27) (kB true) (.t 33)), none⟩])
 (.cond (.t 34)
 (.seq
 (.region [
  ⟨some 35, .op (.build [.v (.int .i64 0), .v (.int .i64 0), .sl true []] []), none⟩,
  ⟨none, .op (.store 3 (.t 6) (.t 35)), none⟩,
  ⟨some 7, .op (.mv (kI .i64 6)), none⟩])
 .ret)
 .skip))
 (.seq
 (.seq
 (.region [
  ⟨some 36, .op (.mv (.t 2)), none⟩,
  ⟨some 37, .op (.bin .gtr (.t 36) (kI .u64 4503599627370496)), none⟩,
  ⟨some 38, .op (.mv (.t 37)), none⟩,
  ⟨some 39, .op (.mv (.t 2)), some (38, false)⟩,
  ⟨some 40, .op (.load true 3 (.t 3)), some (38, false)⟩,
  ⟨some 41, .call (kF F_skylightref06_Total) [.t 40], some (38, false)⟩,
  ⟨some 42, .op (.bin .add (.t 39) (.t 41)), some (38, false)⟩,
  ⟨some 43, .op (.bin .gtr (.t 42) (kI .u64 4503599627370496)), some (38, false)⟩,
  ⟨some 44, .op (.pick (.t 38) (kB true) (.t 43)), none⟩])
 (.cond (.t 44)
 (.seq
 (.region [
  ⟨some 45, .op (.build [.v (.int .i64 0), .v (.int .i64 0), .sl true []] []), none⟩,
  ⟨none, .op (.store 3 (.t 6) (.t 45)), none⟩,
  ⟨some 7, .op (.mv (kI .i64 5)), none⟩])
 .ret)
 .skip))
 (.seq
 (.region [
  ⟨some 46, .op (.fadr 0 (.t 3)), none⟩,
  ⟨some 47, .op (.load false 1 (.t 46)), none⟩,
  ⟨some 48, .op (.fadr 1 (.t 3)), none⟩,
  ⟨some 49, .op (.load false 1 (.t 48)), none⟩,
  ⟨some 50, .op (.build [.v (.int .i64 0), .v (.int .i64 0), .sl true []] [(0, 1, .t 47), (1, 1, .t 49)]), none⟩,
  ⟨some 10, .op (.alloc [.v (.int .i64 0), .v (.int .i64 0), .sl true []]), none⟩,
  ⟨none, .op (.store 3 (.t 10) (.t 50)), none⟩])
 (.seq
 (.region [
  ⟨some 11, .op (.mv (kN)), none⟩])
 (.seq
 (.region [
  ⟨some 51, .op (.mv (.t 2)), none⟩,
  ⟨some 12, .op (.mv (.t 51)), none⟩])
 (.seq
 (.seq
 (.region [
  ⟨some 13, .op (.mv (kI .i64 0)), none⟩])
 (.block 0
 (.loop acl_skylightref06_Add_0)))
 (.seq
 (.region [
  ⟨some 91, .op (.load true 3 (.t 10)), none⟩,
  ⟨none, .op (.store 3 (.t 6) (.t 91)), none⟩,
  ⟨some 7, .op (.mv (kI .i64 0)), none⟩])
 .ret))))))))))
theorem fn_skylightref06_Add : FnOk Try.prog F_skylightref06_Add 92 ac_skylightref06_Add [.cell 6 true 3, .t 7] :=
  ⟨[190, 189], Try.f77, Try.f77.body.getD .skip, Try.func77, by kernel_rfl, Try.ntmps77, by kernel_rfl, by kernel_rfl, Try.call77⟩
/-- skylight/skylightref07.Old -/
noncomputable def ac_skylightref07_Old : ACode :=
 (.seq
 (.region [
  ⟨some 6, .op (.mv (kB false)), none⟩])
 (.seq
 (.region [
  ⟨some 7, .op (.mv (.t 1)), none⟩,
  ⟨some 8, .op (.mv (.t 2)), none⟩,
  ⟨some 9, .op (.bin .geq (.t 7) (.t 8)), none⟩,
  ⟨some 10, .op (.mv (.t 9)), none⟩,
  ⟨some 11, .op (.mv (.t 0)), some (10, true)⟩,
  ⟨some 12, .op (.mv (.t 1)), some (10, true)⟩,
  ⟨some 13, .op (.mv (.t 2)), some (10, true)⟩,
  ⟨some 14, .op (.bin .sub (.t 12) (.t 13)), some (10, true)⟩,
  ⟨some 15, .op (.bin .leq (.t 11) (.t 14)), some (10, true)⟩,
  ⟨some 16, .op (.pick (.t 10) (.t 15) (kB false)), none⟩,
  ⟨some 6, .op (.mv (.t 16)), none⟩])
 .ret))
theorem fn_skylightref07_Old : FnOk Try.prog F_skylightref07_Old 17 ac_skylightref07_Old [.t 6] :=
  ⟨[190, 189], Try.f142, Try.f142.body.getD .skip, Try.func142, by kernel_rfl, Try.ntmps142, by kernel_rfl, by kernel_rfl, Try.call142⟩
noncomputable def acl_skylightref07_Drop_1 : ACode :=
 (.seq
 (.seq
 (.region [
  ⟨some 24, .op (.mv (.t 11)), none⟩,
  ⟨some 25, .op (.fadr 2 (.t 3)), none⟩,
  ⟨some 26, .op (.load false 1 (.t 25)), none⟩,
  ⟨some 27, .op (.mv (.t 9)), none⟩,
  ⟨some 28, .op (.iadr 1 (.t 26) (.t 27)), none⟩,
  ⟨some 29, .op (.load false 1 (.t 28)), none⟩,
  ⟨some 30, .op (.len (.t 29)), none⟩,
  ⟨some 31, .op (.bin .lss (.t 24) (.t 30)), none⟩])
 (.cond (.t 31)
 .skip
 (.exit 2)))
 (.seq
 (.block 3
 (.seq
 (.region [
  ⟨some 34, .op (.fadr 2 (.t 3)), none⟩,
  ⟨some 35, .op (.load false 1 (.t 34)), none⟩,
  ⟨some 36, .op (.mv (.t 9)), none⟩,
  ⟨some 37, .op (.iadr 1 (.t 35) (.t 36)), none⟩,
  ⟨some 38, .op (.load false 1 (.t 37)), none⟩,
  ⟨some 39, .op (.mv (.t 11)), none⟩,
  ⟨some 40, .op (.iadr 2 (.t 38) (.t 39)), none⟩,
  ⟨some 41, .op (.fadr 1 (.t 40)), none⟩,
  ⟨some 42, .op (.load false 1 (.t 41)), none⟩,
  ⟨some 43, .op (.mv (.t 1)), none⟩,
  ⟨some 44, .op (.mv (.t 2)), none⟩,
  ⟨some 45, .call (kF F_skylightref07_Old) [.t 42, .t 43, .t 44], none⟩,
  ⟨some 46, .op (.un .not (.t 45)), none⟩])
 (.cond (.t 46)
 (.region [
  ⟨some 47, .op (.mv (.t 10)), none⟩,
  ⟨some 48, .op (.fadr 2 (.t 3)), none⟩,
  ⟨some 49, .op (.load false 1 (.t 48)), none⟩,
  ⟨some 50, .op (.mv (.t 9)), none⟩,
  ⟨some 51, .op (.iadr 1 (.t 49) (.t 50)), none⟩,
  ⟨some 52, .op (.load false 1 (.t 51)), none⟩,
  ⟨some 53, .op (.mv (.t 11)), none⟩,
  ⟨some 54, .op (.iadr 2 (.t 52) (.t 53)), none⟩,
  ⟨some 55, .op (.load true 2 (.t 54)), none⟩,
  ⟨some 56, .op (.bslice false 2 1 [.v (.int .u64 0), .v (.int .u64 0)] [(0, .t 55)]), none⟩,
  ⟨some 57, .op (.app 2 16 (.t 47) (.t 56)), none⟩,
  ⟨some 10, .op (.mv (.t 57)), none⟩])
 .skip)))
 (.region [
  ⟨some 32, .op (.mv (.t 11)), none⟩,
  ⟨some 33, .op (.bin .add (.t 32) (kI .i64 1)), none⟩,
  ⟨some 11, .op (.mv (.t 33)), none⟩])))
noncomputable def acl_skylightref07_Drop_0 : ACode :=
 (.seq
 (.seq
 (.region [
  ⟨some 17, .op (.mv (.t 9)), none⟩,
  ⟨some 18, .op (.fadr 2 (.t 3)), none⟩,
  ⟨some 19, .op (.load false 1 (.t 18)), none⟩,
  ⟨some 20, .op (.len (.t 19)), none⟩,
  ⟨some 21, .op (.bin .lss (.t 17) (.t 20)), none⟩])
 (.cond (.t 21)
 .skip
 (.exit 0)))
 (.seq
 (.block 1
 (.seq
 (.region [
  ⟨some 10, .op (.mv (kN)), none⟩])
 (.seq
 (.seq
 (.region [
  ⟨some 11, .op (.mv (kI .i64 0)), none⟩])
 (.block 2
 (.loop acl_skylightref07_Drop_1)))
 (.seq
 (.region [
  ⟨some 58, .op (.fadr 2 (.t 7)), none⟩,
  ⟨some 59, .op (.load false 1 (.t 58)), none⟩,
  ⟨some 60, .op (.mv (.t 10)), none⟩,
  ⟨some 61, .op (.bslice false 1 1 [.sl true []] [(0, .t 60)]), none⟩,
  ⟨some 62, .op (.app 1 24 (.t 59) (.t 61)), none⟩,
  ⟨some 63, .op (.fadr 2 (.t 7)), none⟩,
  ⟨none, .op (.store 1 (.t 63) (.t 62)), none⟩])
 (.seq
 (.region [
  ⟨some 64, .op (.mv (.t 10)), none⟩,
  ⟨some 65, .op (.len (.t 64)), none⟩,
  ⟨some 66, .op (.bin .gtr (.t 65) (kI .i64 0)), none⟩])
 (.cond (.t 66)
 (.region [
  ⟨some 67, .op (.mv (.t 9)), none⟩,
  ⟨some 68, .op (.bin .add (.t 67) (kI .i64 1)), none⟩,
  ⟨some 8, .op (.mv (.t 68)), none⟩])
 .skip))))))
 (.region [
  ⟨some 22, .op (.mv (.t 9)), none⟩,
  ⟨some 23, .op (.bin .add (.t 22) (kI .i64 1)), none⟩,
  ⟨some 9, .op (.mv (.t 23)), none⟩])))
/-- skylight/skylightref07.Drop -/
noncomputable def ac_skylightref07_Drop : ACode :=
 (.seq
 (.region [
  ⟨some 3, .op (.box (.t 0)), none⟩,
  ⟨some 6, .op (.alloc [.v (.int .i64 0), .v (.int .i64 0), .sl true []]), none⟩])
 (.seq
 (.region [
  ⟨some 12, .op (.fadr 0 (.t 3)), none⟩,
  ⟨some 13, .op (.load false 1 (.t 12)), none⟩,
  ⟨some 14, .op (.fadr 1 (.t 3)), none⟩,
  ⟨some 15, .op (.load false 1 (.t 14)), none⟩,
  ⟨some 16, .op (.build [.v (.int .i64 0), .v (.int .i64 0), .sl true []] [(0, 1, .t 13), (1, 1, .t 15)]), none⟩,
  ⟨some 7, .op (.alloc [.v (.int .i64 0), .v (.int .i64 0), .sl true []]), none⟩,
  ⟨none, .op (.store 3 (.t 7) (.t 16)), none⟩])
 (.seq
 (.region [
  ⟨some 8, .op (.mv (kI .i64 0)), none⟩])
 (.seq
 (.seq
 (.region [
  ⟨some 9, .op (.mv (kI .i64 0)), none⟩])
 (.block 0
 (.loop acl_skylightref07_Drop_0)))
 (.seq
 (.region [
  ⟨some 69, .op (.fadr 2 (.t 7)), none⟩,
  ⟨some 70, .op (.load false 1 (.t 69)), none⟩,
  ⟨some 71, .op (.mv (.t 8)), none⟩,
  ⟨some 72, .op (.slc 1 (.t 70) none (some (.t 71)) none), none⟩,
  ⟨some 73, .op (.fadr 2 (.t 7)), none⟩,
  ⟨none, .op (.store 1 (.t 73) (.t 72)), none⟩])
 (.seq
 (.region [
  ⟨some 74, .op (.load true 3 (.t 7)), none⟩,
  ⟨none, .op (.store 3 (.t 6) (.t 74)), none⟩])
 .ret))))))
theorem fn_skylightref07_Drop : FnOk Try.prog F_skylightref07_Drop 75 ac_skylightref07_Drop [.cell 6 true 3] :=
  ⟨[190, 189], Try.f81, Try.f81.body.getD .skip, Try.func81, by kernel_rfl, Try.ntmps81, by kernel_rfl, by kernel_rfl, Try.call81⟩
noncomputable def acl_skylightref14_pass_0 : ACode :=
 (.seq
 (.seq
 (.region [
  ⟨some 8, .op (.mv (.t 5)), none⟩,
  ⟨some 9, .op (.mv (.t 1)), none⟩,
  ⟨some 10, .op (.len (.t 9)), none⟩,
  ⟨some 11, .op (.bin .lss (.t 8) (.t 10)), none⟩])
 (.cond (.t 11)
 .skip
 (.exit 0)))
 (.seq
 (.block 1
 (.seq
 (.drawn [
  ⟨⟨some 15, .op (.fadr 6 (.t 2)), none⟩, false, 0, 1⟩,
  ⟨⟨some 16, .op (.load true 3 (.t 15)), none⟩, false, 0, 1⟩,
  ⟨⟨some 17, .op (.mv (.t 1)), none⟩, false, 0, 1⟩,
  ⟨⟨some 18, .op (.mv (.t 5)), none⟩, false, 0, 1⟩,
  ⟨⟨some 19, .op (.iadr 3 (.t 17) (.t 18)), none⟩, false, 0, 1⟩,
  ⟨⟨some 20, .op (.fadr 0 (.t 19)), none⟩, false, 0, 1⟩,
  ⟨⟨some 21, .op (.load false 1 (.t 20)), none⟩, false, 0, 1⟩,
  ⟨⟨some 22, .op (.mv (.t 1)), none⟩, false, 0, 1⟩,
  ⟨⟨some 23, .op (.mv (.t 5)), none⟩, false, 0, 1⟩,
  ⟨⟨some 24, .op (.iadr 3 (.t 22) (.t 23)), none⟩, false, 0, 1⟩,
  ⟨⟨some 25, .op (.fadr 2 (.t 24)), none⟩, false, 0, 1⟩,
  ⟨⟨some 26, .op (.load false 1 (.t 25)), none⟩, false, 0, 1⟩,
  ⟨⟨some 27, .call (kF F_skylightref06_Add) [.t 16, .t 21, .t 26], none⟩, false, 0, 1⟩,
  ⟨⟨some 14, .op (.mv (.t 27)), none⟩, false, 0, 1⟩,
  ⟨⟨some 28, .op (.ext (.t 14) 0), none⟩, false, 0, 1⟩,
  ⟨⟨some 29, .op (.ext (.t 14) 1), none⟩, false, 0, 2⟩,
  ⟨⟨some 6, .op (.alloc [.v (.int .i64 0), .v (.int .i64 0), .sl true []]), none⟩, true, 0, 1⟩,
  ⟨⟨none, .op (.store 3 (.t 6) (.t 28)), none⟩, true, 1, 2⟩,
  ⟨⟨some 7, .op (.mv (.t 29)), none⟩, false, 2, 2⟩])
 (.region [
  ⟨some 30, .op (.load true 3 (.t 6)), none⟩,
  ⟨some 31, .op (.fadr 6 (.t 2)), none⟩,
  ⟨none, .op (.store 3 (.t 31) (.t 30)), none⟩])))
 (.region [
  ⟨some 12, .op (.mv (.t 5)), none⟩,
  ⟨some 13, .op (.bin .add (.t 12) (kI .i64 1)), none⟩,
  ⟨some 5, .op (.mv (.t 13)), none⟩])))
/-- skylight/skylightref14.pass -/
noncomputable def ac_skylightref14_pass : ACode :=
 (.seq
 (.region [
  ⟨some 2, .op (.box (.t 0)), none⟩,
  ⟨some 4, .op (.alloc [.v (.int .u64 0), .v (.int .u64 0), .v (.int .i64 0), .v (.int .u64 0), .v (.int .u64 0), .sl true [], .v (.int .i64 0), .v (.int .i64 0), .sl true []]), none⟩])
 (.seq
 (.seq
 (.region [
  ⟨some 5, .op (.mv (kI .i64 0)), none⟩])
 (.block 0
 (.loop acl_skylightref14_pass_0)))
 (.seq
 (.region [
  ⟨some 32, .op (.fadr 6 (.t 2)), none⟩,
  ⟨some 33, .op (.load true 3 (.t 32)), none⟩,
  ⟨some 34, .op (.fadr 1 (.t 2)), none⟩,
  ⟨some 35, .op (.fadr 3 (.t 34)), none⟩,
  ⟨some 36, .op (.load false 1 (.t 35)), none⟩,
  ⟨some 37, .op (.fadr 0 (.t 2)), none⟩,
  ⟨some 38, .op (.load false 1 (.t 37)), none⟩,
  ⟨some 39, .call (kF F_skylightref07_Drop) [.t 33, .t 36, .t 38], none⟩,
  ⟨some 40, .op (.fadr 6 (.t 2)), none⟩,
  ⟨none, .op (.store 3 (.t 40) (.t 39)), none⟩])
 (.seq
 (.region [
  ⟨some 41, .op (.load true 9 (.t 2)), none⟩,
  ⟨none, .op (.store 9 (.t 4) (.t 41)), none⟩])
 .ret))))
theorem fn_skylightref14_pass : FnOk Try.prog F_skylightref14_pass 42 ac_skylightref14_pass [.cell 4 true 9] :=
  ⟨[190, 189], Try.f113, Try.f113.body.getD .skip, Try.func113, by kernel_rfl, Try.ntmps113, by kernel_rfl, by kernel_rfl, Try.call113⟩
/-- skylight/skylightref14.Move -/
noncomputable def ac_skylightref14_Move : ACode :=
 (.seq
 (.region [
  ⟨some 2, .op (.box (.t 0)), none⟩,
  ⟨some 4, .op (.alloc [.v (.int .u64 0), .v (.int .u64 0), .v (.int .i64 0), .v (.int .u64 0), .v (.int .u64 0), .sl true [], .v (.int .i64 0), .v (.int .i64 0), .sl true []]), none⟩,
  ⟨some 5, .op (.mv (kI .i64 0)), none⟩])
 (.seq
 (.region [
  ⟨some 10, .op (.fadr 1 (.t 2)), none⟩,
  ⟨some 11, .op (.load true 5 (.t 10)), none⟩,
  ⟨some 12, .op (.mv (.t 1)), none⟩,
  ⟨some 13, .call (kF F_skylightref12_Move) [.t 11, .t 12], none⟩,
  ⟨some 9, .op (.mv (.t 13)), none⟩,
  ⟨some 14, .op (.ext (.t 9) 0), none⟩,
  ⟨some 15, .op (.ext (.t 9) 1), none⟩,
  ⟨some 16, .op (.ext (.t 9) 2), none⟩,
  ⟨some 6, .op (.alloc [.v (.int .u64 0), .v (.int .i64 0), .v (.int .u64 0), .v (.int .u64 0), .sl true []]), none⟩,
  ⟨none, .op (.store 5 (.t 6) (.t 14)), none⟩,
  ⟨some 7, .op (.mv (.t 15)), none⟩,
  ⟨some 8, .op (.mv (.t 16)), none⟩])
 (.seq
 (.seq
 (.region [
  ⟨some 17, .op (.mv (.t 8)), none⟩,
  ⟨some 18, .op (.bin .neq (.t 17) (kI .i64 0)), none⟩])
 (.cond (.t 18)
 (.seq
 (.region [
  ⟨some 19, .op (.build [.v (.int .u64 0), .v (.int .u64 0), .v (.int .i64 0), .v (.int .u64 0), .v (.int .u64 0), .sl true [], .v (.int .i64 0), .v (.int .i64 0), .sl true []] []), none⟩,
  ⟨some 20, .op (.mv (.t 8)), none⟩,
  ⟨none, .op (.store 9 (.t 4) (.t 19)), none⟩,
  ⟨some 5, .op (.mv (.t 20)), none⟩])
 .ret)
 .skip))
 (.seq
 (.region [
  ⟨some 21, .op (.load true 5 (.t 6)), none⟩,
  ⟨some 22, .op (.fadr 1 (.t 2)), none⟩,
  ⟨none, .op (.store 5 (.t 22) (.t 21)), none⟩])
 (.seq
 (.region [
  ⟨some 23, .op (.load true 9 (.t 2)), none⟩,
  ⟨some 24, .op (.mv (.t 7)), none⟩,
  ⟨some 25, .call (kF F_skylightref14_pass) [.t 23, .t 24], none⟩,
  ⟨none, .op (.store 9 (.t 4) (.t 25)), none⟩,
  ⟨some 5, .op (.mv (kI .i64 0)), none⟩])
 .ret)))))
theorem fn_skylightref14_Move : FnOk Try.prog F_skylightref14_Move 26 ac_skylightref14_Move [.cell 4 true 9, .t 5] :=
  ⟨[190, 189], Try.f53, Try.f53.body.getD .skip, Try.func53, by kernel_rfl, Try.ntmps53, by kernel_rfl, by kernel_rfl, Try.call53⟩
/-- skylight/skylightref12.Push -/
noncomputable def ac_skylightref12_Push : ACode :=
 (.seq
 (.region [
  ⟨some 2, .op (.box (.t 0)), none⟩,
  ⟨some 3, .op (.box (.t 1)), none⟩,
  ⟨some 4, .op (.alloc [.v (.int .u64 0), .v (.int .i64 0), .v (.int .u64 0), .v (.int .u64 0), .sl true []]), none⟩,
  ⟨some 5, .op (.mv (kN)), none⟩,
  ⟨some 6, .op (.mv (kI .i64 0)), none⟩])
 (.seq
 (.block 0
 (.seq
 (.region [
  ⟨some 13, .op (.fadr 2 (.t 3)), none⟩,
  ⟨some 14, .op (.load false 1 (.t 13)), none⟩,
  ⟨some 15, .op (.bin .eql (.t 14) (kI .u64 0)), none⟩,
  ⟨some 12, .op (.mv (.t 15)), none⟩])
 (.cond (.t 12)
 (.seq
 (.region [
  ⟨some 16, .op (.build [.v (.int .u64 0), .v (.int .i64 0), .v (.int .u64 0), .v (.int .u64 0), .sl true []] []), none⟩,
  ⟨none, .op (.store 5 (.t 4) (.t 16)), none⟩,
  ⟨some 5, .op (.mv (kN)), none⟩,
  ⟨some 6, .op (.mv (kI .i64 1)), none⟩])
 .ret)
 (.seq
 (.region [
  ⟨some 18, .op (.fadr 0 (.t 3)), none⟩,
  ⟨some 19, .op (.load false 1 (.t 18)), none⟩,
  ⟨some 20, .op (.bin .gtr (.t 19) (kI .u64 9223372036854775807)), none⟩,
  ⟨some 17, .op (.mv (.t 20)), none⟩])
 (.cond (.t 17)
 (.seq
 (.region [
  ⟨some 21, .op (.build [.v (.int .u64 0), .v (.int .i64 0), .v (.int .u64 0), .v (.int .u64 0), .sl true []] []), none⟩,
  ⟨none, .op (.store 5 (.t 4) (.t 21)), none⟩,
  ⟨some 5, .op (.mv (kN)), none⟩,
  ⟨some 6, .op (.mv (kI .i64 6)), none⟩])
 .ret)
 (.seq
 (.region [
  ⟨some 23, .op (.fadr 0 (.t 3)), none⟩,
  ⟨some 24, .op (.load false 1 (.t 23)), none⟩,
  ⟨some 25, .op (.fadr 3 (.t 2)), none⟩,
  ⟨some 26, .op (.load false 1 (.t 25)), none⟩,
  ⟨some 27, .op (.bin .lss (.t 24) (.t 26)), none⟩,
  ⟨some 22, .op (.mv (.t 27)), none⟩])
 (.cond (.t 22)
 (.seq
 (.region [
  ⟨some 28, .op (.build [.v (.int .u64 0), .v (.int .i64 0), .v (.int .u64 0), .v (.int .u64 0), .sl true []] []), none⟩,
  ⟨none, .op (.store 5 (.t 4) (.t 28)), none⟩,
  ⟨some 5, .op (.mv (kN)), none⟩,
  ⟨some 6, .op (.mv (kI .i64 4)), none⟩])
 .ret)
 .skip)))))))
 (.seq
 (.region [
  ⟨some 29, .op (.fadr 2 (.t 2)), none⟩,
  ⟨some 30, .op (.load false 1 (.t 29)), none⟩,
  ⟨some 31, .op (.fadr 0 (.t 3)), none⟩,
  ⟨some 32, .op (.load false 1 (.t 31)), none⟩,
  ⟨some 33, .op (.mx [.t 30, .t 32]), none⟩,
  ⟨some 34, .op (.fadr 2 (.t 2)), none⟩,
  ⟨none, .op (.store 1 (.t 34) (.t 33)), none⟩])
 (.seq
 (.region [
  ⟨some 36, .op (.fadr 4 (.t 2)), none⟩,
  ⟨some 37, .op (.load false 1 (.t 36)), none⟩,
  ⟨some 38, .op (.fadr 0 (.t 3)), none⟩,
  ⟨some 39, .op (.load false 1 (.t 38)), none⟩,
  ⟨some 40, .call (kF F_skylightref12_split) [.t 37, .t 39], none⟩,
  ⟨some 35, .op (.mv (.t 40)), none⟩,
  ⟨some 41, .op (.ext (.t 35) 0), none⟩,
  ⟨some 42, .op (.ext (.t 35) 1), none⟩,
  ⟨some 7, .op (.mv (.t 41)), none⟩,
  ⟨some 8, .op (.mv (.t 42)), none⟩])
 (.seq
 (.region [
  ⟨some 43, .op (.bslice false 3 0 [.v (.int .u64 0), .v (.int .u64 0), .v (.int .u64 0)] []), none⟩,
  ⟨some 44, .op (.mv (.t 7)), none⟩,
  ⟨some 45, .op (.app 3 24 (.t 43) (.t 44)), none⟩,
  ⟨some 9, .op (.mv (.t 45)), none⟩])
 (.seq
 (.region [
  ⟨some 46, .op (.mv (.t 9)), none⟩,
  ⟨some 47, .op (.load true 3 (.t 3)), none⟩,
  ⟨some 48, .op (.bslice false 3 1 [.v (.int .u64 0), .v (.int .u64 0), .v (.int .u64 0)] [(0, .t 47)]), none⟩,
  ⟨some 49, .op (.app 3 24 (.t 46) (.t 48)), none⟩,
  ⟨some 9, .op (.mv (.t 49)), none⟩])
 (.seq
 (.region [
  ⟨some 50, .op (.mv (.t 9)), none⟩,
  ⟨some 51, .op (.mv (.t 8)), none⟩,
  ⟨some 52, .op (.app 3 24 (.t 50) (.t 51)), none⟩,
  ⟨some 9, .op (.mv (.t 52)), none⟩])
 (.seq
 (.region [
  ⟨some 53, .op (.mv (.t 9)), none⟩,
  ⟨some 54, .op (.fadr 4 (.t 2)), none⟩,
  ⟨none, .op (.store 1 (.t 54) (.t 53)), none⟩])
 (.seq
 (.region [
  ⟨some 56, .op (.load true 5 (.t 2)), none⟩,
  ⟨some 57, .call (kF F_skylightref12_settle) [.t 56], none⟩,
  ⟨some 55, .op (.mv (.t 57)), none⟩,
  ⟨some 58, .op (.ext (.t 55) 0), none⟩,
  ⟨some 59, .op (.ext (.t 55) 1), none⟩,
  ⟨some 10, .op (.alloc [.v (.int .u64 0), .v (.int .i64 0), .v (.int .u64 0), .v (.int .u64 0), .sl true []]), none⟩,
  ⟨none, .op (.store 5 (.t 10) (.t 58)), none⟩,
  ⟨some 11, .op (.mv (.t 59)), none⟩])
 (.seq
 (.region [
  ⟨some 60, .op (.load true 5 (.t 10)), none⟩,
  ⟨some 61, .op (.mv (.t 11)), none⟩,
  ⟨none, .op (.store 5 (.t 4) (.t 60)), none⟩,
  ⟨some 5, .op (.mv (.t 61)), none⟩,
  ⟨some 6, .op (.mv (kI .i64 0)), none⟩])
 .ret))))))))))
theorem fn_skylightref12_Push : FnOk Try.prog F_skylightref12_Push 62 ac_skylightref12_Push [.cell 4 true 5, .t 5, .t 6] :=
  ⟨[190, 189], Try.f114, Try.f114.body.getD .skip, Try.func114, by kernel_rfl, Try.ntmps114, by kernel_rfl, by kernel_rfl, Try.call114⟩
noncomputable def acl_skylightref12_Weight_0 : ACode :=
 (.seq
 (.seq
 (.region [
  ⟨some 5, .op (.mv (.t 4)), none⟩,
  ⟨some 6, .op (.fadr 4 (.t 1)), none⟩,
  ⟨some 7, .op (.load false 1 (.t 6)), none⟩,
  ⟨some 8, .op (.len (.t 7)), none⟩,
  ⟨some 9, .op (.bin .lss (.t 5) (.t 8)), none⟩])
 (.cond (.t 9)
 .skip
 (.exit 0)))
 (.seq
 (.block 1
 (.region [
  ⟨some 12, .op (.mv (.t 3)), none⟩,
  ⟨some 13, .op (.fadr 4 (.t 1)), none⟩,
  ⟨some 14, .op (.load false 1 (.t 13)), none⟩,
  ⟨some 15, .op (.mv (.t 4)), none⟩,
  ⟨some 16, .op (.iadr 3 (.t 14) (.t 15)), none⟩,
  ⟨some 17, .op (.fadr 2 (.t 16)), none⟩,
  ⟨some 18, .op (.load false 1 (.t 17)), none⟩,
  ⟨some 19, .op (.bin .add (.t 12) (.t 18)), none⟩,
  ⟨some 3, .op (.mv (.t 19)), none⟩]))
 (.region [
  ⟨some 10, .op (.mv (.t 4)), none⟩,
  ⟨some 11, .op (.bin .add (.t 10) (kI .i64 1)), none⟩,
  ⟨some 4, .op (.mv (.t 11)), none⟩])))
/-- skylight/skylightref12.Weight -/
noncomputable def ac_skylightref12_Weight : ACode :=
 (.seq
 (.region [
  ⟨some 1, .op (.box (.t 0)), none⟩,
  ⟨some 2, .op (.mv (kI .u64 0)), none⟩])
 (.seq
 (.region [
  ⟨some 3, .op (.mv (kI .u64 0)), none⟩])
 (.seq
 (.seq
 (.region [
  ⟨some 4, .op (.mv (kI .i64 0)), none⟩])
 (.block 0
 (.loop acl_skylightref12_Weight_0)))
 (.seq
 (.region [
  ⟨some 20, .op (.mv (.t 3)), none⟩,
  ⟨some 2, .op (.mv (.t 20)), none⟩])
 .ret))))
theorem fn_skylightref12_Weight : FnOk Try.prog F_skylightref12_Weight 21 ac_skylightref12_Weight [.t 2] :=
  ⟨[190, 189], Try.f116, Try.f116.body.getD .skip, Try.func116, by kernel_rfl, Try.ntmps116, by kernel_rfl, by kernel_rfl, Try.call116⟩
/-- skylight/skylightref14.heavy -/
noncomputable def ac_skylightref14_heavy : ACode :=
 (.seq
 (.region [
  ⟨some 4, .op (.mv (kB false)), none⟩])
 (.seq
 (.region [
  ⟨some 5, .op (.mv (.t 1)), none⟩,
  ⟨some 6, .op (.bin .gtr (.t 5) (kI .u64 4503599627370496)), none⟩,
  ⟨some 7, .op (.mv (.t 6)), none⟩,
  ⟨some 8, .op (.mv (.t 0)), some (7, false)⟩,
  ⟨some 9, .op (.mv (.t 1)), some (7, false)⟩,
  ⟨some 10, .op (.bin .add (.t 8) (.t 9)), some (7, false)⟩,
  ⟨some 11, .op (.bin .gtr (.t 10) (kI .u64 4503599627370496)), some (7, false)⟩,
  ⟨some 12, .op (.pick (.t 7) (kB true) (.t 11)), none⟩,
  ⟨some 4, .op (.mv (.t 12)), none⟩])
 .ret))
theorem fn_skylightref14_heavy : FnOk Try.prog F_skylightref14_heavy 13 ac_skylightref14_heavy [.t 4] :=
  ⟨[190, 189], Try.f115, Try.f115.body.getD .skip, Try.func115, by kernel_rfl, Try.ntmps115, by kernel_rfl, by kernel_rfl, Try.call115⟩
/-- skylight/skylightref14.Add -/
noncomputable def ac_skylightref14_Add : ACode :=
 (.seq
 (.region [
  ⟨some 2, .op (.box (.t 0)), none⟩,
  ⟨some 3, .op (.box (.t 1)), none⟩,
  ⟨some 4, .op (.alloc [.v (.int .u64 0), .v (.int .u64 0), .v (.int .i64 0), .v (.int .u64 0), .v (.int .u64 0), .sl true [], .v (.int .i64 0), .v (.int .i64 0), .sl true []]), none⟩,
  ⟨some 5, .op (.mv (kI .i64 0)), none⟩])
 (.seq
 (.region [
  ⟨some 10, .op (.fadr 1 (.t 2)), none⟩,
  ⟨some 11, .op (.load true 5 (.t 10)), none⟩,
  ⟨some 12, .op (.load true 3 (.t 3)), none⟩,
  ⟨some 13, .call (kF F_skylightref12_Push) [.t 11, .t 12], none⟩,
  ⟨some 9, .op (.mv (.t 13)), none⟩,
  ⟨some 14, .op (.ext (.t 9) 0), none⟩,
  ⟨some 15, .op (.ext (.t 9) 1), none⟩,
  ⟨some 16, .op (.ext (.t 9) 2), none⟩,
  ⟨some 6, .op (.alloc [.v (.int .u64 0), .v (.int .i64 0), .v (.int .u64 0), .v (.int .u64 0), .sl true []]), none⟩,
  ⟨none, .op (.store 5 (.t 6) (.t 14)), none⟩,
  ⟨some 7, .op (.mv (.t 15)), none⟩,
  ⟨some 8, .op (.mv (.t 16)), none⟩])
 (.seq
 (.seq
 (.region [
  ⟨some 17, .op (.mv (.t 8)), none⟩,
  ⟨some 18, .op (.bin .neq (.t 17) (kI .i64 0)), none⟩])
 (.cond (.t 18)
 (.seq
 (.region [
  ⟨some 19, .op (.build [.v (.int .u64 0), .v (.int .u64 0), .v (.int .i64 0), .v (.int .u64 0), .v (.int .u64 0), .sl true [], .v (.int .i64 0), .v (.int .i64 0), .sl true []] []), none⟩,
  ⟨some 20, .op (.mv (.t 8)), none⟩,
  ⟨none, .op (.store 9 (.t 4) (.t 19)), none⟩,
  ⟨some 5, .op (.mv (.t 20)), none⟩])
 .ret)
 .skip))
 (.seq
 (.seq
 (.drawn [
  ⟨⟨some 21, .op (.fadr 6 (.t 2)), none⟩, false, 0, 0⟩,
  ⟨⟨some 22, .op (.load true 3 (.t 21)), none⟩, false, 0, 0⟩,
  ⟨⟨some 23, .call (kF F_skylightref06_Total) [.t 22], none⟩, false, 0, 0⟩,
  ⟨⟨some 24, .op (.fadr 1 (.t 2)), none⟩, false, 0, 0⟩,
  ⟨⟨some 25, .op (.load true 5 (.t 24)), none⟩, false, 0, 0⟩,
  ⟨⟨some 26, .call (kF F_skylightref12_Weight) [.t 25], none⟩, false, 0, 0⟩,
  ⟨⟨some 27, .op (.bin .add (.t 23) (.t 26)), none⟩, false, 0, 0⟩,
  ⟨⟨some 28, .op (.fadr 2 (.t 3)), none⟩, false, 0, 0⟩,
  ⟨⟨some 29, .op (.load false 1 (.t 28)), none⟩, false, 0, 0⟩,
  ⟨⟨some 30, .call (kF F_skylightref14_heavy) [.t 27, .t 29], none⟩, false, 0, 0⟩])
 (.cond (.t 30)
 (.seq
 (.region [
  ⟨some 31, .op (.build [.v (.int .u64 0), .v (.int .u64 0), .v (.int .i64 0), .v (.int .u64 0), .v (.int .u64 0), .sl true [], .v (.int .i64 0), .v (.int .i64 0), .sl true []] []), none⟩,
  ⟨none, .op (.store 9 (.t 4) (.t 31)), none⟩,
  ⟨some 5, .op (.mv (kI .i64 5)), none⟩])
 .ret)
 .skip))
 (.seq
 (.region [
  ⟨some 32, .op (.load true 5 (.t 6)), none⟩,
  ⟨some 33, .op (.fadr 1 (.t 2)), none⟩,
  ⟨none, .op (.store 5 (.t 33) (.t 32)), none⟩])
 (.seq
 (.region [
  ⟨some 34, .op (.load true 9 (.t 2)), none⟩,
  ⟨some 35, .op (.mv (.t 7)), none⟩,
  ⟨some 36, .call (kF F_skylightref14_pass) [.t 34, .t 35], none⟩,
  ⟨none, .op (.store 9 (.t 4) (.t 36)), none⟩,
  ⟨some 5, .op (.mv (kI .i64 0)), none⟩])
 .ret))))))
theorem fn_skylightref14_Add : FnOk Try.prog F_skylightref14_Add 37 ac_skylightref14_Add [.cell 4 true 9, .t 5] :=
  ⟨[190, 189], Try.f54, Try.f54.body.getD .skip, Try.func54, by kernel_rfl, Try.ntmps54, by kernel_rfl, by kernel_rfl, Try.call54⟩
/-- skylight/skylightref14.One -/
noncomputable def ac_skylightref14_One : ACode :=
 (.seq
 (.region [
  ⟨some 2, .op (.box (.t 0)), none⟩,
  ⟨some 3, .op (.box (.t 1)), none⟩,
  ⟨some 4, .op (.alloc [.v (.int .u64 0), .v (.int .u64 0), .v (.int .i64 0), .v (.int .u64 0), .v (.int .u64 0), .sl true [], .v (.int .i64 0), .v (.int .i64 0), .sl true []]), none⟩,
  ⟨some 5, .op (.mv (kI .i64 0)), none⟩])
 (.seq
 (.seq
 (.region [
  ⟨some 6, .op (.fadr 2 (.t 3)), none⟩,
  ⟨some 7, .op (.load false 1 (.t 6)), none⟩,
  ⟨some 8, .op (.bin .eql (.t 7) (kI .u64 0)), none⟩])
 (.cond (.t 8)
 (.seq
 (.region [
  ⟨some 9, .op (.load true 9 (.t 2)), none⟩,
  ⟨some 10, .op (.fadr 0 (.t 3)), none⟩,
  ⟨some 11, .op (.load false 1 (.t 10)), none⟩,
  ⟨some 12, .call (kF F_skylightref14_Move) [.t 9, .t 11], none⟩,
  ⟨some 13, .op (.ext (.t 12) 0), none⟩,
  ⟨some 14, .op (.ext (.t 12) 1), none⟩,
  ⟨none, .op (.store 9 (.t 4) (.t 13)), none⟩,
  ⟨some 5, .op (.mv (.t 14)), none⟩])
 .ret)
 .skip))
 (.seq
 (.region [
  ⟨some 15, .op (.load true 9 (.t 2)), none⟩,
  ⟨some 16, .op (.load true 3 (.t 3)), none⟩,
  ⟨some 17, .call (kF F_skylightref14_Add) [.t 15, .t 16], none⟩,
  ⟨some 18, .op (.ext (.t 17) 0), none⟩,
  ⟨some 19, .op (.ext (.t 17) 1), none⟩,
  ⟨none, .op (.store 9 (.t 4) (.t 18)), none⟩,
  ⟨some 5, .op (.mv (.t 19)), none⟩])
 .ret)))
theorem fn_skylightref14_One : FnOk Try.prog F_skylightref14_One 20 ac_skylightref14_One [.cell 4 true 9, .t 5] :=
  ⟨[190, 189], Try.f14, Try.f14.body.getD .skip, Try.func14, by kernel_rfl, Try.ntmps14, by kernel_rfl, by kernel_rfl, Try.call14⟩
/-- skylight/buffer.Move -/
noncomputable def ac_buffer_Move : ACode :=
 (.seq
 (.region [
  ⟨some 2, .op (.box (.t 0)), none⟩,
  ⟨some 4, .op (.alloc [.v (.int .u64 0), .v (.int .i64 0), .v (.int .u64 0), .v (.int .u64 0), .sl true []]), none⟩,
  ⟨some 5, .op (.mv (kN)), none⟩,
  ⟨some 6, .op (.mv (kI .i64 0)), none⟩])
 (.seq
 (.seq
 (.region [
  ⟨some 9, .op (.mv (.t 1)), none⟩,
  ⟨some 10, .op (.bin .gtr (.t 9) (kI .u64 9223372036854775807)), none⟩])
 (.cond (.t 10)
 (.seq
 (.region [
  ⟨some 11, .op (.build [.v (.int .u64 0), .v (.int .i64 0), .v (.int .u64 0), .v (.int .u64 0), .sl true []] []), none⟩,
  ⟨none, .op (.store 5 (.t 4) (.t 11)), none⟩,
  ⟨some 5, .op (.mv (kN)), none⟩,
  ⟨some 6, .op (.mv (kI .i64 6)), none⟩])
 .ret)
 .skip))
 (.seq
 (.region [
  ⟨some 12, .op (.fadr 2 (.t 2)), none⟩,
  ⟨some 13, .op (.load false 1 (.t 12)), none⟩,
  ⟨some 14, .op (.mv (.t 1)), none⟩,
  ⟨some 15, .op (.bslice false 1 2 [.v (.int .u64 0)] [(0, .t 13), (1, .t 14)]), none⟩,
  ⟨some 16, .call (kF F_buffer_latest) [.t 15], none⟩,
  ⟨some 17, .op (.fadr 2 (.t 2)), none⟩,
  ⟨none, .op (.store 1 (.t 17) (.t 16)), none⟩])
 (.seq
 (.region [
  ⟨some 18, .op (.fadr 4 (.t 2)), none⟩,
  ⟨some 19, .op (.load false 1 (.t 18)), none⟩,
  ⟨some 20, .call (kF F_slices_Clone_s_api_Event) [.t 19], none⟩,
  ⟨some 21, .op (.fadr 4 (.t 2)), none⟩,
  ⟨none, .op (.store 1 (.t 21) (.t 20)), none⟩])
 (.seq
 (.region [
  ⟨some 23, .op (.load true 5 (.t 2)), none⟩,
  ⟨some 24, .call (kF F_buffer_Buf_settle) [.t 23], none⟩,
  ⟨some 22, .op (.mv (.t 24)), none⟩,
  ⟨some 25, .op (.ext (.t 22) 0), none⟩,
  ⟨some 26, .op (.ext (.t 22) 1), none⟩,
  ⟨some 7, .op (.alloc [.v (.int .u64 0), .v (.int .i64 0), .v (.int .u64 0), .v (.int .u64 0), .sl true []]), none⟩,
  ⟨none, .op (.store 5 (.t 7) (.t 25)), none⟩,
  ⟨some 8, .op (.mv (.t 26)), none⟩])
 (.seq
 (.region [
  ⟨some 27, .op (.load true 5 (.t 7)), none⟩,
  ⟨some 28, .op (.mv (.t 8)), none⟩,
  ⟨none, .op (.store 5 (.t 4) (.t 27)), none⟩,
  ⟨some 5, .op (.mv (.t 28)), none⟩,
  ⟨some 6, .op (.mv (kI .i64 0)), none⟩])
 .ret))))))
theorem fn_buffer_Move : FnOk Try.prog F_buffer_Move 29 ac_buffer_Move [.cell 4 true 5, .t 5, .t 6] :=
  ⟨[190, 189], Try.f55, Try.f55.body.getD .skip, Try.func55, by kernel_rfl, Try.ntmps55, by kernel_rfl, by kernel_rfl, Try.call55⟩
/-- skylight/count.Move -/
noncomputable def ac_count_Move : ACode :=
 (.seq
 (.region [
  ⟨some 2, .op (.box (.t 0)), none⟩,
  ⟨some 4, .op (.alloc [.v (.int .u64 0), .v (.int .u64 0), .v (.int .i64 0), .v (.int .u64 0), .v (.int .u64 0), .sl true [], .v (.int .i64 0), .v (.int .i64 0), .sl true []]), none⟩,
  ⟨some 5, .op (.mv (kI .i64 0)), none⟩])
 (.seq
 (.region [
  ⟨some 10, .op (.fadr 1 (.t 2)), none⟩,
  ⟨some 11, .op (.load true 5 (.t 10)), none⟩,
  ⟨some 12, .op (.mv (.t 1)), none⟩,
  ⟨some 13, .call (kF F_buffer_Move) [.t 11, .t 12], none⟩,
  ⟨some 9, .op (.mv (.t 13)), none⟩,
  ⟨some 14, .op (.ext (.t 9) 0), none⟩,
  ⟨some 15, .op (.ext (.t 9) 1), none⟩,
  ⟨some 16, .op (.ext (.t 9) 2), none⟩,
  ⟨some 6, .op (.alloc [.v (.int .u64 0), .v (.int .i64 0), .v (.int .u64 0), .v (.int .u64 0), .sl true []]), none⟩,
  ⟨none, .op (.store 5 (.t 6) (.t 14)), none⟩,
  ⟨some 7, .op (.mv (.t 15)), none⟩,
  ⟨some 8, .op (.mv (.t 16)), none⟩])
 (.seq
 (.seq
 (.region [
  ⟨some 17, .op (.mv (.t 8)), none⟩,
  ⟨some 18, .op (.bin .neq (.t 17) (kI .i64 0)), none⟩])
 (.cond (.t 18)
 (.seq
 (.region [
  ⟨some 19, .op (.build [.v (.int .u64 0), .v (.int .u64 0), .v (.int .i64 0), .v (.int .u64 0), .v (.int .u64 0), .sl true [], .v (.int .i64 0), .v (.int .i64 0), .sl true []] []), none⟩,
  ⟨some 20, .op (.mv (.t 8)), none⟩,
  ⟨none, .op (.store 9 (.t 4) (.t 19)), none⟩,
  ⟨some 5, .op (.mv (.t 20)), none⟩])
 .ret)
 .skip))
 (.seq
 (.region [
  ⟨some 21, .op (.load true 9 (.t 2)), none⟩,
  ⟨some 22, .op (.load true 5 (.t 6)), none⟩,
  ⟨some 23, .op (.mv (.t 7)), none⟩,
  ⟨some 24, .call (kF F_count_pass) [.t 21, .t 22, .t 23], none⟩,
  ⟨none, .op (.store 9 (.t 4) (.t 24)), none⟩,
  ⟨some 5, .op (.mv (kI .i64 0)), none⟩])
 .ret))))
theorem fn_count_Move : FnOk Try.prog F_count_Move 25 ac_count_Move [.cell 4 true 9, .t 5] :=
  ⟨[190, 189], Try.f15, Try.f15.body.getD .skip, Try.func15, by kernel_rfl, Try.ntmps15, by kernel_rfl, by kernel_rfl, Try.call15⟩
noncomputable def acl_skylightref12_Events_0 : ACode :=
 (.seq
 (.seq
 (.region [
  ⟨some 11, .op (.mv (.t 5)), none⟩,
  ⟨some 12, .op (.mv (.t 0)), none⟩,
  ⟨some 13, .op (.len (.t 12)), none⟩,
  ⟨some 14, .op (.bin .lss (.t 11) (.t 13)), none⟩])
 (.cond (.t 14)
 .skip
 (.exit 0)))
 (.seq
 (.block 1
 (.seq
 (.drawn [
  ⟨⟨some 17, .op (.mv (.t 0)), none⟩, false, 0, 0⟩,
  ⟨⟨some 18, .op (.mv (.t 5)), none⟩, false, 0, 0⟩,
  ⟨⟨some 19, .op (.iadr 3 (.t 17) (.t 18)), none⟩, false, 0, 0⟩,
  ⟨⟨some 20, .op (.load true 3 (.t 19)), none⟩, false, 0, 0⟩,
  ⟨⟨some 21, .op (.mv (.t 1)), none⟩, false, 0, 0⟩,
  ⟨⟨some 22, .op (.mv (.t 5)), none⟩, false, 0, 0⟩,
  ⟨⟨some 23, .op (.iadr 3 (.t 21) (.t 22)), none⟩, false, 0, 0⟩,
  ⟨⟨some 24, .op (.load true 3 (.t 23)), none⟩, false, 0, 0⟩,
  ⟨⟨some 25, .op (.eqv true [some .u64, some .u64, some .u64] (.t 20) (.t 24)), none⟩, false, 0, 0⟩])
 (.cond (.t 25)
 (.seq
 (.region [
  ⟨some 4, .op (.mv (kB false)), none⟩])
 .ret)
 .skip)))
 (.region [
  ⟨some 15, .op (.mv (.t 5)), none⟩,
  ⟨some 16, .op (.bin .add (.t 15) (kI .i64 1)), none⟩,
  ⟨some 5, .op (.mv (.t 16)), none⟩])))
/-- skylight/skylightref12.Events -/
noncomputable def ac_skylightref12_Events : ACode :=
 (.seq
 (.region [
  ⟨some 4, .op (.mv (kB false)), none⟩])
 (.seq
 (.seq
 (.region [
  ⟨some 6, .op (.mv (.t 0)), none⟩,
  ⟨some 7, .op (.len (.t 6)), none⟩,
  ⟨some 8, .op (.mv (.t 1)), none⟩,
  ⟨some 9, .op (.len (.t 8)), none⟩,
  ⟨some 10, .op (.bin .neq (.t 7) (.t 9)), none⟩])
 (.cond (.t 10)
 (.seq
 (.region [
  ⟨some 4, .op (.mv (kB false)), none⟩])
 .ret)
 .skip))
 (.seq
 (.seq
 (.region [
  ⟨some 5, .op (.mv (kI .i64 0)), none⟩])
 (.block 0
 (.loop acl_skylightref12_Events_0)))
 (.seq
 (.region [
  ⟨some 4, .op (.mv (kB true)), none⟩])
 .ret))))
theorem fn_skylightref12_Events : FnOk Try.prog F_skylightref12_Events 26 ac_skylightref12_Events [.t 4] :=
  ⟨[190, 189], Try.f165, Try.f165.body.getD .skip, Try.func165, by kernel_rfl, Try.ntmps165, by kernel_rfl, by kernel_rfl, Try.call165⟩
/-- skylight/skylightref12.Same -/
noncomputable def ac_skylightref12_Same : ACode :=
 (.seq
 (.region [
  ⟨some 2, .op (.box (.t 0)), none⟩,
  ⟨some 3, .op (.box (.t 1)), none⟩,
  ⟨some 4, .op (.mv (kB false)), none⟩])
 (.seq
 (.region [
  ⟨some 5, .op (.fadr 0 (.t 2)), none⟩,
  ⟨some 6, .op (.load false 1 (.t 5)), none⟩,
  ⟨some 7, .op (.fadr 0 (.t 3)), none⟩,
  ⟨some 8, .op (.load false 1 (.t 7)), none⟩,
  ⟨some 9, .op (.bin .eql (.t 6) (.t 8)), none⟩,
  ⟨some 10, .op (.mv (.t 9)), none⟩,
  ⟨some 11, .op (.fadr 1 (.t 2)), some (10, true)⟩,
  ⟨some 12, .op (.load false 1 (.t 11)), some (10, true)⟩,
  ⟨some 13, .op (.fadr 1 (.t 3)), some (10, true)⟩,
  ⟨some 14, .op (.load false 1 (.t 13)), some (10, true)⟩,
  ⟨some 15, .op (.bin .eql (.t 12) (.t 14)), some (10, true)⟩,
  ⟨some 16, .op (.pick (.t 10) (.t 15) (kB false)), none⟩,
  ⟨some 17, .op (.mv (.t 16)), none⟩,
  ⟨some 18, .op (.fadr 2 (.t 2)), some (17, true)⟩,
  ⟨some 19, .op (.load false 1 (.t 18)), some (17, true)⟩,
  ⟨some 20, .op (.fadr 2 (.t 3)), some (17, true)⟩,
  ⟨some 21, .op (.load false 1 (.t 20)), some (17, true)⟩,
  ⟨some 22, .op (.bin .eql (.t 19) (.t 21)), some (17, true)⟩,
  ⟨some 23, .op (.pick (.t 17) (.t 22) (kB false)), none⟩,
  ⟨some 24, .op (.mv (.t 23)), none⟩,
  ⟨some 25, .op (.fadr 3 (.t 2)), some (24, true)⟩,
  ⟨some 26, .op (.load false 1 (.t 25)), some (24, true)⟩,
  ⟨some 27, .op (.fadr 3 (.t 3)), some (24, true)⟩,
  ⟨some 28, .op (.load false 1 (.t 27)), some (24, true)⟩,
  ⟨some 29, .op (.bin .eql (.t 26) (.t 28)), some (24, true)⟩,
  ⟨some 30, .op (.pick (.t 24) (.t 29) (kB false)), none⟩,
  ⟨some 31, .op (.mv (.t 30)), none⟩,
  ⟨some 32, .op (.fadr 4 (.t 2)), some (31, true)⟩,
  ⟨some 33, .op (.load false 1 (.t 32)), some (31, true)⟩,
  ⟨some 34, .op (.fadr 4 (.t 3)), some (31, true)⟩,
  ⟨some 35, .op (.load false 1 (.t 34)), some (31, true)⟩,
  ⟨some 36, .call (kF F_skylightref12_Events) [.t 33, .t 35], some (31, true)⟩,
  ⟨some 37, .op (.pick (.t 31) (.t 36) (kB false)), none⟩,
  ⟨some 4, .op (.mv (.t 37)), none⟩])
 .ret))
theorem fn_skylightref12_Same : FnOk Try.prog F_skylightref12_Same 38 ac_skylightref12_Same [.t 4] :=
  ⟨[190, 189], Try.f121, Try.f121.body.getD .skip, Try.func121, by kernel_rfl, Try.ntmps121, by kernel_rfl, by kernel_rfl, Try.call121⟩
noncomputable def acl_skylightref05_Same_0 : ACode :=
 (.seq
 (.seq
 (.region [
  ⟨some 11, .op (.mv (.t 5)), none⟩,
  ⟨some 12, .op (.mv (.t 0)), none⟩,
  ⟨some 13, .op (.len (.t 12)), none⟩,
  ⟨some 14, .op (.bin .lss (.t 11) (.t 13)), none⟩])
 (.cond (.t 14)
 .skip
 (.exit 0)))
 (.seq
 (.block 1
 (.seq
 (.drawn [
  ⟨⟨some 17, .op (.mv (.t 0)), none⟩, false, 0, 0⟩,
  ⟨⟨some 18, .op (.mv (.t 5)), none⟩, false, 0, 0⟩,
  ⟨⟨some 19, .op (.iadr 2 (.t 17) (.t 18)), none⟩, false, 0, 0⟩,
  ⟨⟨some 20, .op (.load true 2 (.t 19)), none⟩, false, 0, 0⟩,
  ⟨⟨some 21, .op (.mv (.t 1)), none⟩, false, 0, 0⟩,
  ⟨⟨some 22, .op (.mv (.t 5)), none⟩, false, 0, 0⟩,
  ⟨⟨some 23, .op (.iadr 2 (.t 21) (.t 22)), none⟩, false, 0, 0⟩,
  ⟨⟨some 24, .op (.load true 2 (.t 23)), none⟩, false, 0, 0⟩,
  ⟨⟨some 25, .op (.eqv true [some .u64, some .u64] (.t 20) (.t 24)), none⟩, false, 0, 0⟩])
 (.cond (.t 25)
 (.seq
 (.region [
  ⟨some 4, .op (.mv (kB false)), none⟩])
 .ret)
 .skip)))
 (.region [
  ⟨some 15, .op (.mv (.t 5)), none⟩,
  ⟨some 16, .op (.bin .add (.t 15) (kI .i64 1)), none⟩,
  ⟨some 5, .op (.mv (.t 16)), none⟩])))
/-- skylight/skylightref05.Same -/
noncomputable def ac_skylightref05_Same : ACode :=
 (.seq
 (.region [
  ⟨some 4, .op (.mv (kB false)), none⟩])
 (.seq
 (.seq
 (.region [
  ⟨some 6, .op (.mv (.t 0)), none⟩,
  ⟨some 7, .op (.len (.t 6)), none⟩,
  ⟨some 8, .op (.mv (.t 1)), none⟩,
  ⟨some 9, .op (.len (.t 8)), none⟩,
  ⟨some 10, .op (.bin .neq (.t 7) (.t 9)), none⟩])
 (.cond (.t 10)
 (.seq
 (.region [
  ⟨some 4, .op (.mv (kB false)), none⟩])
 .ret)
 .skip))
 (.seq
 (.seq
 (.region [
  ⟨some 5, .op (.mv (kI .i64 0)), none⟩])
 (.block 0
 (.loop acl_skylightref05_Same_0)))
 (.seq
 (.region [
  ⟨some 4, .op (.mv (kB true)), none⟩])
 .ret))))
theorem fn_skylightref05_Same : FnOk Try.prog F_skylightref05_Same 26 ac_skylightref05_Same [.t 4] :=
  ⟨[190, 189], Try.f131, Try.f131.body.getD .skip, Try.func131, by kernel_rfl, Try.ntmps131, by kernel_rfl, by kernel_rfl, Try.call131⟩
noncomputable def acl_skylightref06_Same_0 : ACode :=
 (.seq
 (.seq
 (.region [
  ⟨some 27, .op (.mv (.t 5)), none⟩,
  ⟨some 28, .op (.fadr 2 (.t 2)), none⟩,
  ⟨some 29, .op (.load false 1 (.t 28)), none⟩,
  ⟨some 30, .op (.len (.t 29)), none⟩,
  ⟨some 31, .op (.bin .lss (.t 27) (.t 30)), none⟩])
 (.cond (.t 31)
 .skip
 (.exit 0)))
 (.seq
 (.block 1
 (.seq
 (.drawn [
  ⟨⟨some 34, .op (.fadr 2 (.t 2)), none⟩, false, 0, 0⟩,
  ⟨⟨some 35, .op (.load false 1 (.t 34)), none⟩, false, 0, 0⟩,
  ⟨⟨some 36, .op (.mv (.t 5)), none⟩, false, 0, 0⟩,
  ⟨⟨some 37, .op (.iadr 1 (.t 35) (.t 36)), none⟩, false, 0, 0⟩,
  ⟨⟨some 38, .op (.load false 1 (.t 37)), none⟩, false, 0, 0⟩,
  ⟨⟨some 39, .op (.fadr 2 (.t 3)), none⟩, false, 0, 0⟩,
  ⟨⟨some 40, .op (.load false 1 (.t 39)), none⟩, false, 0, 0⟩,
  ⟨⟨some 41, .op (.mv (.t 5)), none⟩, false, 0, 0⟩,
  ⟨⟨some 42, .op (.iadr 1 (.t 40) (.t 41)), none⟩, false, 0, 0⟩,
  ⟨⟨some 43, .op (.load false 1 (.t 42)), none⟩, false, 0, 0⟩,
  ⟨⟨some 44, .call (kF F_skylightref05_Same) [.t 38, .t 43], none⟩, false, 0, 0⟩,
  ⟨⟨some 45, .op (.un .not (.t 44)), none⟩, false, 0, 0⟩])
 (.cond (.t 45)
 (.seq
 (.region [
  ⟨some 4, .op (.mv (kB false)), none⟩])
 .ret)
 .skip)))
 (.region [
  ⟨some 32, .op (.mv (.t 5)), none⟩,
  ⟨some 33, .op (.bin .add (.t 32) (kI .i64 1)), none⟩,
  ⟨some 5, .op (.mv (.t 33)), none⟩])))
/-- skylight/skylightref06.Same -/
noncomputable def ac_skylightref06_Same : ACode :=
 (.seq
 (.region [
  ⟨some 2, .op (.box (.t 0)), none⟩,
  ⟨some 3, .op (.box (.t 1)), none⟩,
  ⟨some 4, .op (.mv (kB false)), none⟩])
 (.seq
 (.seq
 (.region [
  ⟨some 6, .op (.fadr 0 (.t 2)), none⟩,
  ⟨some 7, .op (.load false 1 (.t 6)), none⟩,
  ⟨some 8, .op (.fadr 0 (.t 3)), none⟩,
  ⟨some 9, .op (.load false 1 (.t 8)), none⟩,
  ⟨some 10, .op (.bin .neq (.t 7) (.t 9)), none⟩,
  ⟨some 11, .op (.mv (.t 10)), none⟩,
  ⟨some 12, .op (.fadr 1 (.t 2)), some (11, false)⟩,
  ⟨some 13, .op (.load false 1 (.t 12)), some (11, false)⟩,
  ⟨some 14, .op (.fadr 1 (.t 3)), some (11, false)⟩,
  ⟨some 15, .op (.load false 1 (.t 14)), some (11, false)⟩,
  ⟨some 16, .op (.bin .neq (.t 13) (.t 15)), some (11, false)⟩,
  ⟨some 17, .op (.pick (.t 11) (kB true) (.t 16)), none⟩,
  ⟨some 18, .op (.mv (.t 17)), none⟩,
  ⟨some 19, .op (.fadr 2 (.t 2)), some (18, false)⟩,
  ⟨some 20, .op (.load false 1 (.t 19)), some (18, false)⟩,
  ⟨some 21, .op (.len (.t 20)), some (18, false)⟩,
  ⟨some 22, .op (.fadr 2 (.t 3)), some (18, false)⟩,
  ⟨some 23, .op (.load false 1 (.t 22)), some (18, false)⟩,
  ⟨some 24, .op (.len (.t 23)), some (18, false)⟩,
  ⟨some 25, .op (.bin .neq (.t 21) (.t 24)), some (18, false)⟩,
  ⟨some 26, .op (.pick (.t 18) (kB true) (.t 25)), none⟩])
 (.cond (.t 26)
 (.seq
 (.region [
  ⟨some 4, .op (.mv (kB false)), none⟩])
 .ret)
 .skip))
 (.seq
 (.seq
 (.region [
  ⟨some 5, .op (.mv (kI .i64 0)), none⟩])
 (.block 0
 (.loop acl_skylightref06_Same_0)))
 (.seq
 (.region [
  ⟨some 4, .op (.mv (kB true)), none⟩])
 .ret))))
theorem fn_skylightref06_Same : FnOk Try.prog F_skylightref06_Same 46 ac_skylightref06_Same [.t 4] :=
  ⟨[190, 189], Try.f70, Try.f70.body.getD .skip, Try.func70, by kernel_rfl, Try.ntmps70, by kernel_rfl, by kernel_rfl, Try.call70⟩
/-- skylight/skylightref14.Same -/
noncomputable def ac_skylightref14_Same : ACode :=
 (.seq
 (.region [
  ⟨some 2, .op (.box (.t 0)), none⟩,
  ⟨some 3, .op (.box (.t 1)), none⟩,
  ⟨some 4, .op (.mv (kB false)), none⟩])
 (.seq
 (.region [
  ⟨some 5, .op (.fadr 0 (.t 2)), none⟩,
  ⟨some 6, .op (.load false 1 (.t 5)), none⟩,
  ⟨some 7, .op (.fadr 0 (.t 3)), none⟩,
  ⟨some 8, .op (.load false 1 (.t 7)), none⟩,
  ⟨some 9, .op (.bin .eql (.t 6) (.t 8)), none⟩,
  ⟨some 10, .op (.mv (.t 9)), none⟩,
  ⟨some 11, .op (.fadr 1 (.t 2)), some (10, true)⟩,
  ⟨some 12, .op (.load true 5 (.t 11)), some (10, true)⟩,
  ⟨some 13, .op (.fadr 1 (.t 3)), some (10, true)⟩,
  ⟨some 14, .op (.load true 5 (.t 13)), some (10, true)⟩,
  ⟨some 15, .call (kF F_skylightref12_Same) [.t 12, .t 14], some (10, true)⟩,
  ⟨some 16, .op (.pick (.t 10) (.t 15) (kB false)), none⟩,
  ⟨some 17, .op (.mv (.t 16)), none⟩,
  ⟨some 18, .op (.fadr 6 (.t 2)), some (17, true)⟩,
  ⟨some 19, .op (.load true 3 (.t 18)), some (17, true)⟩,
  ⟨some 20, .op (.fadr 6 (.t 3)), some (17, true)⟩,
  ⟨some 21, .op (.load true 3 (.t 20)), some (17, true)⟩,
  ⟨some 22, .call (kF F_skylightref06_Same) [.t 19, .t 21], some (17, true)⟩,
  ⟨some 23, .op (.pick (.t 17) (.t 22) (kB false)), none⟩,
  ⟨some 4, .op (.mv (.t 23)), none⟩])
 .ret))
theorem fn_skylightref14_Same : FnOk Try.prog F_skylightref14_Same 24 ac_skylightref14_Same [.t 4] :=
  ⟨[190, 189], Try.f57, Try.f57.body.getD .skip, Try.func57, by kernel_rfl, Try.ntmps57, by kernel_rfl, by kernel_rfl, Try.call57⟩
/-- skylight/skylightlaw14.same -/
noncomputable def ac_skylightlaw14_same : ACode :=
 (.seq
 (.region [
  ⟨some 2, .op (.box (.t 0)), none⟩,
  ⟨some 3, .op (.box (.t 1)), none⟩,
  ⟨some 4, .op (.mv (kB false)), none⟩])
 (.seq
 (.region [
  ⟨some 7, .op (.fadr 1 (.t 2)), none⟩,
  ⟨some 8, .op (.load true 5 (.t 7)), none⟩,
  ⟨some 5, .op (.alloc [.v (.int .u64 0), .v (.int .i64 0), .v (.int .u64 0), .v (.int .u64 0), .sl true []]), none⟩,
  ⟨none, .op (.store 5 (.t 5) (.t 8)), none⟩])
 (.seq
 (.region [
  ⟨some 9, .op (.fadr 0 (.t 2)), none⟩,
  ⟨some 10, .op (.load false 1 (.t 9)), none⟩,
  ⟨some 11, .op (.fadr 0 (.t 5)), none⟩,
  ⟨some 12, .op (.load false 1 (.t 11)), none⟩,
  ⟨some 13, .op (.fadr 1 (.t 5)), none⟩,
  ⟨some 14, .op (.load false 1 (.t 13)), none⟩,
  ⟨some 15, .op (.fadr 2 (.t 5)), none⟩,
  ⟨some 16, .op (.load false 1 (.t 15)), none⟩,
  ⟨some 17, .op (.fadr 3 (.t 5)), none⟩,
  ⟨some 18, .op (.load false 1 (.t 17)), none⟩,
  ⟨some 19, .op (.fadr 4 (.t 5)), none⟩,
  ⟨some 20, .op (.load false 1 (.t 19)), none⟩,
  ⟨some 21, .op (.build [.v (.int .u64 0), .v (.int .i64 0), .v (.int .u64 0), .v (.int .u64 0), .sl true []] [(0, 1, .t 12), (1, 1, .t 14), (2, 1, .t 16), (3, 1, .t 18), (4, 1, .t 20)]), none⟩,
  ⟨some 22, .op (.fadr 6 (.t 2)), none⟩,
  ⟨some 23, .op (.fadr 0 (.t 22)), none⟩,
  ⟨some 24, .op (.load false 1 (.t 23)), none⟩,
  ⟨some 25, .op (.fadr 6 (.t 2)), none⟩,
  ⟨some 26, .op (.fadr 1 (.t 25)), none⟩,
  ⟨some 27, .op (.load false 1 (.t 26)), none⟩,
  ⟨some 28, .op (.fadr 6 (.t 2)), none⟩,
  ⟨some 29, .op (.fadr 2 (.t 28)), none⟩,
  ⟨some 30, .op (.load false 1 (.t 29)), none⟩,
  ⟨some 31, .op (.build [.v (.int .i64 0), .v (.int .i64 0), .sl true []] [(0, 1, .t 24), (1, 1, .t 27), (2, 1, .t 30)]), none⟩,
  ⟨some 32, .op (.build [.v (.int .u64 0), .v (.int .u64 0), .v (.int .i64 0), .v (.int .u64 0), .v (.int .u64 0), .sl true [], .v (.int .i64 0), .v (.int .i64 0), .sl true []] [(0, 1, .t 10), (1, 5, .t 21), (6, 3, .t 31)]), none⟩,
  ⟨some 6, .op (.alloc [.v (.int .u64 0), .v (.int .u64 0), .v (.int .i64 0), .v (.int .u64 0), .v (.int .u64 0), .sl true [], .v (.int .i64 0), .v (.int .i64 0), .sl true []]), none⟩,
  ⟨none, .op (.store 9 (.t 6) (.t 32)), none⟩])
 (.seq
 (.region [
  ⟨some 33, .op (.load true 9 (.t 6)), none⟩,
  ⟨some 34, .op (.load true 9 (.t 3)), none⟩,
  ⟨some 35, .call (kF F_skylightref14_Same) [.t 33, .t 34], none⟩,
  ⟨some 4, .op (.mv (.t 35)), none⟩])
 .ret))))
theorem fn_skylightlaw14_same : FnOk Try.prog F_skylightlaw14_same 36 ac_skylightlaw14_same [.t 4] :=
  ⟨[190, 189], Try.f16, Try.f16.body.getD .skip, Try.func16, by kernel_rfl, Try.ntmps16, by kernel_rfl, by kernel_rfl, Try.call16⟩
noncomputable def acl_skylightlaw14_CountPlays_0 : ACode :=
 (.seq
 (.seq
 (.region [
  ⟨some 59, .op (.mv (.t 11)), none⟩,
  ⟨some 60, .op (.mv (.t 2)), none⟩,
  ⟨some 61, .op (.len (.t 60)), none⟩,
  ⟨some 62, .op (.bin .lss (.t 59) (.t 61)), none⟩,
  ⟨some 63, .op (.mv (.t 62)), none⟩,
  ⟨some 64, .op (.mv (.t 11)), some (63, true)⟩,
  ⟨some 65, .op (.bin .lss (.t 64) (kI .i64 30)), some (63, true)⟩,
  ⟨some 66, .op (.pick (.t 63) (.t 65) (kB false)), none⟩])
 (.cond (.t 66)
 .skip
 (.exit 0)))
 (.seq
 (.block 1
 (.seq
 (.region [
  ⟨some 69, .op (.mv (.t 2)), none⟩,
  ⟨some 70, .op (.mv (.t 11)), none⟩,
  ⟨some 71, .op (.iadr 3 (.t 69) (.t 70)), none⟩,
  ⟨some 72, .op (.fadr 0 (.t 71)), none⟩,
  ⟨some 73, .op (.load true 3 (.t 72)), none⟩,
  ⟨some 12, .op (.alloc [.v (.int .u64 0), .v (.int .u64 0), .v (.int .u64 0)]), none⟩,
  ⟨none, .op (.store 3 (.t 12) (.t 73)), none⟩])
 (.seq
 (.region [
  ⟨some 75, .op (.load true 9 (.t 8)), none⟩,
  ⟨some 76, .op (.load true 3 (.t 12)), none⟩,
  ⟨some 77, .call (kF F_skylightref14_One) [.t 75, .t 76], none⟩,
  ⟨some 74, .op (.mv (.t 77)), none⟩,
  ⟨some 78, .op (.ext (.t 74) 0), none⟩,
  ⟨some 79, .op (.ext (.t 74) 1), none⟩,
  ⟨some 13, .op (.alloc [.v (.int .u64 0), .v (.int .u64 0), .v (.int .i64 0), .v (.int .u64 0), .v (.int .u64 0), .sl true [], .v (.int .i64 0), .v (.int .i64 0), .sl true []]), none⟩,
  ⟨none, .op (.store 9 (.t 13) (.t 78)), none⟩,
  ⟨some 14, .op (.mv (.t 79)), none⟩])
 (.seq
 (.seq
 (.region [
  ⟨some 80, .op (.fadr 2 (.t 12)), none⟩,
  ⟨some 81, .op (.load false 1 (.t 80)), none⟩,
  ⟨some 82, .op (.bin .eql (.t 81) (kI .u64 0)), none⟩])
 (.cond (.t 82)
 (.seq
 (.region [
  ⟨some 84, .op (.load true 9 (.t 9)), none⟩,
  ⟨some 85, .op (.fadr 0 (.t 12)), none⟩,
  ⟨some 86, .op (.load false 1 (.t 85)), none⟩,
  ⟨some 87, .call (kF F_count_Move) [.t 84, .t 86], none⟩,
  ⟨some 83, .op (.mv (.t 87)), none⟩,
  ⟨some 88, .op (.ext (.t 83) 0), none⟩,
  ⟨some 89, .op (.ext (.t 83) 1), none⟩,
  ⟨some 15, .op (.alloc [.v (.int .u64 0), .v (.int .u64 0), .v (.int .i64 0), .v (.int .u64 0), .v (.int .u64 0), .sl true [], .v (.int .i64 0), .v (.int .i64 0), .sl true []]), none⟩,
  ⟨none, .op (.store 9 (.t 15) (.t 88)), none⟩,
  ⟨some 16, .op (.mv (.t 89)), none⟩])
 (.seq
 (.seq
 (.region [
  ⟨some 90, .op (.mv (.t 16)), none⟩,
  ⟨some 91, .op (.mv (.t 14)), none⟩,
  ⟨some 92, .op (.bin .neq (.t 90) (.t 91)), none⟩,
  ⟨some 93, .op (.mv (.t 92)), none⟩,
  ⟨some 94, .op (.load true 9 (.t 15)), some (93, false)⟩,
  ⟨some 95, .op (.load true 9 (.t 13)), some (93, false)⟩,
  ⟨some 96, .call (kF F_skylightlaw14_same) [.t 94, .t 95], some (93, false)⟩,
  ⟨some 97, .op (.un .not (.t 96)), some (93, false)⟩,
  ⟨some 98, .op (.pick (.t 93) (kB true) (.t 97)), none⟩])
 (.cond (.t 98)
 (.seq
 (.region [
  ⟨some 6, .op (.mv (kB false)), none⟩])
 .ret)
 .skip))
 (.seq
 (.region [
  ⟨some 99, .op (.mv (.t 14)), none⟩,
  ⟨some 100, .op (.bin .eql (.t 99) (kI .i64 0)), none⟩])
 (.cond (.t 100)
 (.region [
  ⟨some 101, .op (.load true 9 (.t 15)), none⟩,
  ⟨none, .op (.store 9 (.t 9) (.t 101)), none⟩])
 .skip))))
 (.seq
 (.region [
  ⟨some 103, .op (.load true 9 (.t 9)), none⟩,
  ⟨some 104, .op (.load true 3 (.t 12)), none⟩,
  ⟨some 105, .call (kF F_count_Add) [.t 103, .t 104], none⟩,
  ⟨some 102, .op (.mv (.t 105)), none⟩,
  ⟨some 106, .op (.ext (.t 102) 0), none⟩,
  ⟨some 107, .op (.ext (.t 102) 1), none⟩,
  ⟨some 17, .op (.alloc [.v (.int .u64 0), .v (.int .u64 0), .v (.int .i64 0), .v (.int .u64 0), .v (.int .u64 0), .sl true [], .v (.int .i64 0), .v (.int .i64 0), .sl true []]), none⟩,
  ⟨none, .op (.store 9 (.t 17) (.t 106)), none⟩,
  ⟨some 18, .op (.mv (.t 107)), none⟩])
 (.seq
 (.seq
 (.region [
  ⟨some 108, .op (.mv (.t 18)), none⟩,
  ⟨some 109, .op (.mv (.t 14)), none⟩,
  ⟨some 110, .op (.bin .neq (.t 108) (.t 109)), none⟩,
  ⟨some 111, .op (.mv (.t 110)), none⟩,
  ⟨some 112, .op (.load true 9 (.t 17)), some (111, false)⟩,
  ⟨some 113, .op (.load true 9 (.t 13)), some (111, false)⟩,
  ⟨some 114, .call (kF F_skylightlaw14_same) [.t 112, .t 113], some (111, false)⟩,
  ⟨some 115, .op (.un .not (.t 114)), some (111, false)⟩,
  ⟨some 116, .op (.pick (.t 111) (kB true) (.t 115)), none⟩])
 (.cond (.t 116)
 (.seq
 (.region [
  ⟨some 6, .op (.mv (kB false)), none⟩])
 .ret)
 .skip))
 (.seq
 (.region [
  ⟨some 117, .op (.mv (.t 14)), none⟩,
  ⟨some 118, .op (.bin .eql (.t 117) (kI .i64 0)), none⟩])
 (.cond (.t 118)
 (.region [
  ⟨some 119, .op (.load true 9 (.t 17)), none⟩,
  ⟨none, .op (.store 9 (.t 9) (.t 119)), none⟩])
 .skip))))))
 (.seq
 (.region [
  ⟨some 120, .op (.mv (.t 14)), none⟩,
  ⟨some 121, .op (.bin .eql (.t 120) (kI .i64 0)), none⟩])
 (.cond (.t 121)
 (.region [
  ⟨some 122, .op (.load true 9 (.t 13)), none⟩,
  ⟨none, .op (.store 9 (.t 8) (.t 122)), none⟩])
 .skip))))))
 (.region [
  ⟨some 67, .op (.mv (.t 11)), none⟩,
  ⟨some 68, .op (.bin .add (.t 67) (kI .i64 1)), none⟩,
  ⟨some 11, .op (.mv (.t 68)), none⟩])))
/-- skylight/skylightlaw14.CountPlays -/
noncomputable def ac_skylightlaw14_CountPlays : ACode :=
 (.seq
 (.region [
  ⟨some 4, .op (.box (.t 1)), none⟩,
  ⟨some 6, .op (.mv (kB false)), none⟩])
 (.seq
 (.region [
  ⟨some 19, .call (kF F_skylightlaw14_awake) [], none⟩,
  ⟨some 7, .op (.mv (.t 19)), none⟩])
 (.seq
 (.region [
  ⟨some 20, .op (.mv (.t 0)), none⟩,
  ⟨some 21, .op (.mx [.t 20, kI .i64 0]), none⟩,
  ⟨some 22, .op (.bin .rem (.t 21) (kI .i64 30)), none⟩,
  ⟨some 23, .op (.bin .add (kI .i64 2) (.t 22)), none⟩,
  ⟨some 24, .op (.iadrA 2 1 (.t 4) (kI .i64 0)), none⟩,
  ⟨some 25, .op (.load false 1 (.t 24)), none⟩,
  ⟨some 26, .op (.bin .rem (.t 25) (kI .u64 1000)), none⟩,
  ⟨some 27, .op (.bin .add (kI .u64 1) (.t 26)), none⟩,
  ⟨some 28, .op (.iadrA 2 1 (.t 4) (kI .i64 1)), none⟩,
  ⟨some 29, .op (.load false 1 (.t 28)), none⟩,
  ⟨some 30, .op (.bin .rem (.t 29) (kI .u64 100)), none⟩,
  ⟨some 31, .op (.iadrA 2 1 (.t 4) (kI .i64 1)), none⟩,
  ⟨some 32, .op (.load false 1 (.t 31)), none⟩,
  ⟨some 33, .op (.bin .rem (.t 32) (kI .u64 7)), none⟩,
  ⟨some 34, .op (.conv .i64 (.t 33)), none⟩,
  ⟨some 35, .op (.bin .add (kI .i64 1) (.t 34)), none⟩,
  ⟨some 36, .call (kF F_skylightref14_New) [.t 23, .t 27, .t 30, .t 35], none⟩,
  ⟨some 8, .op (.alloc [.v (.int .u64 0), .v (.int .u64 0), .v (.int .i64 0), .v (.int .u64 0), .v (.int .u64 0), .sl true [], .v (.int .i64 0), .v (.int .i64 0), .sl true []]), none⟩,
  ⟨none, .op (.store 9 (.t 8) (.t 36)), none⟩])
 (.seq
 (.region [
  ⟨some 38, .op (.mv (.t 0)), none⟩,
  ⟨some 39, .op (.mx [.t 38, kI .i64 0]), none⟩,
  ⟨some 40, .op (.bin .rem (.t 39) (kI .i64 30)), none⟩,
  ⟨some 41, .op (.bin .add (kI .i64 2) (.t 40)), none⟩,
  ⟨some 42, .op (.iadrA 2 1 (.t 4) (kI .i64 0)), none⟩,
  ⟨some 43, .op (.load false 1 (.t 42)), none⟩,
  ⟨some 44, .op (.bin .rem (.t 43) (kI .u64 1000)), none⟩,
  ⟨some 45, .op (.bin .add (kI .u64 1) (.t 44)), none⟩,
  ⟨some 46, .op (.iadrA 2 1 (.t 4) (kI .i64 1)), none⟩,
  ⟨some 47, .op (.load false 1 (.t 46)), none⟩,
  ⟨some 48, .op (.bin .rem (.t 47) (kI .u64 100)), none⟩,
  ⟨some 49, .op (.iadrA 2 1 (.t 4) (kI .i64 1)), none⟩,
  ⟨some 50, .op (.load false 1 (.t 49)), none⟩,
  ⟨some 51, .op (.bin .rem (.t 50) (kI .u64 7)), none⟩,
  ⟨some 52, .op (.conv .i64 (.t 51)), none⟩,
  ⟨some 53, .op (.bin .add (kI .i64 1) (.t 52)), none⟩,
  ⟨some 54, .call (kF F_count_New) [.t 41, .t 45, .t 48, .t 53], none⟩,
  ⟨some 37, .op (.mv (.t 54)), none⟩,
  ⟨some 55, .op (.ext (.t 37) 0), none⟩,
  ⟨some 56, .op (.ext (.t 37) 1), none⟩,
  ⟨some 9, .op (.alloc [.v (.int .u64 0), .v (.int .u64 0), .v (.int .i64 0), .v (.int .u64 0), .v (.int .u64 0), .sl true [], .v (.int .i64 0), .v (.int .i64 0), .sl true []]), none⟩,
  ⟨none, .op (.store 9 (.t 9) (.t 55)), none⟩,
  ⟨some 10, .op (.mv (.t 56)), none⟩])
 (.seq
 (.seq
 (.region [
  ⟨some 57, .op (.mv (.t 10)), none⟩,
  ⟨some 58, .op (.bin .neq (.t 57) (kI .i64 0)), none⟩])
 (.cond (.t 58)
 (.seq
 (.region [
  ⟨some 6, .op (.mv (kB false)), none⟩])
 .ret)
 .skip))
 (.seq
 (.seq
 (.region [
  ⟨some 11, .op (.mv (kI .i64 0)), none⟩])
 (.block 0
 (.loop acl_skylightlaw14_CountPlays_0)))
 (.seq
 (.region [
  ⟨some 123, .op (.mv (.t 7)), none⟩,
  ⟨some 124, .op (.mv (.t 123)), none⟩,
  ⟨some 125, .op (.load true 9 (.t 9)), some (124, true)⟩,
  ⟨some 126, .op (.load true 9 (.t 8)), some (124, true)⟩,
  ⟨some 127, .call (kF F_skylightlaw14_same) [.t 125, .t 126], some (124, true)⟩,
  ⟨some 128, .op (.pick (.t 124) (.t 127) (kB false)), none⟩,
  ⟨some 6, .op (.mv (.t 128)), none⟩])
 .ret)))))))
theorem fn_skylightlaw14_CountPlays : FnOk Try.prog F_skylightlaw14_CountPlays 129 ac_skylightlaw14_CountPlays [.t 6] :=
  ⟨[190, 189], Try.f3, Try.f3.body.getD .skip, Try.func3, by kernel_rfl, Try.ntmps3, by kernel_rfl, by kernel_rfl, Try.call3⟩
end Go.Abs
