/- What the program's table says of the types that the walks come to (printed by a program). -/
import Derived.Test.YtpipmojaonialaaChecked
import Derived.Test.YtpipmojaonialaaSlK
namespace Go.Sl
open Go Go.RowKit Go.Proofs
theorem mixed : Try.prog.follows .mixedOrders = true := by kernel_rfl
theorem ar_arr16_uint64 : arB Try.prog 62 = some (16, 1) := by kernel_rfl
theorem fa_api_Entry_Data : faB Try.prog 88 2 = some 2 := by kernel_rfl
theorem fa_api_Entry_Kind : faB Try.prog 88 1 = some 1 := by kernel_rfl
theorem fa_api_Entry_Term : faB Try.prog 88 0 = some 0 := by kernel_rfl
theorem fa_api_Msg_Commit : faB Try.prog 44 6 = some 6 := by kernel_rfl
theorem fa_api_Msg_Data : faB Try.prog 44 8 = some 8 := by kernel_rfl
theorem fa_api_Msg_Entries : faB Try.prog 44 9 = some 9 := by kernel_rfl
theorem fa_api_Msg_From : faB Try.prog 44 1 = some 1 := by kernel_rfl
theorem fa_api_Msg_Index : faB Try.prog 44 4 = some 4 := by kernel_rfl
theorem fa_api_Msg_Kind : faB Try.prog 44 0 = some 0 := by kernel_rfl
theorem fa_api_Msg_OK : faB Try.prog 44 7 = some 7 := by kernel_rfl
theorem fa_api_Msg_Prev : faB Try.prog 44 5 = some 5 := by kernel_rfl
theorem fa_api_Msg_Term : faB Try.prog 44 3 = some 3 := by kernel_rfl
theorem fa_api_Msg_To : faB Try.prog 44 2 = some 2 := by kernel_rfl
theorem fa_elect_Node_Commit : faB Try.prog 49 7 = some 7 := by kernel_rfl
theorem fa_elect_Node_Conf : faB Try.prog 49 4 = some 4 := by kernel_rfl
theorem fa_elect_Node_Heard : faB Try.prog 49 9 = some 11 := by kernel_rfl
theorem fa_elect_Node_Lead : faB Try.prog 49 3 = some 3 := by kernel_rfl
theorem fa_elect_Node_Log : faB Try.prog 49 8 = some 8 := by kernel_rfl
theorem fa_elect_Node_Match : faB Try.prog 49 11 = some 13 := by kernel_rfl
theorem fa_elect_Node_Me : faB Try.prog 49 0 = some 0 := by kernel_rfl
theorem fa_elect_Node_Next : faB Try.prog 49 10 = some 12 := by kernel_rfl
theorem fa_elect_Node_Role : faB Try.prog 49 2 = some 2 := by kernel_rfl
theorem fa_elect_Node_Term : faB Try.prog 49 6 = some 6 := by kernel_rfl
theorem fa_elect_Node_Vote : faB Try.prog 49 1 = some 1 := by kernel_rfl
theorem fa_elect_Node_Yes : faB Try.prog 49 5 = some 5 := by kernel_rfl
theorem fa_pursuivantlaw11_Op_Do : faB Try.prog 55 0 = some 0 := by kernel_rfl
theorem fa_pursuivantlaw11_Op_K : faB Try.prog 55 1 = some 1 := by kernel_rfl
theorem fa_pursuivantlaw11_group_leads : faB Try.prog 58 3 = some 3 := by kernel_rfl
theorem fa_pursuivantlaw11_group_msgs : faB Try.prog 58 1 = some 1 := by kernel_rfl
theorem fa_pursuivantlaw11_group_nodes : faB Try.prog 58 0 = some 0 := by kernel_rfl
theorem fa_pursuivantlaw11_group_terms : faB Try.prog 58 2 = some 2 := by kernel_rfl
theorem fa_pursuivantref09_Log_Base : faB Try.prog 61 0 = some 0 := by kernel_rfl
theorem fa_pursuivantref09_Log_BaseTerm : faB Try.prog 61 1 = some 1 := by kernel_rfl
theorem fa_pursuivantref09_Log_Entries : faB Try.prog 61 2 = some 2 := by kernel_rfl
theorem fa_pursuivantref11_Node_Commit : faB Try.prog 64 7 = some 7 := by kernel_rfl
theorem fa_pursuivantref11_Node_Conf : faB Try.prog 64 4 = some 4 := by kernel_rfl
theorem fa_pursuivantref11_Node_Heard : faB Try.prog 64 9 = some 11 := by kernel_rfl
theorem fa_pursuivantref11_Node_Lead : faB Try.prog 64 3 = some 3 := by kernel_rfl
theorem fa_pursuivantref11_Node_Log : faB Try.prog 64 8 = some 8 := by kernel_rfl
theorem fa_pursuivantref11_Node_Match : faB Try.prog 64 11 = some 28 := by kernel_rfl
theorem fa_pursuivantref11_Node_Me : faB Try.prog 64 0 = some 0 := by kernel_rfl
theorem fa_pursuivantref11_Node_Next : faB Try.prog 64 10 = some 12 := by kernel_rfl
theorem fa_pursuivantref11_Node_Role : faB Try.prog 64 2 = some 2 := by kernel_rfl
theorem fa_pursuivantref11_Node_Term : faB Try.prog 64 6 = some 6 := by kernel_rfl
theorem fa_pursuivantref11_Node_Vote : faB Try.prog 64 1 = some 1 := by kernel_rfl
theorem fa_pursuivantref11_Node_Yes : faB Try.prog 64 5 = some 5 := by kernel_rfl
theorem fa_terms_Log_Base : faB Try.prog 26 0 = some 0 := by kernel_rfl
theorem fa_terms_Log_BaseTerm : faB Try.prog 26 1 = some 1 := by kernel_rfl
theorem fa_terms_Log_Entries : faB Try.prog 26 2 = some 2 := by kernel_rfl
theorem in_int : intB Try.prog 3 = some .i64 := by kernel_rfl
theorem in_uint64 : intB Try.prog 23 = some .u64 := by kernel_rfl
theorem ld_api_Entry : ldB Try.prog 88 = some (some 3) := by kernel_rfl
theorem ld_api_Msg : ldB Try.prog 44 = some (some 10) := by kernel_rfl
theorem ld_arr16_uint64 : ldB Try.prog 62 = some (some 16) := by kernel_rfl
theorem ld_bool : ldB Try.prog 4 = some none := by kernel_rfl
theorem ld_int : ldB Try.prog 3 = some none := by kernel_rfl
theorem ld_ptr_elect_Node : ldB Try.prog 28 = some none := by kernel_rfl
theorem ld_pursuivantref09_Log : ldB Try.prog 61 = some (some 3) := by kernel_rfl
theorem ld_sl_api_Entry : ldB Try.prog 24 = some none := by kernel_rfl
theorem ld_sl_api_Msg : ldB Try.prog 33 = some none := by kernel_rfl
theorem ld_sl_int : ldB Try.prog 22 = some none := by kernel_rfl
theorem ld_sl_ptr_elect_Node : ldB Try.prog 56 = some none := by kernel_rfl
theorem ld_sl_uint64 : ldB Try.prog 47 = some none := by kernel_rfl
theorem ld_sl_uint8 : ldB Try.prog 42 = some none := by kernel_rfl
theorem ld_terms_Log : ldB Try.prog 26 = some (some 3) := by kernel_rfl
theorem ld_uint64 : ldB Try.prog 23 = some none := by kernel_rfl
theorem ld_uint8 : ldB Try.prog 5 = some none := by kernel_rfl
theorem mk_sl_api_Entry : mkB Try.prog 24 = some ([.int .u64 0, .int .i64 0, .slice none 0 0], 40) := by kernel_rfl
theorem mk_sl_api_Msg : mkB Try.prog 33 = some ([.int .i64 0, .int .i64 0, .int .i64 0, .int .u64 0, .int .u64 0, .int .u64 0, .int .u64 0, .bool false, .slice none 0 0, .slice none 0 0], 112) := by kernel_rfl
theorem mk_sl_int : mkB Try.prog 22 = some ([.int .i64 0], 8) := by kernel_rfl
theorem mk_sl_ptr_elect_Node : mkB Try.prog 56 = some ([.pointer none], 8) := by kernel_rfl
theorem mk_sl_uint64 : mkB Try.prog 47 = some ([.int .u64 0], 8) := by kernel_rfl
theorem pl_api_Entry : plB Try.prog 88 = some ([.int .u64 0, .int .i64 0, .slice none 0 0], [(0, 1), (1, 1), (2, 1)]) := by kernel_rfl
theorem pl_api_Msg : plB Try.prog 44 = some ([.int .i64 0, .int .i64 0, .int .i64 0, .int .u64 0, .int .u64 0, .int .u64 0, .int .u64 0, .bool false, .slice none 0 0, .slice none 0 0], [(0, 1), (1, 1), (2, 1), (3, 1), (4, 1), (5, 1), (6, 1), (7, 1), (8, 1), (9, 1)]) := by kernel_rfl
theorem pl_elect_Node : plB Try.prog 49 = some ([.int .i64 0, .int .i64 0, .int .i64 0, .int .i64 0, .slice none 0 0, .slice none 0 0, .int .u64 0, .int .u64 0, .int .u64 0, .int .u64 0, .slice none 0 0, .bool false, .slice none 0 0, .slice none 0 0], [(0, 1), (1, 1), (2, 1), (3, 1), (4, 1), (5, 1), (6, 1), (7, 1), (8, 3), (11, 1), (12, 1), (13, 1)]) := by kernel_rfl
theorem pl_pursuivantlaw11_Op : plB Try.prog 55 = some ([.int .i64 0, .int .i64 0], [(0, 1), (1, 1)]) := by kernel_rfl
theorem pl_pursuivantlaw11_group : plB Try.prog 58 = some ([.slice none 0 0, .slice none 0 0, .slice none 0 0, .slice none 0 0], [(0, 1), (1, 1), (2, 1), (3, 1)]) := by kernel_rfl
theorem pl_pursuivantref09_Log : plB Try.prog 61 = some ([.int .u64 0, .int .u64 0, .slice none 0 0], [(0, 1), (1, 1), (2, 1)]) := by kernel_rfl
theorem pl_pursuivantref11_Node : plB Try.prog 64 = some ([.int .i64 0, .int .i64 0, .int .i64 0, .int .i64 0, .slice none 0 0, .slice none 0 0, .int .u64 0, .int .u64 0, .int .u64 0, .int .u64 0, .slice none 0 0, .bool false, .int .u64 0, .int .u64 0, .int .u64 0, .int .u64 0, .int .u64 0, .int .u64 0, .int .u64 0, .int .u64 0, .int .u64 0, .int .u64 0, .int .u64 0, .int .u64 0, .int .u64 0, .int .u64 0, .int .u64 0, .int .u64 0, .int .u64 0, .int .u64 0, .int .u64 0, .int .u64 0, .int .u64 0, .int .u64 0, .int .u64 0, .int .u64 0, .int .u64 0, .int .u64 0, .int .u64 0, .int .u64 0, .int .u64 0, .int .u64 0, .int .u64 0, .int .u64 0], [(0, 1), (1, 1), (2, 1), (3, 1), (4, 1), (5, 1), (6, 1), (7, 1), (8, 3), (11, 1), (12, 16), (28, 16)]) := by kernel_rfl
theorem pl_terms_Log : plB Try.prog 26 = some ([.int .u64 0, .int .u64 0, .slice none 0 0], [(0, 1), (1, 1), (2, 1)]) := by kernel_rfl
theorem sl_sl_api_Entry : slB Try.prog 24 = some (88, 3) := by kernel_rfl
theorem sl_sl_api_Msg : slB Try.prog 33 = some (44, 10) := by kernel_rfl
theorem sl_sl_int : slB Try.prog 22 = some (3, 1) := by kernel_rfl
theorem sl_sl_ptr_elect_Node : slB Try.prog 56 = some (28, 1) := by kernel_rfl
theorem sl_sl_uint64 : slB Try.prog 47 = some (23, 1) := by kernel_rfl
theorem sl_sl_uint8 : slB Try.prog 42 = some (5, 1) := by kernel_rfl
theorem sz_api_Entry : szB Try.prog 88 = some 3 := by kernel_rfl
theorem sz_api_Msg : szB Try.prog 44 = some 10 := by kernel_rfl
theorem sz_bool : szB Try.prog 4 = some 1 := by kernel_rfl
theorem sz_int : szB Try.prog 3 = some 1 := by kernel_rfl
theorem sz_pursuivantref09_Log : szB Try.prog 61 = some 3 := by kernel_rfl
theorem sz_sl_api_Entry : szB Try.prog 24 = some 1 := by kernel_rfl
theorem sz_sl_api_Msg : szB Try.prog 33 = some 1 := by kernel_rfl
theorem sz_sl_int : szB Try.prog 22 = some 1 := by kernel_rfl
theorem sz_sl_ptr_elect_Node : szB Try.prog 56 = some 1 := by kernel_rfl
theorem sz_sl_uint64 : szB Try.prog 47 = some 1 := by kernel_rfl
theorem sz_terms_Log : szB Try.prog 26 = some 3 := by kernel_rfl
theorem sz_uint64 : szB Try.prog 23 = some 1 := by kernel_rfl
theorem un_bool : Try.prog.underlying 4 = some .bool := by kernel_rfl
theorem un_ptr_elect_Node : Try.prog.underlying 28 = some (.pointer 49) := by kernel_rfl
theorem un_ptr_pursuivantlaw11_group : Try.prog.underlying 51 = some (.pointer 58) := by kernel_rfl
theorem un_ptr_pursuivantref11_Node : Try.prog.underlying 29 = some (.pointer 64) := by kernel_rfl
theorem un_sl_api_Entry : Try.prog.underlying 24 = some (.slice 88) := by kernel_rfl
theorem un_sl_api_Msg : Try.prog.underlying 33 = some (.slice 44) := by kernel_rfl
theorem un_sl_int : Try.prog.underlying 22 = some (.slice 3) := by kernel_rfl
theorem un_sl_ptr_elect_Node : Try.prog.underlying 56 = some (.slice 28) := by kernel_rfl
theorem un_sl_sl_uint64 : Try.prog.underlying 78 = some (.slice 47) := by kernel_rfl
theorem un_sl_uint64 : Try.prog.underlying 47 = some (.slice 23) := by kernel_rfl
theorem un_sl_uint8 : Try.prog.underlying 42 = some (.slice 5) := by kernel_rfl
theorem zl_api_Entry : zL Try.prog 88 = some [.int .u64 0, .int .i64 0, .slice none 0 0] := by kernel_rfl
theorem zl_api_Msg : zL Try.prog 44 = some [.int .i64 0, .int .i64 0, .int .i64 0, .int .u64 0, .int .u64 0, .int .u64 0, .int .u64 0, .bool false, .slice none 0 0, .slice none 0 0] := by kernel_rfl
theorem zl_pursuivantref09_Log : zL Try.prog 61 = some [.int .u64 0, .int .u64 0, .slice none 0 0] := by kernel_rfl
theorem zl_terms_Log : zL Try.prog 26 = some [.int .u64 0, .int .u64 0, .slice none 0 0] := by kernel_rfl
end Go.Sl
