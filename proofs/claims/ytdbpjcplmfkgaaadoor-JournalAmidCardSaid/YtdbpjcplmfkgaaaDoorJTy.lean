/- What the program's table says of the types that the walks come to (printed by a program). -/
import Derived.Test.YtdbpjcplmfkgaaaDoorChecked
import Derived.Test.YtdbpjcplmfkgaaaDoorSlK
namespace Go.Sl
open Go Go.RowKit Go.Proofs
theorem mixed : Tryd.prog.follows .mixedOrders = true := by kernel_rfl
theorem ar_arr16_uint32 : arB Tryd.prog 127 = some (16, 1) := by kernel_rfl
theorem ar_disk_sector : arB Tryd.prog 82 = some (64, 1) := by kernel_rfl
theorem fa_disk_Disk_down : faB Tryd.prog 80 4 = some 4 := by kernel_rfl
theorem fa_disk_Disk_fuse : faB Tryd.prog 80 3 = some 3 := by kernel_rfl
theorem fa_disk_Disk_pending : faB Tryd.prog 80 2 = some 2 := by kernel_rfl
theorem fa_disk_Disk_seen : faB Tryd.prog 80 0 = some 0 := by kernel_rfl
theorem fa_disk_Disk_sure : faB Tryd.prog 80 1 = some 1 := by kernel_rfl
theorem fa_disk_write_b : faB Tryd.prog 84 1 = some 1 := by kernel_rfl
theorem fa_disk_write_i : faB Tryd.prog 84 0 = some 0 := by kernel_rfl
theorem fa_journal_Journal_at : faB Tryd.prog 68 1 = some 1 := by kernel_rfl
theorem fa_journal_Journal_d : faB Tryd.prog 68 0 = some 0 := by kernel_rfl
theorem fa_journal_Journal_epoch : faB Tryd.prog 68 4 = some 4 := by kernel_rfl
theorem fa_journal_Journal_first : faB Tryd.prog 68 3 = some 3 := by kernel_rfl
theorem fa_journal_Journal_held : faB Tryd.prog 68 6 = some 6 := by kernel_rfl
theorem fa_journal_Journal_low : faB Tryd.prog 68 5 = some 5 := by kernel_rfl
theorem fa_journal_Journal_n : faB Tryd.prog 68 2 = some 2 := by kernel_rfl
theorem fa_journal_record_b : faB Tryd.prog 70 1 = some 1 := by kernel_rfl
theorem fa_journal_record_epoch : faB Tryd.prog 70 0 = some 0 := by kernel_rfl
theorem fa_pack_Reader_b : faB Tryd.prog 131 0 = some 0 := by kernel_rfl
theorem fa_pack_Reader_shut : faB Tryd.prog 131 1 = some 1 := by kernel_rfl
theorem fa_pack_Writer_b : faB Tryd.prog 105 0 = some 0 := by kernel_rfl
theorem fa_pursuivantlaw06_Op_B : faB Tryd.prog 43 2 = some 2 := by kernel_rfl
theorem fa_pursuivantlaw06_Op_Do : faB Tryd.prog 43 0 = some 0 := by kernel_rfl
theorem fa_pursuivantlaw06_Op_N : faB Tryd.prog 43 1 = some 1 := by kernel_rfl
theorem fa_pursuivantlaw06_Op_Picks : faB Tryd.prog 43 3 = some 3 := by kernel_rfl
theorem fa_slot_record_at : faB Tryd.prog 115 0 = some 0 := by kernel_rfl
theorem fa_slot_record_b : faB Tryd.prog 115 2 = some 2 := by kernel_rfl
theorem fa_slot_record_seq : faB Tryd.prog 115 1 = some 1 := by kernel_rfl
theorem in_int : intB Tryd.prog 3 = some .i64 := by kernel_rfl
theorem in_uint32 : intB Tryd.prog 65 = some .u32 := by kernel_rfl
theorem in_uint64 : intB Tryd.prog 55 = some .u64 := by kernel_rfl
theorem in_uint8 : intB Tryd.prog 5 = some .u8 := by kernel_rfl
theorem ld_bool : ldB Tryd.prog 4 = some none := by kernel_rfl
theorem ld_disk_sector : ldB Tryd.prog 82 = some (some 64) := by kernel_rfl
theorem ld_disk_write : ldB Tryd.prog 84 = some (some 65) := by kernel_rfl
theorem ld_int : ldB Tryd.prog 3 = some none := by kernel_rfl
theorem ld_journal_record : ldB Tryd.prog 70 = some (some 2) := by kernel_rfl
theorem ld_ptr_disk_Disk : ldB Tryd.prog 26 = some none := by kernel_rfl
theorem ld_sl_disk_sector : ldB Tryd.prog 77 = some none := by kernel_rfl
theorem ld_sl_disk_write : ldB Tryd.prog 78 = some none := by kernel_rfl
theorem ld_sl_int : ldB Tryd.prog 24 = some none := by kernel_rfl
theorem ld_sl_journal_record : ldB Tryd.prog 66 = some none := by kernel_rfl
theorem ld_sl_uint8 : ldB Tryd.prog 33 = some none := by kernel_rfl
theorem ld_slot_record : ldB Tryd.prog 115 = some (some 3) := by kernel_rfl
theorem ld_uint32 : ldB Tryd.prog 65 = some none := by kernel_rfl
theorem ld_uint8 : ldB Tryd.prog 5 = some none := by kernel_rfl
theorem mk_sl_disk_sector : mkB Tryd.prog 77 = some ((List.replicate 64 (.int .u8 0)), 64) := by kernel_rfl
theorem mk_sl_disk_write : mkB Tryd.prog 78 = some (([.int .i64 0] ++ List.replicate 64 (.int .u8 0)), 72) := by kernel_rfl
theorem mk_sl_int : mkB Tryd.prog 24 = some ([.int .i64 0], 8) := by kernel_rfl
theorem mk_sl_journal_record : mkB Tryd.prog 66 = some ([.int .u32 0, .slice none 0 0], 32) := by kernel_rfl
theorem mk_sl_sl_uint8 : mkB Tryd.prog 23 = some ([.slice none 0 0], 24) := by kernel_rfl
theorem mk_sl_uint8 : mkB Tryd.prog 33 = some ([.int .u8 0], 1) := by kernel_rfl
theorem pl_disk_Disk : plB Tryd.prog 80 = some ([.slice none 0 0, .slice none 0 0, .slice none 0 0, .int .i64 0, .bool false], [(0, 1), (1, 1), (2, 1), (3, 1), (4, 1)]) := by kernel_rfl
theorem pl_disk_write : plB Tryd.prog 84 = some (([.int .i64 0] ++ List.replicate 64 (.int .u8 0)), [(0, 1), (1, 64)]) := by kernel_rfl
theorem pl_journal_Journal : plB Tryd.prog 68 = some ([.pointer none, .int .i64 0, .int .i64 0, .int .u32 0, .int .u32 0, .int .u32 0, .slice none 0 0], [(0, 1), (1, 1), (2, 1), (3, 1), (4, 1), (5, 1), (6, 1)]) := by kernel_rfl
theorem pl_journal_record : plB Tryd.prog 70 = some ([.int .u32 0, .slice none 0 0], [(0, 1), (1, 1)]) := by kernel_rfl
theorem pl_pack_Reader : plB Tryd.prog 131 = some ([.slice none 0 0, .bool false], [(0, 1), (1, 1)]) := by kernel_rfl
theorem pl_slot_record : plB Tryd.prog 115 = some ([.int .i64 0, .int .u32 0, .slice none 0 0], [(0, 1), (1, 1), (2, 1)]) := by kernel_rfl
theorem sl_sl_disk_sector : slB Tryd.prog 77 = some (82, 64) := by kernel_rfl
theorem sl_sl_disk_write : slB Tryd.prog 78 = some (84, 65) := by kernel_rfl
theorem sl_sl_int : slB Tryd.prog 24 = some (3, 1) := by kernel_rfl
theorem sl_sl_journal_record : slB Tryd.prog 66 = some (70, 2) := by kernel_rfl
theorem sl_sl_pursuivantlaw06_Op : slB Tryd.prog 22 = some (43, 4) := by kernel_rfl
theorem sl_sl_sl_uint8 : slB Tryd.prog 23 = some (33, 1) := by kernel_rfl
theorem sl_sl_uint8 : slB Tryd.prog 33 = some (5, 1) := by kernel_rfl
theorem sz_bool : szB Tryd.prog 4 = some 1 := by kernel_rfl
theorem sz_disk_sector : szB Tryd.prog 82 = some 64 := by kernel_rfl
theorem sz_disk_write : szB Tryd.prog 84 = some 65 := by kernel_rfl
theorem sz_int : szB Tryd.prog 3 = some 1 := by kernel_rfl
theorem sz_journal_record : szB Tryd.prog 70 = some 2 := by kernel_rfl
theorem sz_sl_disk_sector : szB Tryd.prog 77 = some 1 := by kernel_rfl
theorem sz_sl_disk_write : szB Tryd.prog 78 = some 1 := by kernel_rfl
theorem sz_sl_journal_record : szB Tryd.prog 66 = some 1 := by kernel_rfl
theorem sz_sl_uint8 : szB Tryd.prog 33 = some 1 := by kernel_rfl
theorem sz_slot_record : szB Tryd.prog 115 = some 3 := by kernel_rfl
theorem sz_uint32 : szB Tryd.prog 65 = some 1 := by kernel_rfl
theorem un_int : Tryd.prog.underlying 3 = some (.int .i64) := by kernel_rfl
theorem un_ptr_disk_Disk : Tryd.prog.underlying 26 = some (.pointer 80) := by kernel_rfl
theorem un_ptr_journal_Journal : Tryd.prog.underlying 27 = some (.pointer 68) := by kernel_rfl
theorem un_sl_disk_sector : Tryd.prog.underlying 77 = some (.slice 82) := by kernel_rfl
theorem un_sl_disk_write : Tryd.prog.underlying 78 = some (.slice 84) := by kernel_rfl
theorem un_sl_int : Tryd.prog.underlying 24 = some (.slice 3) := by kernel_rfl
theorem un_sl_journal_record : Tryd.prog.underlying 66 = some (.slice 70) := by kernel_rfl
theorem un_sl_pursuivantlaw06_Op : Tryd.prog.underlying 22 = some (.slice 43) := by kernel_rfl
theorem un_sl_sl_uint8 : Tryd.prog.underlying 23 = some (.slice 33) := by kernel_rfl
theorem un_sl_uint8 : Tryd.prog.underlying 33 = some (.slice 5) := by kernel_rfl
theorem un_string : Tryd.prog.underlying 9 = some .string := by kernel_rfl
theorem un_uint8 : Tryd.prog.underlying 5 = some (.int .u8) := by kernel_rfl
theorem zl_disk_write : zL Tryd.prog 84 = some ([.int .i64 0] ++ List.replicate 64 (.int .u8 0)) := by kernel_rfl
theorem zl_journal_record : zL Tryd.prog 70 = some [.int .u32 0, .slice none 0 0] := by kernel_rfl
theorem zl_pack_Writer : zL Tryd.prog 105 = some [.slice none 0 0] := by kernel_rfl
theorem zl_slot_record : zL Tryd.prog 115 = some [.int .i64 0, .int .u32 0, .slice none 0 0] := by kernel_rfl
end Go.Sl
