/- The tally dump: the first environment of the tower: functions without a body, octet.big, slices.Sorted of maps.Keys' value. -/
import Derived.Test.YtkbninmkgjhfmaaGreatDoorDetSorted
import Derived.KernelRfl
import Derived.Shelf.SlIter.Nil
import Derived.Shelf.SortM.Plain
import Derived.Shelf.SortM.SortNone
import Derived.Ground.GgzProg
import Derived.Ground.SlgmProg
import Derived.Test.YtkbninmkgjhfmaaGreatDoorProg
set_option maxHeartbeats 400000
namespace Go.Proofs
open Go.RowKit Go.Maps Go.Sort Go.Shelf
def Tryz.keys328_ren : Go.Shelf.Ren := ⟨fun | 7 => 328 | 10 => 329 | n => n, fun | 23 => 154 | 26 => 9 | 3 => 9 | 28 => 83 | 0 => 0 | 27 => 82 | 33 => 95 | 4 => 4 | n => n, fun | n => n⟩
theorem Tryz.keys328 : Go.Proofs.SlLaysZ.n7 Tryz.prog Tryz.keys328_ren := {
  mixed := by kernel_rfl
  f7 := ⟨Tryz.f328.name, by decide, Tryz.func328.trans (congrArg some (by kernel_rfl))⟩
  f10 := ⟨Tryz.f329.name, by decide, Tryz.func329.trans (congrArg some (by kernel_rfl))⟩
  t0 := Tryz.underlying0
  a0 := Tryz.isAgg0
  z0 := Tryz.sizeOf0
  v0 := Tryz.zeroValue0
  t4 := Tryz.underlying4
  a4 := Tryz.isAgg4
  z4 := Tryz.sizeOf4
  v4 := Tryz.zeroValue4
  t23 := Tryz.underlying154
  a23 := Tryz.isAgg154
  z23 := Tryz.sizeOf154
  v23 := Tryz.zeroValue154
  t26 := Tryz.underlying9
  a26 := Tryz.isAgg9
  z26 := Tryz.sizeOf9
  v26 := Tryz.zeroValue9
  t27 := Tryz.underlying82
  a27 := Tryz.isAgg82
  z27 := Tryz.sizeOf82
  v27 := Tryz.zeroValue82
  t28 := Tryz.underlying83
  a28 := Tryz.isAgg83
  z28 := Tryz.sizeOf83
  v28 := Tryz.zeroValue83
  t33 := Tryz.underlying95
  a33 := Tryz.isAgg95
  z33 := Tryz.sizeOf95
  v33 := Tryz.zeroValue95 }
def Tryz.keys41_ren : Go.Shelf.Ren := ⟨fun | 7 => 41 | 10 => 54 | n => n, fun | 23 => 64 | 26 => 9 | 3 => 42 | 28 => 83 | 0 => 0 | 27 => 82 | 33 => 95 | 4 => 4 | n => n, fun | n => n⟩
theorem Tryz.keys41 : Go.Proofs.SlLaysZ.n7 Tryz.prog Tryz.keys41_ren := {
  mixed := by kernel_rfl
  f7 := ⟨Tryz.f41.name, by decide, Tryz.func41.trans (congrArg some (by kernel_rfl))⟩
  f10 := ⟨Tryz.f54.name, by decide, Tryz.func54.trans (congrArg some (by kernel_rfl))⟩
  t0 := Tryz.underlying0
  a0 := Tryz.isAgg0
  z0 := Tryz.sizeOf0
  v0 := Tryz.zeroValue0
  t4 := Tryz.underlying4
  a4 := Tryz.isAgg4
  z4 := Tryz.sizeOf4
  v4 := Tryz.zeroValue4
  t23 := Tryz.underlying64
  a23 := Tryz.isAgg64
  z23 := Tryz.sizeOf64
  v23 := Tryz.zeroValue64
  t26 := Tryz.underlying9
  a26 := Tryz.isAgg9
  z26 := Tryz.sizeOf9
  v26 := Tryz.zeroValue9
  t27 := Tryz.underlying82
  a27 := Tryz.isAgg82
  z27 := Tryz.sizeOf82
  v27 := Tryz.zeroValue82
  t28 := Tryz.underlying83
  a28 := Tryz.isAgg83
  z28 := Tryz.sizeOf83
  v28 := Tryz.zeroValue83
  t33 := Tryz.underlying95
  a33 := Tryz.isAgg95
  z33 := Tryz.sizeOf95
  v33 := Tryz.zeroValue95 }
def Tryz.sorted40_ren : Go.Shelf.Ren := ⟨fun | 6 => 40 | 8 => 52 | 9 => 53 | 11 => 66 | 13 => 65 | 12 => 67 | 23 => 104 | 24 => 32 | 14 => 105 | 15 => 106 | 16 => 107 | 17 => 108 | 18 => 109 | 19 => 110 | 20 => 111 | 21 => 112 | 22 => 113 | 25 => 166 | 26 => 161 | 27 => 162 | 28 => 167 | 29 => 168 | 30 => 169 | 31 => 221 | n => n, fun | 26 => 9 | 28 => 83 | 24 => 96 | 0 => 0 | 3 => 3 | 37 => 102 | 48 => 55 | 50 => 27 | 4 => 4 | 40 => 174 | 39 => 173 | 45 => 179 | 5 => 5 | 9 => 9 | 51 => 261 | 55 => 265 | 57 => 320 | 58 => 321 | 33 => 95 | n => n, fun | n => n⟩
theorem Tryz.sorted40 : Go.Proofs.SlLaysZ.n6 Tryz.prog Tryz.sorted40_ren := {
  mixed := by kernel_rfl
  f6 := ⟨Tryz.f40.name, by decide, Tryz.func40.trans (congrArg some (by kernel_rfl))⟩
  f8 := ⟨Tryz.f52.name, by decide, Tryz.func52.trans (congrArg some (by kernel_rfl))⟩
  f11 := ⟨Tryz.f66.name, by decide, Tryz.func66.trans (congrArg some (by kernel_rfl))⟩
  t0 := Tryz.underlying0
  a0 := Tryz.isAgg0
  z0 := Tryz.sizeOf0
  v0 := Tryz.zeroValue0
  t24 := Tryz.underlying96
  a24 := Tryz.isAgg96
  z24 := Tryz.sizeOf96
  v24 := Tryz.zeroValue96
  t26 := Tryz.underlying9
  a26 := Tryz.isAgg9
  z26 := Tryz.sizeOf9
  v26 := Tryz.zeroValue9
  t28 := Tryz.underlying83
  a28 := Tryz.isAgg83
  z28 := Tryz.sizeOf83
  v28 := Tryz.zeroValue83
  i26 := by kernel_rfl }
def Tryz.sort53_ren : Go.Shelf.Ren := ⟨fun | 6 => 53 | 8 => 65 | 9 => 67 | 19 => 104 | 20 => 32 | 21 => 105 | 22 => 106 | 23 => 107 | 24 => 108 | 25 => 109 | 26 => 110 | 27 => 111 | 28 => 112 | 29 => 113 | 36 => 166 | 31 => 161 | 32 => 162 | 37 => 167 | 38 => 168 | 39 => 169 | 41 => 221 | n => n, fun | 27 => 96 | 29 => 9 | 3 => 3 | 32 => 102 | 26 => 96 | 0 => 0 | 44 => 55 | 46 => 27 | 4 => 4 | 36 => 174 | 35 => 173 | 41 => 179 | 5 => 5 | 9 => 9 | 53 => 261 | 57 => 265 | 63 => 320 | 64 => 321 | n => n, fun | n => n⟩
theorem Tryz.sort53 : Go.Proofs.SlLaysM.n6 Tryz.prog Tryz.sort53_ren := {
  mixed := by kernel_rfl
  f6 := ⟨Tryz.f53.name, by decide, Tryz.func53.trans (congrArg some (by kernel_rfl))⟩
  f8 := Tryz.func65.trans (congrArg some (by kernel_rfl))
  f9 := ⟨Tryz.f67.name, by decide, Tryz.func67.trans (congrArg some (by kernel_rfl))⟩
  f19 := Tryz.func104.trans (congrArg some (by kernel_rfl))
  f20 := Tryz.func32.trans (congrArg some (by kernel_rfl))
  f21 := ⟨Tryz.f105.name, by decide, Tryz.func105.trans (congrArg some (by kernel_rfl))⟩
  f22 := ⟨Tryz.f106.name, by decide, Tryz.func106.trans (congrArg some (by kernel_rfl))⟩
  f23 := ⟨Tryz.f107.name, by decide, Tryz.func107.trans (congrArg some (by kernel_rfl))⟩
  f24 := ⟨Tryz.f108.name, by decide, Tryz.func108.trans (congrArg some (by kernel_rfl))⟩
  f25 := ⟨Tryz.f109.name, by decide, Tryz.func109.trans (congrArg some (by kernel_rfl))⟩
  f26 := ⟨Tryz.f110.name, by decide, Tryz.func110.trans (congrArg some (by kernel_rfl))⟩
  f27 := ⟨Tryz.f111.name, by decide, Tryz.func111.trans (congrArg some (by kernel_rfl))⟩
  f28 := ⟨Tryz.f112.name, by decide, Tryz.func112.trans (congrArg some (by kernel_rfl))⟩
  f29 := ⟨Tryz.f113.name, by decide, Tryz.func113.trans (congrArg some (by kernel_rfl))⟩
  f31 := Tryz.func161.trans (congrArg some (by kernel_rfl))
  f32 := Tryz.func162.trans (congrArg some (by kernel_rfl))
  f36 := ⟨Tryz.f166.name, by decide, Tryz.func166.trans (congrArg some (by kernel_rfl))⟩
  f37 := ⟨Tryz.f167.name, by decide, Tryz.func167.trans (congrArg some (by kernel_rfl))⟩
  f38 := ⟨Tryz.f168.name, by decide, Tryz.func168.trans (congrArg some (by kernel_rfl))⟩
  f39 := ⟨Tryz.f169.name, by decide, Tryz.func169.trans (congrArg some (by kernel_rfl))⟩
  f41 := ⟨Tryz.f221.name, by decide, Tryz.func221.trans (congrArg some (by kernel_rfl))⟩
  t0 := Tryz.underlying0
  a0 := Tryz.isAgg0
  z0 := Tryz.sizeOf0
  v0 := Tryz.zeroValue0
  t3 := Tryz.underlying3
  a3 := Tryz.isAgg3
  z3 := Tryz.sizeOf3
  v3 := Tryz.zeroValue3
  t4 := Tryz.underlying4
  a4 := Tryz.isAgg4
  z4 := Tryz.sizeOf4
  v4 := Tryz.zeroValue4
  t5 := Tryz.underlying5
  a5 := Tryz.isAgg5
  z5 := Tryz.sizeOf5
  v5 := Tryz.zeroValue5
  t9 := Tryz.underlying9
  a9 := Tryz.isAgg9
  z9 := Tryz.sizeOf9
  v9 := Tryz.zeroValue9
  t26 := Tryz.underlying96
  a26 := Tryz.isAgg96
  z26 := Tryz.sizeOf96
  v26 := Tryz.zeroValue96
  t27 := Tryz.underlying96
  a27 := Tryz.isAgg96
  z27 := Tryz.sizeOf96
  v27 := Tryz.zeroValue96
  t29 := Tryz.underlying9
  a29 := Tryz.isAgg9
  z29 := Tryz.sizeOf9
  v29 := Tryz.zeroValue9
  t32 := Tryz.underlying102
  a32 := Tryz.isAgg102
  z32 := Tryz.sizeOf102
  v32 := Tryz.zeroValue102
  t35 := Tryz.underlying173
  a35 := Tryz.isAgg173
  z35 := Tryz.sizeOf173
  v35 := Tryz.zeroValue173
  t36 := Tryz.underlying174
  a36 := Tryz.isAgg174
  z36 := Tryz.sizeOf174
  v36 := Tryz.zeroValue174
  t41 := Tryz.underlying179
  a41 := Tryz.isAgg179
  z41 := Tryz.sizeOf179
  v41 := Tryz.zeroValue179
  t44 := Tryz.underlying55
  a44 := Tryz.isAgg55
  z44 := Tryz.sizeOf55
  v44 := Tryz.zeroValue55
  t46 := Tryz.underlying27
  a46 := Tryz.isAgg27
  z46 := Tryz.sizeOf27
  v46 := Tryz.zeroValue27
  t53 := Tryz.underlying261
  a53 := Tryz.isAgg261
  z53 := Tryz.sizeOf261
  v53 := Tryz.zeroValue261
  t57 := Tryz.underlying265
  a57 := Tryz.isAgg265
  z57 := Tryz.sizeOf265
  v57 := Tryz.zeroValue265
  t63 := Tryz.underlying320
  a63 := Tryz.isAgg320
  z63 := Tryz.sizeOf320
  v63 := Tryz.zeroValue320
  t64 := Tryz.underlying321
  a64 := Tryz.isAgg321
  z64 := Tryz.sizeOf321
  v64 := Tryz.zeroValue321 }

theorem Tryz.sorts40 (m : Nat) : AnyZ.SortsIn Tryz.prog Tryz.sorted40_ren Fence.wide m :=
  ⟨fun blk off cap ss W hH hblk hsz => callsIn_wide.2 (AnyM.slices_Sort_string Tryz.sort53 blk off cap ss W hH hblk hsz),
   fun p cap W => callsIn_wide.2 (AnyM.slices_Sort_string_none Tryz.sort53 p cap W)⟩

theorem Tryz.sortedC : Det.SortedC Tryz.prog 40 329 9 := by
  intro c b nn D0 R w hc hcell hown hmax hbytes
  have hseq : SeqGives Fence.wide 2 Tryz.prog 329 #[.pointer (some ⟨c, 0, none⟩)] encStr (fun ss => ss.Perm (strKeys D0)) (Maps.size D0) w :=
    AnyZ.keys_gives (ρ := Tryz.keys328_ren) { Tryz.keys328 with } Fence.wide _ trivial rfl (by omega) c b nn D0 w hc hcell hown
  exact AnyZ.sorted_in Tryz.sorted40 Fence.wide 5 trivial trivial trivial trivial rfl (by omega) (Tryz.sorts40 _) (enters_of Tryz.func53 (by kernel_rfl) rfl) 329 #[.pointer (some ⟨c, 0, none⟩)] trivial (enters_of Tryz.func329 (by kernel_rfl) rfl) _ _ hmax hbytes _ hseq

end Go.Proofs
