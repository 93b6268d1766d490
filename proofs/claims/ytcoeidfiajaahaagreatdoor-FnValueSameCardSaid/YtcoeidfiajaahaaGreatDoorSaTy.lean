/- The closed facts of the types of Tryz. -/
import Derived.Test.YtcoeidfiajaahaaGreatDoorShM
import Derived.Test.YtcoeidfiajaahaaGreatDoorProg
namespace Go.Proofs.SA
open Go Go.Proofs Go.Proofs.Shadow
theorem mixed : Tryz.prog.follows .mixedOrders = true := by kernel_rfl
theorem tk3 : tk Tryz.prog 3 = some (false, 1) := by kernel_rfl
theorem tz3 : tz Tryz.prog 3 = some [(.int .i64 0)] := by kernel_rfl
theorem ik3 : ik Tryz.prog 3 = some .i64 := by kernel_rfl
theorem Kn6 : isB Tryz.prog 3 = false := by kernel_rfl
theorem Koa : isS Tryz.prog 3 = false := by kernel_rfl
theorem Klc : Qz2 Tryz.prog 3 = false := by kernel_rfl
theorem Kmq : Khp Tryz.prog 3 = true := by kernel_rfl
theorem Kn7 : isB Tryz.prog 4 = true := by kernel_rfl
theorem tk5 : tk Tryz.prog 5 = some (false, 1) := by kernel_rfl
theorem tz5 : tz Tryz.prog 5 = some [(.int .u8 0)] := by kernel_rfl
theorem ik5 : ik Tryz.prog 5 = some .u8 := by kernel_rfl
theorem Kn8 : isB Tryz.prog 5 = false := by kernel_rfl
theorem Kob : isS Tryz.prog 5 = false := by kernel_rfl
theorem Kld : Qz2 Tryz.prog 5 = false := by kernel_rfl
theorem Kmr : Khp Tryz.prog 5 = true := by kernel_rfl
theorem tk9 : tk Tryz.prog 9 = some (false, 1) := by kernel_rfl
theorem tz9 : tz Tryz.prog 9 = some [(.str (ByteArray.mk #[]))] := by kernel_rfl
theorem ik9 : ik Tryz.prog 9 = none := by kernel_rfl
theorem Kn9 : isB Tryz.prog 9 = false := by kernel_rfl
theorem Koc : isS Tryz.prog 9 = true := by kernel_rfl
theorem Kpc : tk Tryz.prog 22 = some (false, 1) := by kernel_rfl
theorem Ko2 : se Tryz.prog 22 = some (5, (1, 1)) := by kernel_rfl
theorem Kmv : isS Tryz.prog 22 = false := by kernel_rfl
theorem Kht : Qz2 Tryz.prog 22 = true := by kernel_rfl
theorem Kk3 : Khp Tryz.prog 22 = true := by kernel_rfl
theorem Kpd : tk Tryz.prog 23 = some (false, 1) := by kernel_rfl
theorem Ko3 : se Tryz.prog 23 = some (3, (1, 8)) := by kernel_rfl
theorem Kmw : isS Tryz.prog 23 = false := by kernel_rfl
theorem Kpe : tk Tryz.prog 24 = some (false, 1) := by kernel_rfl
theorem Ko4 : se Tryz.prog 24 = some (26, (5, 80)) := by kernel_rfl
theorem Kmx : isS Tryz.prog 24 = false := by kernel_rfl
theorem Kpf : tk Tryz.prog 26 = some (true, 5) := by kernel_rfl
theorem Kpp : tz Tryz.prog 26 = some [(.int .i64 0), (.str (ByteArray.mk #[])), (.int .i64 0), .Qab, .Qab] := by kernel_rfl
theorem Kmi : fps Tryz.prog 26 = some [(0, 1), (1, 1), (2, 1), (3, 1), (4, 1)] := by kernel_rfl
theorem Kj6 : fo Tryz.prog 26 0 = some 0 := by kernel_rfl
theorem Kj7 : fo Tryz.prog 26 1 = some 1 := by kernel_rfl
theorem Kj8 : fo Tryz.prog 26 2 = some 2 := by kernel_rfl
theorem Kj9 : fo Tryz.prog 26 3 = some 3 := by kernel_rfl
theorem Kka : fo Tryz.prog 26 4 = some 4 := by kernel_rfl
theorem Kpg : tk Tryz.prog 28 = some (false, 1) := by kernel_rfl
theorem Ko5 : se Tryz.prog 28 = some (34, (16, 248)) := by kernel_rfl
theorem Kmy : isS Tryz.prog 28 = false := by kernel_rfl
theorem Kph : tk Tryz.prog 29 = some (false, 1) := by kernel_rfl
theorem Ko6 : se Tryz.prog 29 = some (31, (11, 168)) := by kernel_rfl
theorem Kmz : isS Tryz.prog 29 = false := by kernel_rfl
theorem Kpi : tk Tryz.prog 31 = some (true, 11) := by kernel_rfl
theorem Kpq : tz Tryz.prog 31 = some [(.int .i64 0), (.int .i64 0), (.str (ByteArray.mk #[])), (.int .i64 0), .Qab, (.int .i64 0), (.str (ByteArray.mk #[])), (.int .i64 0), .Qab, .Qab, .Qab] := by kernel_rfl
theorem Kmj : fps Tryz.prog 31 = some [(0, 1), (1, 1), (2, 1), (3, 1), (4, 1), (5, 5), (10, 1)] := by kernel_rfl
theorem Kkb : fo Tryz.prog 31 0 = some 0 := by kernel_rfl
theorem Kkc : fo Tryz.prog 31 1 = some 1 := by kernel_rfl
theorem Kkd : fo Tryz.prog 31 2 = some 2 := by kernel_rfl
theorem Kke : fo Tryz.prog 31 3 = some 3 := by kernel_rfl
theorem Kkf : fo Tryz.prog 31 4 = some 4 := by kernel_rfl
theorem Kkg : fo Tryz.prog 31 5 = some 5 := by kernel_rfl
theorem Kkh : fo Tryz.prog 31 6 = some 10 := by kernel_rfl
theorem Kpj : tk Tryz.prog 32 = some (false, 1) := by kernel_rfl
theorem Ko7 : se Tryz.prog 32 = some (106, (17, 256)) := by kernel_rfl
theorem Km0 : isS Tryz.prog 32 = false := by kernel_rfl
theorem Kpk : tk Tryz.prog 34 = some (true, 16) := by kernel_rfl
theorem Kpr : tz Tryz.prog 34 = some [(.int .i64 0), (.int .i64 0), (.str (ByteArray.mk #[])), .Qab, (.int .i64 0), (.int .i64 0), (.str (ByteArray.mk #[])), (.int .i64 0), .Qab, (.int .i64 0), (.str (ByteArray.mk #[])), (.int .i64 0), .Qab, .Qab, .Qab, .Qab] := by kernel_rfl
theorem Kmk : fps Tryz.prog 34 = some [(0, 1), (1, 1), (2, 1), (3, 1), (4, 11), (15, 1)] := by kernel_rfl
theorem Kki : fo Tryz.prog 34 0 = some 0 := by kernel_rfl
theorem Kkj : fo Tryz.prog 34 1 = some 1 := by kernel_rfl
theorem Kkk : fo Tryz.prog 34 2 = some 2 := by kernel_rfl
theorem Kkl : fo Tryz.prog 34 3 = some 3 := by kernel_rfl
theorem Kkm : fo Tryz.prog 34 4 = some 4 := by kernel_rfl
theorem Kkn : fo Tryz.prog 34 5 = some 15 := by kernel_rfl
theorem Kpl : tk Tryz.prog 50 = some (false, 1) := by kernel_rfl
theorem Ko8 : se Tryz.prog 50 = some (85, (3, 48)) := by kernel_rfl
theorem Km1 : isS Tryz.prog 50 = false := by kernel_rfl
theorem Kpm : tk Tryz.prog 53 = some (false, 1) := by kernel_rfl
theorem Ko9 : se Tryz.prog 53 = some (62, (12, 192)) := by kernel_rfl
theorem Kps : tz Tryz.prog 53 = some [.Qab] := by kernel_rfl
theorem Km2 : isS Tryz.prog 53 = false := by kernel_rfl
theorem Kpn : tk Tryz.prog 62 = some (true, 12) := by kernel_rfl
theorem Kpt : tz Tryz.prog 62 = some [(.int .i64 0), (.str (ByteArray.mk #[])), (.int .i64 0), .Qab, .Qab, (.int .i64 0), (.int .i64 0), (.str (ByteArray.mk #[])), (.int .i64 0), .Qab, .Qab, .Qab] := by kernel_rfl
theorem Kml : fps Tryz.prog 62 = some [(0, 5), (5, 1), (6, 5), (11, 1)] := by kernel_rfl
theorem Kko : fo Tryz.prog 62 0 = some 0 := by kernel_rfl
theorem Kkp : fo Tryz.prog 62 1 = some 5 := by kernel_rfl
theorem Kkq : fo Tryz.prog 62 2 = some 6 := by kernel_rfl
theorem Kkr : fo Tryz.prog 62 3 = some 11 := by kernel_rfl
theorem Kpo : tk Tryz.prog 85 = some (true, 3) := by kernel_rfl
theorem Kpu : tz Tryz.prog 85 = some [(.str (ByteArray.mk #[])), .Qab, (.int .i64 0)] := by kernel_rfl
theorem Kmm : fps Tryz.prog 85 = some [(0, 1), (1, 1), (2, 1)] := by kernel_rfl
theorem Kks : fo Tryz.prog 85 0 = some 0 := by kernel_rfl
theorem Kkt : fo Tryz.prog 85 1 = some 1 := by kernel_rfl
theorem Kku : fo Tryz.prog 85 2 = some 2 := by kernel_rfl
theorem Knn : tz Tryz.prog 106 = some [(.int .i64 0), (.int .i64 0), (.int .i64 0), (.str (ByteArray.mk #[])), .Qab, (.int .i64 0), (.int .i64 0), (.str (ByteArray.mk #[])), (.int .i64 0), .Qab, (.int .i64 0), (.str (ByteArray.mk #[])), (.int .i64 0), .Qab, .Qab, .Qab, .Qab] := by kernel_rfl
theorem Kkv : fps Tryz.prog 106 = some [(0, 1), (1, 16)] := by kernel_rfl
theorem Kg7 : fo Tryz.prog 106 0 = some 0 := by kernel_rfl
theorem Kg8 : fo Tryz.prog 106 1 = some 1 := by kernel_rfl
theorem Kna : se Tryz.prog 108 = some (9, (1, 16)) := by kernel_rfl
theorem Kk8 : isS Tryz.prog 108 = false := by kernel_rfl
theorem Kno : tz Tryz.prog 122 = some [.Qab, (.int .i64 0)] := by kernel_rfl
theorem Kkw : fps Tryz.prog 122 = some [(0, 1), (1, 1)] := by kernel_rfl
theorem Kg9 : fo Tryz.prog 122 0 = some 0 := by kernel_rfl
theorem Kha : fo Tryz.prog 122 1 = some 1 := by kernel_rfl
theorem Knb : se Tryz.prog 182 = some (53, (1, 24)) := by kernel_rfl
theorem Kk9 : isS Tryz.prog 182 = false := by kernel_rfl
theorem Kni : tk Tryz.prog 201 = some (false, 1) := by kernel_rfl
theorem Knc : se Tryz.prog 201 = some (282, (3, 56)) := by kernel_rfl
theorem Kla : isS Tryz.prog 201 = false := by kernel_rfl
theorem Knj : tk Tryz.prog 203 = some (true, 5) := by kernel_rfl
theorem Knp : tz Tryz.prog 203 = some [.Qab, .Qab, (.int .i64 0), (.int .i64 0), (.int .i64 0)] := by kernel_rfl
theorem Kkx : fps Tryz.prog 203 = some [(0, 1), (1, 1), (2, 1), (3, 1), (4, 1)] := by kernel_rfl
theorem Khb : fo Tryz.prog 203 0 = some 0 := by kernel_rfl
theorem Khc : fo Tryz.prog 203 1 = some 1 := by kernel_rfl
theorem Khd : fo Tryz.prog 203 2 = some 2 := by kernel_rfl
theorem Khe : fo Tryz.prog 203 3 = some 3 := by kernel_rfl
theorem Khf : fo Tryz.prog 203 4 = some 4 := by kernel_rfl
theorem Knk : tk Tryz.prog 280 = some (false, 1) := by kernel_rfl
theorem Knd : se Tryz.prog 280 = some (319, (10, 160)) := by kernel_rfl
theorem Klb : isS Tryz.prog 280 = false := by kernel_rfl
theorem Knl : tk Tryz.prog 282 = some (true, 3) := by kernel_rfl
theorem Knq : tz Tryz.prog 282 = some [(.int .i64 0), .Qab, .Qab] := by kernel_rfl
theorem Kky : fps Tryz.prog 282 = some [(0, 1), (1, 1), (2, 1)] := by kernel_rfl
theorem Khg : fo Tryz.prog 282 0 = some 0 := by kernel_rfl
theorem Khh : fo Tryz.prog 282 1 = some 1 := by kernel_rfl
theorem Khi : fo Tryz.prog 282 2 = some 2 := by kernel_rfl
theorem Knm : tk Tryz.prog 319 = some (true, 10) := by kernel_rfl
theorem Knr : tz Tryz.prog 319 = some [(.int .i64 0), (.str (ByteArray.mk #[])), (.int .i64 0), .Qab, .Qab, (.int .i64 0), (.str (ByteArray.mk #[])), (.int .i64 0), .Qab, .Qab] := by kernel_rfl
theorem Kkz : fps Tryz.prog 319 = some [(0, 5), (5, 5)] := by kernel_rfl
theorem Khj : fo Tryz.prog 319 0 = some 0 := by kernel_rfl
theorem Khk : fo Tryz.prog 319 1 = some 5 := by kernel_rfl
attribute [go_sem] tk3 tz3 ik3 Kn6 Koa Klc Kmq Kn7 tk5 tz5 ik5 Kn8 Kob Kld Kmr
attribute [go_sem] tk9 tz9 ik9 Kn9 Koc
attribute [go_sem] Kpc Ko2 Kmv Kht Kk3 Kpd Ko3 Kmw Kpe Ko4 Kmx Kpf Kpp Kmi
attribute [go_sem] Kj6 Kj7 Kj8 Kj9 Kka Kpg Ko5 Kmy Kph Ko6 Kmz Kpi
attribute [go_sem] Kpq Kmj Kkb Kkc Kkd Kke Kkf Kkg Kkh Kpj Ko7 Km0 Kpk Kpr Kmk
attribute [go_sem] Kki Kkj Kkk Kkl Kkm Kkn
attribute [go_sem] Kpl Ko8 Km1 Kpm Ko9 Kps Km2
attribute [go_sem] Kpn Kpt Kml Kko Kkp Kkq Kkr
attribute [go_sem] Kpo Kpu Kmm Kks Kkt Kku
attribute [go_sem] Knn Kkv
attribute [go_sem] Kg7 Kg8 Kna Kk8
attribute [go_sem] Kno Kkw Kg9 Kha
attribute [go_sem] Knb Kk9
attribute [go_sem] Kni Knc Kla Knj Knp Kkx Khb Khc Khd
attribute [go_sem] Khe Khf
attribute [go_sem] Knk Knd Klb Knl Knq Kky Khg
attribute [go_sem] Khh Khi
attribute [go_sem] Knm Knr Kkz Khj Khk
end Go.Proofs.SA
