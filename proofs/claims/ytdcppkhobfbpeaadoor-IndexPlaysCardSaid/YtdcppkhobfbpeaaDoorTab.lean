/-
  The table of the functions.
-/
import Derived.Test.YtdcppkhobfbpeaaDoorAmN
import Derived.Test.YtdcppkhobfbpeaaDoorIr0
import Derived.Test.YtdcppkhobfbpeaaDoorIr1
set_option linter.unusedVariables false
namespace Go.Am.YtdcppkhobfbpeaaDoor
open Go Go.Am Go.Proofs

/-- The table. -/
def T : FuncId → Option IFun
  | 3 => some ir3
  | 4 => some ir4
  | 5 => some ir5
  | 6 => some ir6
  | 7 => some ir7
  | 8 => some ir8
  | 9 => some ir9
  | 10 => some ir10
  | 11 => some ir11
  | 12 => some ir12
  | 13 => some ir13
  | 14 => some ir14
  | 15 => some ir15
  | 16 => some ir16
  | 17 => some ir17
  | 18 => some ir18
  | 19 => some ir19
  | 20 => some ir20
  | 21 => some ir21
  | 22 => some ir22
  | 23 => some ir23
  | 24 => some ir24
  | 25 => some ir25
  | 26 => some ir26
  | 27 => some ir27
  | 28 => some ir28
  | 29 => some ir29
  | 30 => some ir30
  | 31 => some ir31
  | 32 => some ir32
  | 33 => some ir33
  | 34 => some ir34
  | 35 => some ir35
  | 36 => some ir36
  | 37 => some ir37
  | 38 => some ir38
  | 39 => some ir39
  | 40 => some ir40
  | 41 => some ir41
  | 42 => some ir42
  | 43 => some ir43
  | 44 => some ir44
  | 45 => some ir45
  | 46 => some ir46
  | 47 => some ir47
  | 48 => some ir48
  | 49 => some ir49
  | 50 => some ir50
  | 51 => some ir51
  | 52 => some ir52
  | 53 => some ir53
  | 54 => some ir54
  | 55 => some ir55
  | 56 => some ir56
  | 57 => some ir57
  | 58 => some ir58
  | 59 => some ir59
  | 60 => some ir60
  | 61 => some ir61
  | 62 => some ir62
  | 63 => some ir63
  | 64 => some ir64
  | 65 => some ir65
  | 66 => some ir66
  | 67 => some ir67
  | 68 => some ir68
  | 69 => some ir69
  | 70 => some ir70
  | 71 => some ir71
  | 72 => some ir72
  | 73 => some ir73
  | 74 => some ir74
  | 75 => some ir75
  | 76 => some ir76
  | 77 => some ir77
  | 78 => some ir78
  | 79 => some ir79
  | 80 => some ir80
  | 81 => some ir81
  | 82 => some ir82
  | 83 => some ir83
  | 84 => some ir84
  | 85 => some ir85
  | 86 => some ir86
  | 87 => some ir87
  | 88 => some ir88
  | 89 => some ir89
  | 90 => some ir90
  | 91 => some ir91
  | 92 => some ir92
  | _ => none

theorem tab : TabOK Tryd.prog T := by
  intro f fn h
  unfold T at h
  split at h
  · cases h; exact ⟨Tryd.f3, Tryd.func3, ir3_ok, by kernel_rfl⟩
  · cases h; exact ⟨Tryd.f4, Tryd.func4, ir4_ok, by kernel_rfl⟩
  · cases h; exact ⟨Tryd.f5, Tryd.func5, ir5_ok, by kernel_rfl⟩
  · cases h; exact ⟨Tryd.f6, Tryd.func6, ir6_ok, by kernel_rfl⟩
  · cases h; exact ⟨Tryd.f7, Tryd.func7, ir7_ok, by kernel_rfl⟩
  · cases h; exact ⟨Tryd.f8, Tryd.func8, ir8_ok, by kernel_rfl⟩
  · cases h; exact ⟨Tryd.f9, Tryd.func9, ir9_ok, by kernel_rfl⟩
  · cases h; exact ⟨Tryd.f10, Tryd.func10, ir10_ok, by kernel_rfl⟩
  · cases h; exact ⟨Tryd.f11, Tryd.func11, ir11_ok, by kernel_rfl⟩
  · cases h; exact ⟨Tryd.f12, Tryd.func12, ir12_ok, by kernel_rfl⟩
  · cases h; exact ⟨Tryd.f13, Tryd.func13, ir13_ok, by kernel_rfl⟩
  · cases h; exact ⟨Tryd.f14, Tryd.func14, ir14_ok, by kernel_rfl⟩
  · cases h; exact ⟨Tryd.f15, Tryd.func15, ir15_ok, by kernel_rfl⟩
  · cases h; exact ⟨Tryd.f16, Tryd.func16, ir16_ok, by kernel_rfl⟩
  · cases h; exact ⟨Tryd.f17, Tryd.func17, ir17_ok, by kernel_rfl⟩
  · cases h; exact ⟨Tryd.f18, Tryd.func18, ir18_ok, by kernel_rfl⟩
  · cases h; exact ⟨Tryd.f19, Tryd.func19, ir19_ok, by kernel_rfl⟩
  · cases h; exact ⟨Tryd.f20, Tryd.func20, ir20_ok, by kernel_rfl⟩
  · cases h; exact ⟨Tryd.f21, Tryd.func21, ir21_ok, by kernel_rfl⟩
  · cases h; exact ⟨Tryd.f22, Tryd.func22, ir22_ok, by kernel_rfl⟩
  · cases h; exact ⟨Tryd.f23, Tryd.func23, ir23_ok, by kernel_rfl⟩
  · cases h; exact ⟨Tryd.f24, Tryd.func24, ir24_ok, by kernel_rfl⟩
  · cases h; exact ⟨Tryd.f25, Tryd.func25, ir25_ok, by kernel_rfl⟩
  · cases h; exact ⟨Tryd.f26, Tryd.func26, ir26_ok, by kernel_rfl⟩
  · cases h; exact ⟨Tryd.f27, Tryd.func27, ir27_ok, by kernel_rfl⟩
  · cases h; exact ⟨Tryd.f28, Tryd.func28, ir28_ok, by kernel_rfl⟩
  · cases h; exact ⟨Tryd.f29, Tryd.func29, ir29_ok, by kernel_rfl⟩
  · cases h; exact ⟨Tryd.f30, Tryd.func30, ir30_ok, by kernel_rfl⟩
  · cases h; exact ⟨Tryd.f31, Tryd.func31, ir31_ok, by kernel_rfl⟩
  · cases h; exact ⟨Tryd.f32, Tryd.func32, ir32_ok, by kernel_rfl⟩
  · cases h; exact ⟨Tryd.f33, Tryd.func33, ir33_ok, by kernel_rfl⟩
  · cases h; exact ⟨Tryd.f34, Tryd.func34, ir34_ok, by kernel_rfl⟩
  · cases h; exact ⟨Tryd.f35, Tryd.func35, ir35_ok, by kernel_rfl⟩
  · cases h; exact ⟨Tryd.f36, Tryd.func36, ir36_ok, by kernel_rfl⟩
  · cases h; exact ⟨Tryd.f37, Tryd.func37, ir37_ok, by kernel_rfl⟩
  · cases h; exact ⟨Tryd.f38, Tryd.func38, ir38_ok, by kernel_rfl⟩
  · cases h; exact ⟨Tryd.f39, Tryd.func39, ir39_ok, by kernel_rfl⟩
  · cases h; exact ⟨Tryd.f40, Tryd.func40, ir40_ok, by kernel_rfl⟩
  · cases h; exact ⟨Tryd.f41, Tryd.func41, ir41_ok, by kernel_rfl⟩
  · cases h; exact ⟨Tryd.f42, Tryd.func42, ir42_ok, by kernel_rfl⟩
  · cases h; exact ⟨Tryd.f43, Tryd.func43, ir43_ok, by kernel_rfl⟩
  · cases h; exact ⟨Tryd.f44, Tryd.func44, ir44_ok, by kernel_rfl⟩
  · cases h; exact ⟨Tryd.f45, Tryd.func45, ir45_ok, by kernel_rfl⟩
  · cases h; exact ⟨Tryd.f46, Tryd.func46, ir46_ok, by kernel_rfl⟩
  · cases h; exact ⟨Tryd.f47, Tryd.func47, ir47_ok, by kernel_rfl⟩
  · cases h; exact ⟨Tryd.f48, Tryd.func48, ir48_ok, by kernel_rfl⟩
  · cases h; exact ⟨Tryd.f49, Tryd.func49, ir49_ok, by kernel_rfl⟩
  · cases h; exact ⟨Tryd.f50, Tryd.func50, ir50_ok, by kernel_rfl⟩
  · cases h; exact ⟨Tryd.f51, Tryd.func51, ir51_ok, by kernel_rfl⟩
  · cases h; exact ⟨Tryd.f52, Tryd.func52, ir52_ok, by kernel_rfl⟩
  · cases h; exact ⟨Tryd.f53, Tryd.func53, ir53_ok, by kernel_rfl⟩
  · cases h; exact ⟨Tryd.f54, Tryd.func54, ir54_ok, by kernel_rfl⟩
  · cases h; exact ⟨Tryd.f55, Tryd.func55, ir55_ok, by kernel_rfl⟩
  · cases h; exact ⟨Tryd.f56, Tryd.func56, ir56_ok, by kernel_rfl⟩
  · cases h; exact ⟨Tryd.f57, Tryd.func57, ir57_ok, by kernel_rfl⟩
  · cases h; exact ⟨Tryd.f58, Tryd.func58, ir58_ok, by kernel_rfl⟩
  · cases h; exact ⟨Tryd.f59, Tryd.func59, ir59_ok, by kernel_rfl⟩
  · cases h; exact ⟨Tryd.f60, Tryd.func60, ir60_ok, by kernel_rfl⟩
  · cases h; exact ⟨Tryd.f61, Tryd.func61, ir61_ok, by kernel_rfl⟩
  · cases h; exact ⟨Tryd.f62, Tryd.func62, ir62_ok, by kernel_rfl⟩
  · cases h; exact ⟨Tryd.f63, Tryd.func63, ir63_ok, by kernel_rfl⟩
  · cases h; exact ⟨Tryd.f64, Tryd.func64, ir64_ok, by kernel_rfl⟩
  · cases h; exact ⟨Tryd.f65, Tryd.func65, ir65_ok, by kernel_rfl⟩
  · cases h; exact ⟨Tryd.f66, Tryd.func66, ir66_ok, by kernel_rfl⟩
  · cases h; exact ⟨Tryd.f67, Tryd.func67, ir67_ok, by kernel_rfl⟩
  · cases h; exact ⟨Tryd.f68, Tryd.func68, ir68_ok, by kernel_rfl⟩
  · cases h; exact ⟨Tryd.f69, Tryd.func69, ir69_ok, by kernel_rfl⟩
  · cases h; exact ⟨Tryd.f70, Tryd.func70, ir70_ok, by kernel_rfl⟩
  · cases h; exact ⟨Tryd.f71, Tryd.func71, ir71_ok, by kernel_rfl⟩
  · cases h; exact ⟨Tryd.f72, Tryd.func72, ir72_ok, by kernel_rfl⟩
  · cases h; exact ⟨Tryd.f73, Tryd.func73, ir73_ok, by kernel_rfl⟩
  · cases h; exact ⟨Tryd.f74, Tryd.func74, ir74_ok, by kernel_rfl⟩
  · cases h; exact ⟨Tryd.f75, Tryd.func75, ir75_ok, by kernel_rfl⟩
  · cases h; exact ⟨Tryd.f76, Tryd.func76, ir76_ok, by kernel_rfl⟩
  · cases h; exact ⟨Tryd.f77, Tryd.func77, ir77_ok, by kernel_rfl⟩
  · cases h; exact ⟨Tryd.f78, Tryd.func78, ir78_ok, by kernel_rfl⟩
  · cases h; exact ⟨Tryd.f79, Tryd.func79, ir79_ok, by kernel_rfl⟩
  · cases h; exact ⟨Tryd.f80, Tryd.func80, ir80_ok, by kernel_rfl⟩
  · cases h; exact ⟨Tryd.f81, Tryd.func81, ir81_ok, by kernel_rfl⟩
  · cases h; exact ⟨Tryd.f82, Tryd.func82, ir82_ok, by kernel_rfl⟩
  · cases h; exact ⟨Tryd.f83, Tryd.func83, ir83_ok, by kernel_rfl⟩
  · cases h; exact ⟨Tryd.f84, Tryd.func84, ir84_ok, by kernel_rfl⟩
  · cases h; exact ⟨Tryd.f85, Tryd.func85, ir85_ok, by kernel_rfl⟩
  · cases h; exact ⟨Tryd.f86, Tryd.func86, ir86_ok, by kernel_rfl⟩
  · cases h; exact ⟨Tryd.f87, Tryd.func87, ir87_ok, by kernel_rfl⟩
  · cases h; exact ⟨Tryd.f88, Tryd.func88, ir88_ok, by kernel_rfl⟩
  · cases h; exact ⟨Tryd.f89, Tryd.func89, ir89_ok, by kernel_rfl⟩
  · cases h; exact ⟨Tryd.f90, Tryd.func90, ir90_ok, by kernel_rfl⟩
  · cases h; exact ⟨Tryd.f91, Tryd.func91, ir91_ok, by kernel_rfl⟩
  · cases h; exact ⟨Tryd.f92, Tryd.func92, ir92_ok, by kernel_rfl⟩
  · cases h

theorem T3 : T 3 = some ir3 := rfl
theorem T4 : T 4 = some ir4 := rfl
theorem T5 : T 5 = some ir5 := rfl
theorem T6 : T 6 = some ir6 := rfl
theorem T7 : T 7 = some ir7 := rfl
theorem T8 : T 8 = some ir8 := rfl
theorem T9 : T 9 = some ir9 := rfl
theorem T10 : T 10 = some ir10 := rfl
theorem T11 : T 11 = some ir11 := rfl
theorem T12 : T 12 = some ir12 := rfl
theorem T13 : T 13 = some ir13 := rfl
theorem T14 : T 14 = some ir14 := rfl
theorem T15 : T 15 = some ir15 := rfl
theorem T16 : T 16 = some ir16 := rfl
theorem T17 : T 17 = some ir17 := rfl
theorem T18 : T 18 = some ir18 := rfl
theorem T19 : T 19 = some ir19 := rfl
theorem T20 : T 20 = some ir20 := rfl
theorem T21 : T 21 = some ir21 := rfl
theorem T22 : T 22 = some ir22 := rfl
theorem T23 : T 23 = some ir23 := rfl
theorem T24 : T 24 = some ir24 := rfl
theorem T25 : T 25 = some ir25 := rfl
theorem T26 : T 26 = some ir26 := rfl
theorem T27 : T 27 = some ir27 := rfl
theorem T28 : T 28 = some ir28 := rfl
theorem T29 : T 29 = some ir29 := rfl
theorem T30 : T 30 = some ir30 := rfl
theorem T31 : T 31 = some ir31 := rfl
theorem T32 : T 32 = some ir32 := rfl
theorem T33 : T 33 = some ir33 := rfl
theorem T34 : T 34 = some ir34 := rfl
theorem T35 : T 35 = some ir35 := rfl
theorem T36 : T 36 = some ir36 := rfl
theorem T37 : T 37 = some ir37 := rfl
theorem T38 : T 38 = some ir38 := rfl
theorem T39 : T 39 = some ir39 := rfl
theorem T40 : T 40 = some ir40 := rfl
theorem T41 : T 41 = some ir41 := rfl
theorem T42 : T 42 = some ir42 := rfl
theorem T43 : T 43 = some ir43 := rfl
theorem T44 : T 44 = some ir44 := rfl
theorem T45 : T 45 = some ir45 := rfl
theorem T46 : T 46 = some ir46 := rfl
theorem T47 : T 47 = some ir47 := rfl
theorem T48 : T 48 = some ir48 := rfl
theorem T49 : T 49 = some ir49 := rfl
theorem T50 : T 50 = some ir50 := rfl
theorem T51 : T 51 = some ir51 := rfl
theorem T52 : T 52 = some ir52 := rfl
theorem T53 : T 53 = some ir53 := rfl
theorem T54 : T 54 = some ir54 := rfl
theorem T55 : T 55 = some ir55 := rfl
theorem T56 : T 56 = some ir56 := rfl
theorem T57 : T 57 = some ir57 := rfl
theorem T58 : T 58 = some ir58 := rfl
theorem T59 : T 59 = some ir59 := rfl
theorem T60 : T 60 = some ir60 := rfl
theorem T61 : T 61 = some ir61 := rfl
theorem T62 : T 62 = some ir62 := rfl
theorem T63 : T 63 = some ir63 := rfl
theorem T64 : T 64 = some ir64 := rfl
theorem T65 : T 65 = some ir65 := rfl
theorem T66 : T 66 = some ir66 := rfl
theorem T67 : T 67 = some ir67 := rfl
theorem T68 : T 68 = some ir68 := rfl
theorem T69 : T 69 = some ir69 := rfl
theorem T70 : T 70 = some ir70 := rfl
theorem T71 : T 71 = some ir71 := rfl
theorem T72 : T 72 = some ir72 := rfl
theorem T73 : T 73 = some ir73 := rfl
theorem T74 : T 74 = some ir74 := rfl
theorem T75 : T 75 = some ir75 := rfl
theorem T76 : T 76 = some ir76 := rfl
theorem T77 : T 77 = some ir77 := rfl
theorem T78 : T 78 = some ir78 := rfl
theorem T79 : T 79 = some ir79 := rfl
theorem T80 : T 80 = some ir80 := rfl
theorem T81 : T 81 = some ir81 := rfl
theorem T82 : T 82 = some ir82 := rfl
theorem T83 : T 83 = some ir83 := rfl
theorem T84 : T 84 = some ir84 := rfl
theorem T85 : T 85 = some ir85 := rfl
theorem T86 : T 86 = some ir86 := rfl
theorem T87 : T 87 = some ir87 := rfl
theorem T88 : T 88 = some ir88 := rfl
theorem T89 : T 89 = some ir89 := rfl
theorem T90 : T 90 = some ir90 := rfl
theorem T91 : T 91 = some ir91 := rfl
theorem T92 : T 92 = some ir92 := rfl

end Go.Am.YtdcppkhobfbpeaaDoor
