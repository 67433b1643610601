/-
  The translations of the functions, printed by program (wip/vg/Print.lean); each is checked against the program by the kernel.
-/
import Derived.Test.YtfanamibkgkaiaaDoorChecked
import Derived.Test.YtfanamibkgkaiaaDoorVgH
namespace Go.Proofs.YtfanamibkgkaiaaDoor.VG
open Go
set_option maxRecDepth 100000

/-- kinora/kinoralaw25.MatchTells · parameters 3 · 0:code 1:dist 2:width 7:w 8:c 9:d -/
def s3 : S :=
  (.set 6 (.cn (.bool false))
  (.call (some 11) 7 [(.vr 2), (.cn (.int .i64 1)), (.cn (.int .i64 64))] []
  (.set 7 (.vr 11)
  (.set 8 (.cn (.int .i64 (-1)))
  (.blk 0
    (.loop
      (.chk (.bn (.cm .leq .i64) (.vr 8) (.cn (.int .i64 30)))
      (.set 13 (.bn (.cm .leq .i64) (.vr 8) (.cn (.int .i64 30)))
      (.ite (.vr 13)
        .nil
        (.exit 0)
      (.blk 1
        (.call (some 18) 8 [(.vr 8), (.vr 7)] []
        (.call (some 21) 9 [(.vr 8), (.vr 7)] []
        (.chk (.bn (.cm .neq .i64) (.vr 18) (.vr 21))
        (.set 23 (.bn (.cm .neq .i64) (.vr 18) (.vr 21))
        (.ifg (.vr 23) false
          (.call (some 26) 10 [(.vr 8), (.vr 7)] []
          .nil)
          (.set 26 (.cn undef)
          .nil)
        (.ifg (.vr 23) false
          (.call (some 29) 11 [(.vr 8), (.vr 7)] []
          .nil)
          (.set 29 (.cn undef)
          .nil)
        (.chk (.gd (.vr 23) false (.bn (.cm .neq .i64) (.vr 26) (.vr 29)))
        (.chk (.or (.vr 23) (.bn (.cm .neq .i64) (.vr 26) (.vr 29)))
        (.set 31 (.or (.vr 23) (.bn (.cm .neq .i64) (.vr 26) (.vr 29)))
        (.ite (.vr 31)
          (.set 6 (.cn (.bool false))
          .ret)
          .nil
        .nil))))))))))
      (.chk (.bn (.ar .add .i64) (.vr 8) (.cn (.int .i64 1)))
      (.set 8 (.bn (.ar .add .i64) (.vr 8) (.cn (.int .i64 1)))
      .nil)))))))
  (.call (some 33) 7 [(.vr 1), (.cn (.int .i64 1)), (.cn (.int .i64 1024))] []
  (.set 9 (.vr 33)
  (.call (some 36) 8 [(.vr 0), (.vr 2)] []
  (.call (some 39) 9 [(.vr 0), (.vr 2)] []
  (.chk (.bn (.cm .eql .i64) (.vr 36) (.vr 39))
  (.set 41 (.bn (.cm .eql .i64) (.vr 36) (.vr 39))
  (.chk (.gd (.vr 41) true (.bn (.bt .and .i64) (.vr 0) (.cn (.int .i64 2047))))
  (.ifg (.vr 41) true
    (.call (some 45) 8 [(.bn (.bt .and .i64) (.vr 0) (.cn (.int .i64 2047))), (.vr 7)] []
    .nil)
    (.set 45 (.cn undef)
    .nil)
  (.chk (.gd (.vr 41) true (.bn (.bt .and .i64) (.vr 0) (.cn (.int .i64 2047))))
  (.ifg (.vr 41) true
    (.call (some 49) 9 [(.bn (.bt .and .i64) (.vr 0) (.cn (.int .i64 2047))), (.vr 7)] []
    .nil)
    (.set 49 (.cn undef)
    .nil)
  (.chk (.gd (.vr 41) true (.bn (.cm .eql .i64) (.vr 45) (.vr 49)))
  (.chk (.and (.vr 41) (.bn (.cm .eql .i64) (.vr 45) (.vr 49)))
  (.set 52 (.and (.vr 41) (.bn (.cm .eql .i64) (.vr 45) (.vr 49)))
  (.ifg (.vr 52) true
    (.call (some 55) 10 [(.vr 1), (.vr 2)] []
    .nil)
    (.set 55 (.cn undef)
    .nil)
  (.ifg (.vr 52) true
    (.call (some 58) 11 [(.vr 1), (.vr 2)] []
    .nil)
    (.set 58 (.cn undef)
    .nil)
  (.chk (.gd (.vr 52) true (.bn (.cm .eql .i64) (.vr 55) (.vr 58)))
  (.chk (.and (.vr 52) (.bn (.cm .eql .i64) (.vr 55) (.vr 58)))
  (.set 61 (.and (.vr 52) (.bn (.cm .eql .i64) (.vr 55) (.vr 58)))
  (.ifg (.vr 61) true
    (.call (some 64) 10 [(.vr 9), (.vr 7)] []
    .nil)
    (.set 64 (.cn undef)
    .nil)
  (.ifg (.vr 61) true
    (.call (some 66) 8 [(.vr 64), (.vr 7)] []
    .nil)
    (.set 66 (.cn undef)
    .nil)
  (.chk (.gd (.vr 61) true (.bn (.cm .eql .i64) (.vr 66) (.vr 9)))
  (.chk (.and (.vr 61) (.bn (.cm .eql .i64) (.vr 66) (.vr 9)))
  (.set 70 (.and (.vr 61) (.bn (.cm .eql .i64) (.vr 66) (.vr 9)))
  (.ifg (.vr 70) true
    (.call (some 71) 12 [] []
    .nil)
    (.set 71 (.cn undef)
    .nil)
  (.chk (.pk (.vr 70) (.vr 71) (.cn (.bool false)))
  (.set 6 (.pk (.vr 70) (.vr 71) (.cn (.bool false)))
  .ret)))))))))))))))))))))))))))))))
def fc3 : Fc := ⟨73, s3, [(.vr 6)]⟩
theorem c3 : compF Tryd.prog 3 = some fc3 := by kernel_rfl

/-- kinora/kinoralaw25.MatchFinds · parameters 5 · 0:t 1:raw 2:at 3:lit 4:copied 11:l -/
def s4 : S :=
  (.set 10 (.cn (.bool false))
  (.chk (.un .ln (.vr 1))
  (.set 14 (.bn (.cm .gtr .i64) (.un .ln (.vr 1)) (.cn (.int .i64 200)))
  (.ite (.vr 14)
    (.set 10 (.cn (.bool true))
    .ret)
    .nil
  (.call (some 16) 14 [(.vr 0)] []
  (.call (some 17) 13 [(.vr 16), (.cn (.int .i64 200))] []
  (.set 11 (.vr 17)
  (.chk (.bn (.bt .and .i64) (.vr 2) (.cn (.int .i64 255)))
  (.chk (.bn (.bt .and .i64) (.vr 3) (.cn (.int .i64 31)))
  (.chk (.bn (.bt .and .i64) (.vr 4) (.cn (.int .i64 63)))
  (.call (some 25) 15 [(.vr 11), (.bn (.bt .and .i64) (.vr 2) (.cn (.int .i64 255))), (.bn (.bt .and .i64) (.vr 3) (.cn (.int .i64 31))), (.bn (.bt .and .i64) (.vr 4) (.cn (.int .i64 63)))] []
  (.set 26 (.vr 25)
  (.ifg (.vr 26) true
    (.call (some 31) 15 [(.vr 11), (.vr 2), (.vr 3), (.vr 4)] []
    .nil)
    (.set 31 (.cn undef)
    .nil)
  (.chk (.pk (.vr 26) (.vr 31) (.cn (.bool false)))
  (.set 33 (.pk (.vr 26) (.vr 31) (.cn (.bool false)))
  (.ifg (.vr 33) true
    (.call (some 36) 15 [(.vr 1), (.vr 2), (.cn (.int .i64 9)), (.cn (.int .i64 12))] []
    .nil)
    (.set 36 (.cn undef)
    .nil)
  (.chk (.pk (.vr 33) (.vr 36) (.cn (.bool false)))
  (.set 38 (.pk (.vr 33) (.vr 36) (.cn (.bool false)))
  (.chk (.gd (.vr 38) true (.bn (.bt .and .i64) (.vr 2) (.cn (.int .i64 63))))
  (.ifg (.vr 38) true
    (.call (some 42) 15 [(.vr 1), (.bn (.bt .and .i64) (.vr 2) (.cn (.int .i64 63))), (.cn (.int .i64 1)), (.cn (.int .i64 1))] []
    .nil)
    (.set 42 (.cn undef)
    .nil)
  (.chk (.pk (.vr 38) (.vr 42) (.cn (.bool false)))
  (.set 44 (.pk (.vr 38) (.vr 42) (.cn (.bool false)))
  (.ifg (.vr 44) true
    (.call (some 45) 12 [] []
    .nil)
    (.set 45 (.cn undef)
    .nil)
  (.chk (.pk (.vr 44) (.vr 45) (.cn (.bool false)))
  (.set 10 (.pk (.vr 44) (.vr 45) (.cn (.bool false)))
  .ret)))))))))))))))))))))))))
def fc4 : Fc := ⟨47, s4, [(.vr 10)]⟩
theorem c4 : compF Tryd.prog 4 = some fc4 := by kernel_rfl

/-- kinora/kinoralaw25.MatchBack · parameters 4 · 0:t 1:lit 2:copied 3:cut 9:l 10:x 11:y 12:g 13:m 14:a 15:ok 16:b 17:is 18:k 19:parted -/
def s5 : S :=
  (.set 8 (.cn (.bool false))
  (.call (some 21) 14 [(.vr 0)] []
  (.call (some 22) 13 [(.vr 21), (.cn (.int .i64 250))] []
  (.set 9 (.vr 22)
  (.call (some 24) 7 [(.vr 1), (.cn (.int .i64 1)), (.cn (.int .i64 100))] []
  (.call (some 26) 7 [(.vr 2), (.cn (.int .i64 1)), (.cn (.int .i64 100))] []
  (.set 10 (.vr 24)
  (.set 11 (.vr 26)
  (.call (some 28) 16 [(.vr 9)] []
  (.call (some 32) 17 [(.vr 9), (.vr 10), (.vr 11)] []
  (.set 12 (.vr 28)
  (.set 13 (.vr 32)
  (.chk (.un .ln (.vr 9))
  (.call (some 37) 18 [(.vr 12), (.un .ln (.vr 9))] []
  (.chk (.un (.ex 0) (.vr 37))
  (.chk (.un (.ex 1) (.vr 37))
  (.set 14 (.un (.ex 0) (.vr 37))
  (.set 15 (.un (.ex 1) (.vr 37))
  (.chk (.un .ln (.vr 9))
  (.call (some 44) 18 [(.vr 13), (.un .ln (.vr 9))] []
  (.chk (.un (.ex 0) (.vr 44))
  (.chk (.un (.ex 1) (.vr 44))
  (.set 16 (.un (.ex 0) (.vr 44))
  (.set 17 (.un (.ex 1) (.vr 44))
  (.chk (.un .ln (.vr 9))
  (.call (some 50) 7 [(.vr 3), (.cn (.int .i64 0)), (.un .ln (.vr 9))] []
  (.set 18 (.vr 50)
  (.draw
  (.chk (.sl 1 true (.vr 9) (.cn (.int .i64 0)) (.vr 18))
  (.chk (.sl 1 false (.vr 9) (.vr 18) (.cn undef))
  (.call (some 56) 17 [(.sl 1 true (.vr 9) (.cn (.int .i64 0)) (.vr 18)), (.vr 10), (.vr 11)] []
  (.call (some 59) 19 [(.vr 56), (.vr 10), (.vr 11)] []
  (.call (some 65) 17 [(.sl 1 false (.vr 9) (.vr 18) (.cn undef)), (.vr 10), (.vr 11)] []
  (.call (some 68) 19 [(.vr 65), (.vr 10), (.vr 11)] []
  (.chk (.bn (.ar .add .i64) (.vr 59) (.vr 68))
  (.set 19 (.bn (.ar .add .i64) (.vr 59) (.vr 68))
  (.set 71 (.vr 15)
  (.chk (.pk (.vr 71) (.vr 17) (.cn (.bool false)))
  (.set 74 (.pk (.vr 71) (.vr 17) (.cn (.bool false)))
  (.ifg (.vr 74) true
    (.call (some 77) 20 [(.vr 14), (.vr 9)] []
    .nil)
    (.set 77 (.cn undef)
    .nil)
  (.chk (.pk (.vr 74) (.vr 77) (.cn (.bool false)))
  (.set 79 (.pk (.vr 74) (.vr 77) (.cn (.bool false)))
  (.ifg (.vr 79) true
    (.call (some 82) 20 [(.vr 16), (.vr 9)] []
    .nil)
    (.set 82 (.cn undef)
    .nil)
  (.chk (.pk (.vr 79) (.vr 82) (.cn (.bool false)))
  (.set 84 (.pk (.vr 79) (.vr 82) (.cn (.bool false)))
  (.ifg (.vr 84) true
    (.call (some 86) 21 [(.vr 13)] []
    .nil)
    (.set 86 (.cn undef)
    .nil)
  (.chk (.pk (.vr 84) (.vr 86) (.cn (.bool false)))
  (.set 88 (.pk (.vr 84) (.vr 86) (.cn (.bool false)))
  (.ifg (.vr 88) true
    (.call (some 92) 19 [(.vr 13), (.vr 10), (.vr 11)] []
    .nil)
    (.set 92 (.cn undef)
    .nil)
  (.ifg (.vr 88) true
    (.call (some 96) 19 [(.vr 12), (.vr 10), (.vr 11)] []
    .nil)
    (.set 96 (.cn undef)
    .nil)
  (.chk (.gd (.vr 88) true (.bn (.cm .leq .i64) (.vr 92) (.vr 96)))
  (.chk (.and (.vr 88) (.bn (.cm .leq .i64) (.vr 92) (.vr 96)))
  (.set 99 (.and (.vr 88) (.bn (.cm .leq .i64) (.vr 92) (.vr 96)))
  (.ifg (.vr 99) true
    (.call (some 103) 19 [(.vr 13), (.vr 10), (.vr 11)] []
    .nil)
    (.set 103 (.cn undef)
    .nil)
  (.chk (.gd (.vr 99) true (.bn (.cm .leq .i64) (.vr 103) (.vr 19)))
  (.chk (.and (.vr 99) (.bn (.cm .leq .i64) (.vr 103) (.vr 19)))
  (.set 107 (.and (.vr 99) (.bn (.cm .leq .i64) (.vr 103) (.vr 19)))
  (.ifg (.vr 107) true
    (.call (some 111) 19 [(.vr 13), (.vr 10), (.vr 11)] []
    .nil)
    (.set 111 (.cn undef)
    .nil)
  (.chk (.gd (.vr 107) true (.un .ln (.vr 9)))
  (.chk (.gd (.vr 107) true (.bn (.ar .mul .i64) (.vr 10) (.un .ln (.vr 9))))
  (.chk (.gd (.vr 107) true (.bn (.cm .leq .i64) (.vr 111) (.bn (.ar .mul .i64) (.vr 10) (.un .ln (.vr 9)))))
  (.chk (.and (.vr 107) (.bn (.cm .leq .i64) (.vr 111) (.bn (.ar .mul .i64) (.vr 10) (.un .ln (.vr 9)))))
  (.set 118 (.and (.vr 107) (.bn (.cm .leq .i64) (.vr 111) (.bn (.ar .mul .i64) (.vr 10) (.un .ln (.vr 9)))))
  (.ifg (.vr 118) true
    (.call (some 119) 12 [] []
    .nil)
    (.set 119 (.cn undef)
    .nil)
  (.chk (.pk (.vr 118) (.vr 119) (.cn (.bool false)))
  (.set 8 (.pk (.vr 118) (.vr 119) (.cn (.bool false)))
  .ret))))))))))))))))))))))))))))))))))))))))))))))))))))))))))))))))))
def fc5 : Fc := ⟨121, s5, [(.vr 8)]⟩
theorem c5 : compF Tryd.prog 5 = some fc5 := by kernel_rfl

/-- kinora/kinoralaw25.MatchLeast · parameters 3 · 0:t 1:lit 2:copied 7:k 8:w 9:l 10:ok 11:x 12:y -/
def s6 : S :=
  (.set 6 (.cn (.bool false))
  (.call (some 14) 14 [(.vr 0)] []
  (.set 7 (.vr 14)
  (.call (some 16) 22 [(.vr 7), (.cn (.int .i64 12))] []
  (.set 8 (.vr 16)
  (.call (some 19) 23 [(.vr 8), (.cn (.int .i64 400))] []
  (.chk (.un (.ex 0) (.vr 19))
  (.chk (.un (.ex 1) (.vr 19))
  (.set 9 (.un (.ex 0) (.vr 19))
  (.set 10 (.un (.ex 1) (.vr 19))
  (.chk (.un .not (.vr 10))
  (.set 23 (.un .not (.vr 10))
  (.ite (.vr 23)
    (.set 6 (.cn (.bool true))
    .ret)
    .nil
  (.call (some 25) 7 [(.vr 1), (.cn (.int .i64 1)), (.cn (.int .i64 50))] []
  (.call (some 27) 7 [(.vr 2), (.cn (.int .i64 1)), (.cn (.int .i64 50))] []
  (.set 11 (.vr 25)
  (.set 12 (.vr 27)
  (.call (some 31) 17 [(.vr 9), (.vr 11), (.vr 12)] []
  (.call (some 34) 19 [(.vr 31), (.vr 11), (.vr 12)] []
  (.call (some 38) 19 [(.vr 8), (.vr 11), (.vr 12)] []
  (.chk (.bn (.cm .leq .i64) (.vr 34) (.vr 38))
  (.set 40 (.bn (.cm .leq .i64) (.vr 34) (.vr 38))
  (.ifg (.vr 40) true
    (.call (some 41) 12 [] []
    .nil)
    (.set 41 (.cn undef)
    .nil)
  (.chk (.pk (.vr 40) (.vr 41) (.cn (.bool false)))
  (.set 6 (.pk (.vr 40) (.vr 41) (.cn (.bool false)))
  .ret)))))))))))))))))))))))))
def fc6 : Fc := ⟨43, s6, [(.vr 6)]⟩
theorem c6 : compF Tryd.prog 6 = some fc6 := by kernel_rfl

/-- kinora/kinorakeep2.Within · parameters 3 · 0:n 1:lo 2:hi -/
def s7 : S :=
  (.set 6 (.cn (.int .i64 0))
  (.chk (.bn (.cm .geq .i64) (.vr 0) (.vr 1))
  (.chk (.gd (.bn (.cm .geq .i64) (.vr 0) (.vr 1)) true (.bn (.cm .leq .i64) (.vr 0) (.vr 2)))
  (.set 14 (.and (.bn (.cm .geq .i64) (.vr 0) (.vr 1)) (.bn (.cm .leq .i64) (.vr 0) (.vr 2)))
  (.ite (.vr 14)
    (.set 6 (.vr 0)
    .ret)
    .nil
  (.chk (.bn (.ar .sub .i64) (.vr 2) (.vr 1))
  (.chk (.bn (.dv true .i64) (.vr 0) (.bn (.ar .add .i64) (.bn (.ar .sub .i64) (.vr 2) (.vr 1)) (.cn (.int .i64 1))))
  (.set 0 (.bn (.dv true .i64) (.vr 0) (.bn (.ar .add .i64) (.bn (.ar .sub .i64) (.vr 2) (.vr 1)) (.cn (.int .i64 1))))
  (.chk (.bn (.cm .lss .i64) (.vr 0) (.cn (.int .i64 0)))
  (.set 23 (.bn (.cm .lss .i64) (.vr 0) (.cn (.int .i64 0)))
  (.ite (.vr 23)
    (.chk (.bn (.ar .add .i64) (.vr 0) (.vr 2))
    (.chk (.bn (.ar .sub .i64) (.bn (.ar .add .i64) (.vr 0) (.vr 2)) (.vr 1))
    (.set 0 (.bn (.ar .add .i64) (.bn (.ar .sub .i64) (.bn (.ar .add .i64) (.vr 0) (.vr 2)) (.vr 1)) (.cn (.int .i64 1)))
    .nil)))
    .nil
  (.chk (.bn (.ar .add .i64) (.vr 1) (.vr 0))
  (.set 6 (.bn (.ar .add .i64) (.vr 1) (.vr 0))
  .ret)))))))))))))
def fc7 : Fc := ⟨33, s7, [(.vr 6)]⟩
theorem c7 : compF Tryd.prog 7 = some fc7 := by kernel_rfl

/-- kinora/match.Near · parameters 2 · 0:code 1:width 5:x 6:y -/
def s8 : S :=
  (.set 4 (.cn (.int .i64 0))
  (.chk (.bn (.cm .lss .i64) (.vr 0) (.cn (.int .i64 1)))
  (.chk (.gd (.bn (.cm .lss .i64) (.vr 0) (.cn (.int .i64 1))) false (.bn (.cm .gtr .i64) (.vr 0) (.cn (.int .i64 1048))))
  (.chk (.gd (.or (.bn (.cm .lss .i64) (.vr 0) (.cn (.int .i64 1))) (.bn (.cm .gtr .i64) (.vr 0) (.cn (.int .i64 1048)))) false (.bn (.cm .lss .i64) (.vr 1) (.cn (.int .i64 1))))
  (.chk (.gd (.or (.or (.bn (.cm .lss .i64) (.vr 0) (.cn (.int .i64 1))) (.bn (.cm .gtr .i64) (.vr 0) (.cn (.int .i64 1048)))) (.bn (.cm .lss .i64) (.vr 1) (.cn (.int .i64 1)))) false (.bn (.cm .gtr .i64) (.vr 1) (.cn (.int .i64 64))))
  (.set 20 (.or (.or (.or (.bn (.cm .lss .i64) (.vr 0) (.cn (.int .i64 1))) (.bn (.cm .gtr .i64) (.vr 0) (.cn (.int .i64 1048)))) (.bn (.cm .lss .i64) (.vr 1) (.cn (.int .i64 1)))) (.bn (.cm .gtr .i64) (.vr 1) (.cn (.int .i64 64))))
  (.ite (.vr 20)
    (.set 4 (.cn (.int .i64 0))
    .ret)
    .nil
  (.chk (.bn (.cm .gtr .i64) (.vr 0) (.cn (.int .i64 24)))
  (.set 22 (.bn (.cm .gtr .i64) (.vr 0) (.cn (.int .i64 24)))
  (.ite (.vr 22)
    (.chk (.bn (.ar .sub .i64) (.vr 0) (.cn (.int .i64 24)))
    (.set 4 (.bn (.ar .sub .i64) (.vr 0) (.cn (.int .i64 24)))
    .ret))
    .nil
  (.draw
  (.chk (.bn (.ar .sub .i64) (.vr 0) (.cn (.int .i64 1)))
  (.chk (.bn (.aa 24 2) (.cn (.pointer (some ⟨0, 0, none⟩))) (.bn (.ar .sub .i64) (.vr 0) (.cn (.int .i64 1))))
  (.chk (.bn (.aa 2 1) (.bn (.aa 24 2) (.cn (.pointer (some ⟨0, 0, none⟩))) (.bn (.ar .sub .i64) (.vr 0) (.cn (.int .i64 1)))) (.cn (.int .i64 0)))
  (.chk (.ld (.bn (.aa 2 1) (.bn (.aa 24 2) (.cn (.pointer (some ⟨0, 0, none⟩))) (.bn (.ar .sub .i64) (.vr 0) (.cn (.int .i64 1)))) (.cn (.int .i64 0))))
  (.chk (.bn (.ar .sub .i64) (.vr 0) (.cn (.int .i64 1)))
  (.chk (.bn (.aa 24 2) (.cn (.pointer (some ⟨0, 0, none⟩))) (.bn (.ar .sub .i64) (.vr 0) (.cn (.int .i64 1))))
  (.chk (.bn (.aa 2 1) (.bn (.aa 24 2) (.cn (.pointer (some ⟨0, 0, none⟩))) (.bn (.ar .sub .i64) (.vr 0) (.cn (.int .i64 1)))) (.cn (.int .i64 1)))
  (.chk (.ld (.bn (.aa 2 1) (.bn (.aa 24 2) (.cn (.pointer (some ⟨0, 0, none⟩))) (.bn (.ar .sub .i64) (.vr 0) (.cn (.int .i64 1)))) (.cn (.int .i64 1))))
  (.set 5 (.ld (.bn (.aa 2 1) (.bn (.aa 24 2) (.cn (.pointer (some ⟨0, 0, none⟩))) (.bn (.ar .sub .i64) (.vr 0) (.cn (.int .i64 1)))) (.cn (.int .i64 0))))
  (.set 6 (.ld (.bn (.aa 2 1) (.bn (.aa 24 2) (.cn (.pointer (some ⟨0, 0, none⟩))) (.bn (.ar .sub .i64) (.vr 0) (.cn (.int .i64 1)))) (.cn (.int .i64 1))))
  (.chk (.bn (.ar .mul .i64) (.vr 6) (.vr 1))
  (.chk (.bn (.ar .add .i64) (.bn (.ar .mul .i64) (.vr 6) (.vr 1)) (.vr 5))
  (.set 4 (.bn (.mx .i64) (.bn (.ar .add .i64) (.bn (.ar .mul .i64) (.vr 6) (.vr 1)) (.vr 5)) (.cn (.int .i64 1)))
  .ret))))))))))))))))))))))))
def fc8 : Fc := ⟨41, s8, [(.vr 4)]⟩
theorem c8 : compF Tryd.prog 8 = some fc8 := by kernel_rfl

/-- kinora/kinoraref27.MatchNear · parameters 2 · 0:code 1:width 5:l -/
def s9 : S :=
  (.set 4 (.cn (.int .i64 0))
  (.call (some 7) 24 [(.vr 1)] []
  (.chk (.un .not (.vr 7))
  (.set 9 (.un .not (.vr 7))
  (.chk (.gd (.vr 9) false (.bn (.cm .lss .i64) (.vr 0) (.cn (.int .i64 1))))
  (.chk (.or (.vr 9) (.bn (.cm .lss .i64) (.vr 0) (.cn (.int .i64 1))))
  (.set 13 (.or (.vr 9) (.bn (.cm .lss .i64) (.vr 0) (.cn (.int .i64 1))))
  (.chk (.gd (.vr 13) false (.bn (.cm .gtr .i64) (.vr 0) (.cn (.int .i64 1048))))
  (.chk (.or (.vr 13) (.bn (.cm .gtr .i64) (.vr 0) (.cn (.int .i64 1048))))
  (.set 16 (.or (.vr 13) (.bn (.cm .gtr .i64) (.vr 0) (.cn (.int .i64 1048))))
  (.ite (.vr 16)
    (.set 4 (.cn (.int .i64 0))
    .ret)
    .nil
  (.chk (.bn (.cm .gtr .i64) (.vr 0) (.cn (.int .i64 24)))
  (.set 18 (.bn (.cm .gtr .i64) (.vr 0) (.cn (.int .i64 24)))
  (.ite (.vr 18)
    (.chk (.bn (.ar .sub .i64) (.vr 0) (.cn (.int .i64 24)))
    (.set 4 (.bn (.ar .sub .i64) (.vr 0) (.cn (.int .i64 24)))
    .ret))
    .nil
  (.chk (.bd 1 1 (.cn (.int .i64 1)) (.bd 0 1 (.cn (.int .i64 0)) (.cn (.agg #[(.int .i64 0), (.int .i64 0)]))))
  (.chk (.bd 1 1 (.cn (.int .i64 0)) (.bd 0 1 (.cn (.int .i64 1)) (.cn (.agg #[(.int .i64 0), (.int .i64 0)]))))
  (.chk (.bd 1 1 (.cn (.int .i64 1)) (.bd 0 1 (.cn (.int .i64 1)) (.cn (.agg #[(.int .i64 0), (.int .i64 0)]))))
  (.chk (.bd 1 1 (.cn (.int .i64 1)) (.bd 0 1 (.cn (.int .i64 (-1))) (.cn (.agg #[(.int .i64 0), (.int .i64 0)]))))
  (.chk (.bd 1 1 (.cn (.int .i64 2)) (.bd 0 1 (.cn (.int .i64 0)) (.cn (.agg #[(.int .i64 0), (.int .i64 0)]))))
  (.chk (.bd 1 1 (.cn (.int .i64 0)) (.bd 0 1 (.cn (.int .i64 2)) (.cn (.agg #[(.int .i64 0), (.int .i64 0)]))))
  (.chk (.bd 1 1 (.cn (.int .i64 2)) (.bd 0 1 (.cn (.int .i64 1)) (.cn (.agg #[(.int .i64 0), (.int .i64 0)]))))
  (.chk (.bd 1 1 (.cn (.int .i64 2)) (.bd 0 1 (.cn (.int .i64 (-1))) (.cn (.agg #[(.int .i64 0), (.int .i64 0)]))))
  (.chk (.bd 1 1 (.cn (.int .i64 1)) (.bd 0 1 (.cn (.int .i64 2)) (.cn (.agg #[(.int .i64 0), (.int .i64 0)]))))
  (.chk (.bd 1 1 (.cn (.int .i64 1)) (.bd 0 1 (.cn (.int .i64 (-2))) (.cn (.agg #[(.int .i64 0), (.int .i64 0)]))))
  (.chk (.bd 1 1 (.cn (.int .i64 2)) (.bd 0 1 (.cn (.int .i64 2)) (.cn (.agg #[(.int .i64 0), (.int .i64 0)]))))
  (.chk (.bd 1 1 (.cn (.int .i64 2)) (.bd 0 1 (.cn (.int .i64 (-2))) (.cn (.agg #[(.int .i64 0), (.int .i64 0)]))))
  (.chk (.bd 1 1 (.cn (.int .i64 3)) (.bd 0 1 (.cn (.int .i64 0)) (.cn (.agg #[(.int .i64 0), (.int .i64 0)]))))
  (.chk (.bd 1 1 (.cn (.int .i64 0)) (.bd 0 1 (.cn (.int .i64 3)) (.cn (.agg #[(.int .i64 0), (.int .i64 0)]))))
  (.chk (.bd 1 1 (.cn (.int .i64 3)) (.bd 0 1 (.cn (.int .i64 1)) (.cn (.agg #[(.int .i64 0), (.int .i64 0)]))))
  (.chk (.bd 1 1 (.cn (.int .i64 3)) (.bd 0 1 (.cn (.int .i64 (-1))) (.cn (.agg #[(.int .i64 0), (.int .i64 0)]))))
  (.chk (.bd 1 1 (.cn (.int .i64 1)) (.bd 0 1 (.cn (.int .i64 3)) (.cn (.agg #[(.int .i64 0), (.int .i64 0)]))))
  (.chk (.bd 1 1 (.cn (.int .i64 1)) (.bd 0 1 (.cn (.int .i64 (-3))) (.cn (.agg #[(.int .i64 0), (.int .i64 0)]))))
  (.chk (.bd 1 1 (.cn (.int .i64 3)) (.bd 0 1 (.cn (.int .i64 2)) (.cn (.agg #[(.int .i64 0), (.int .i64 0)]))))
  (.chk (.bd 1 1 (.cn (.int .i64 3)) (.bd 0 1 (.cn (.int .i64 (-2))) (.cn (.agg #[(.int .i64 0), (.int .i64 0)]))))
  (.chk (.bd 1 1 (.cn (.int .i64 2)) (.bd 0 1 (.cn (.int .i64 3)) (.cn (.agg #[(.int .i64 0), (.int .i64 0)]))))
  (.chk (.bd 1 1 (.cn (.int .i64 2)) (.bd 0 1 (.cn (.int .i64 (-3))) (.cn (.agg #[(.int .i64 0), (.int .i64 0)]))))
  (.chk (.bd 1 1 (.cn (.int .i64 4)) (.bd 0 1 (.cn (.int .i64 0)) (.cn (.agg #[(.int .i64 0), (.int .i64 0)]))))
  (.chk (.bd 1 1 (.cn (.int .i64 0)) (.bd 0 1 (.cn (.int .i64 4)) (.cn (.agg #[(.int .i64 0), (.int .i64 0)]))))
  (.chk (.bd 46 2 (.bd 1 1 (.cn (.int .i64 0)) (.bd 0 1 (.cn (.int .i64 4)) (.cn (.agg #[(.int .i64 0), (.int .i64 0)])))) (.bd 44 2 (.bd 1 1 (.cn (.int .i64 4)) (.bd 0 1 (.cn (.int .i64 0)) (.cn (.agg #[(.int .i64 0), (.int .i64 0)])))) (.bd 42 2 (.bd 1 1 (.cn (.int .i64 2)) (.bd 0 1 (.cn (.int .i64 (-3))) (.cn (.agg #[(.int .i64 0), (.int .i64 0)])))) (.bd 40 2 (.bd 1 1 (.cn (.int .i64 2)) (.bd 0 1 (.cn (.int .i64 3)) (.cn (.agg #[(.int .i64 0), (.int .i64 0)])))) (.bd 38 2 (.bd 1 1 (.cn (.int .i64 3)) (.bd 0 1 (.cn (.int .i64 (-2))) (.cn (.agg #[(.int .i64 0), (.int .i64 0)])))) (.bd 36 2 (.bd 1 1 (.cn (.int .i64 3)) (.bd 0 1 (.cn (.int .i64 2)) (.cn (.agg #[(.int .i64 0), (.int .i64 0)])))) (.bd 34 2 (.bd 1 1 (.cn (.int .i64 1)) (.bd 0 1 (.cn (.int .i64 (-3))) (.cn (.agg #[(.int .i64 0), (.int .i64 0)])))) (.bd 32 2 (.bd 1 1 (.cn (.int .i64 1)) (.bd 0 1 (.cn (.int .i64 3)) (.cn (.agg #[(.int .i64 0), (.int .i64 0)])))) (.bd 30 2 (.bd 1 1 (.cn (.int .i64 3)) (.bd 0 1 (.cn (.int .i64 (-1))) (.cn (.agg #[(.int .i64 0), (.int .i64 0)])))) (.bd 28 2 (.bd 1 1 (.cn (.int .i64 3)) (.bd 0 1 (.cn (.int .i64 1)) (.cn (.agg #[(.int .i64 0), (.int .i64 0)])))) (.bd 26 2 (.bd 1 1 (.cn (.int .i64 0)) (.bd 0 1 (.cn (.int .i64 3)) (.cn (.agg #[(.int .i64 0), (.int .i64 0)])))) (.bd 24 2 (.bd 1 1 (.cn (.int .i64 3)) (.bd 0 1 (.cn (.int .i64 0)) (.cn (.agg #[(.int .i64 0), (.int .i64 0)])))) (.bd 22 2 (.bd 1 1 (.cn (.int .i64 2)) (.bd 0 1 (.cn (.int .i64 (-2))) (.cn (.agg #[(.int .i64 0), (.int .i64 0)])))) (.bd 20 2 (.bd 1 1 (.cn (.int .i64 2)) (.bd 0 1 (.cn (.int .i64 2)) (.cn (.agg #[(.int .i64 0), (.int .i64 0)])))) (.bd 18 2 (.bd 1 1 (.cn (.int .i64 1)) (.bd 0 1 (.cn (.int .i64 (-2))) (.cn (.agg #[(.int .i64 0), (.int .i64 0)])))) (.bd 16 2 (.bd 1 1 (.cn (.int .i64 1)) (.bd 0 1 (.cn (.int .i64 2)) (.cn (.agg #[(.int .i64 0), (.int .i64 0)])))) (.bd 14 2 (.bd 1 1 (.cn (.int .i64 2)) (.bd 0 1 (.cn (.int .i64 (-1))) (.cn (.agg #[(.int .i64 0), (.int .i64 0)])))) (.bd 12 2 (.bd 1 1 (.cn (.int .i64 2)) (.bd 0 1 (.cn (.int .i64 1)) (.cn (.agg #[(.int .i64 0), (.int .i64 0)])))) (.bd 10 2 (.bd 1 1 (.cn (.int .i64 0)) (.bd 0 1 (.cn (.int .i64 2)) (.cn (.agg #[(.int .i64 0), (.int .i64 0)])))) (.bd 8 2 (.bd 1 1 (.cn (.int .i64 2)) (.bd 0 1 (.cn (.int .i64 0)) (.cn (.agg #[(.int .i64 0), (.int .i64 0)])))) (.bd 6 2 (.bd 1 1 (.cn (.int .i64 1)) (.bd 0 1 (.cn (.int .i64 (-1))) (.cn (.agg #[(.int .i64 0), (.int .i64 0)])))) (.bd 4 2 (.bd 1 1 (.cn (.int .i64 1)) (.bd 0 1 (.cn (.int .i64 1)) (.cn (.agg #[(.int .i64 0), (.int .i64 0)])))) (.bd 2 2 (.bd 1 1 (.cn (.int .i64 0)) (.bd 0 1 (.cn (.int .i64 1)) (.cn (.agg #[(.int .i64 0), (.int .i64 0)])))) (.bd 0 2 (.bd 1 1 (.cn (.int .i64 1)) (.bd 0 1 (.cn (.int .i64 0)) (.cn (.agg #[(.int .i64 0), (.int .i64 0)])))) (.cn (.agg #[(.int .i64 0), (.int .i64 0), (.int .i64 0), (.int .i64 0), (.int .i64 0), (.int .i64 0), (.int .i64 0), (.int .i64 0), (.int .i64 0), (.int .i64 0), (.int .i64 0), (.int .i64 0), (.int .i64 0), (.int .i64 0), (.int .i64 0), (.int .i64 0), (.int .i64 0), (.int .i64 0), (.int .i64 0), (.int .i64 0), (.int .i64 0), (.int .i64 0), (.int .i64 0), (.int .i64 0), (.int .i64 0), (.int .i64 0), (.int .i64 0), (.int .i64 0), (.int .i64 0), (.int .i64 0), (.int .i64 0), (.int .i64 0), (.int .i64 0), (.int .i64 0), (.int .i64 0), (.int .i64 0), (.int .i64 0), (.int .i64 0), (.int .i64 0), (.int .i64 0), (.int .i64 0), (.int .i64 0), (.int .i64 0), (.int .i64 0), (.int .i64 0), (.int .i64 0), (.int .i64 0), (.int .i64 0)]))))))))))))))))))))))))))
  (.op (some 5) (.alloc 43) 0 [] []
  (.st 48 (.vr 5) (.bd 46 2 (.bd 1 1 (.cn (.int .i64 0)) (.bd 0 1 (.cn (.int .i64 4)) (.cn (.agg #[(.int .i64 0), (.int .i64 0)])))) (.bd 44 2 (.bd 1 1 (.cn (.int .i64 4)) (.bd 0 1 (.cn (.int .i64 0)) (.cn (.agg #[(.int .i64 0), (.int .i64 0)])))) (.bd 42 2 (.bd 1 1 (.cn (.int .i64 2)) (.bd 0 1 (.cn (.int .i64 (-3))) (.cn (.agg #[(.int .i64 0), (.int .i64 0)])))) (.bd 40 2 (.bd 1 1 (.cn (.int .i64 2)) (.bd 0 1 (.cn (.int .i64 3)) (.cn (.agg #[(.int .i64 0), (.int .i64 0)])))) (.bd 38 2 (.bd 1 1 (.cn (.int .i64 3)) (.bd 0 1 (.cn (.int .i64 (-2))) (.cn (.agg #[(.int .i64 0), (.int .i64 0)])))) (.bd 36 2 (.bd 1 1 (.cn (.int .i64 3)) (.bd 0 1 (.cn (.int .i64 2)) (.cn (.agg #[(.int .i64 0), (.int .i64 0)])))) (.bd 34 2 (.bd 1 1 (.cn (.int .i64 1)) (.bd 0 1 (.cn (.int .i64 (-3))) (.cn (.agg #[(.int .i64 0), (.int .i64 0)])))) (.bd 32 2 (.bd 1 1 (.cn (.int .i64 1)) (.bd 0 1 (.cn (.int .i64 3)) (.cn (.agg #[(.int .i64 0), (.int .i64 0)])))) (.bd 30 2 (.bd 1 1 (.cn (.int .i64 3)) (.bd 0 1 (.cn (.int .i64 (-1))) (.cn (.agg #[(.int .i64 0), (.int .i64 0)])))) (.bd 28 2 (.bd 1 1 (.cn (.int .i64 3)) (.bd 0 1 (.cn (.int .i64 1)) (.cn (.agg #[(.int .i64 0), (.int .i64 0)])))) (.bd 26 2 (.bd 1 1 (.cn (.int .i64 0)) (.bd 0 1 (.cn (.int .i64 3)) (.cn (.agg #[(.int .i64 0), (.int .i64 0)])))) (.bd 24 2 (.bd 1 1 (.cn (.int .i64 3)) (.bd 0 1 (.cn (.int .i64 0)) (.cn (.agg #[(.int .i64 0), (.int .i64 0)])))) (.bd 22 2 (.bd 1 1 (.cn (.int .i64 2)) (.bd 0 1 (.cn (.int .i64 (-2))) (.cn (.agg #[(.int .i64 0), (.int .i64 0)])))) (.bd 20 2 (.bd 1 1 (.cn (.int .i64 2)) (.bd 0 1 (.cn (.int .i64 2)) (.cn (.agg #[(.int .i64 0), (.int .i64 0)])))) (.bd 18 2 (.bd 1 1 (.cn (.int .i64 1)) (.bd 0 1 (.cn (.int .i64 (-2))) (.cn (.agg #[(.int .i64 0), (.int .i64 0)])))) (.bd 16 2 (.bd 1 1 (.cn (.int .i64 1)) (.bd 0 1 (.cn (.int .i64 2)) (.cn (.agg #[(.int .i64 0), (.int .i64 0)])))) (.bd 14 2 (.bd 1 1 (.cn (.int .i64 2)) (.bd 0 1 (.cn (.int .i64 (-1))) (.cn (.agg #[(.int .i64 0), (.int .i64 0)])))) (.bd 12 2 (.bd 1 1 (.cn (.int .i64 2)) (.bd 0 1 (.cn (.int .i64 1)) (.cn (.agg #[(.int .i64 0), (.int .i64 0)])))) (.bd 10 2 (.bd 1 1 (.cn (.int .i64 0)) (.bd 0 1 (.cn (.int .i64 2)) (.cn (.agg #[(.int .i64 0), (.int .i64 0)])))) (.bd 8 2 (.bd 1 1 (.cn (.int .i64 2)) (.bd 0 1 (.cn (.int .i64 0)) (.cn (.agg #[(.int .i64 0), (.int .i64 0)])))) (.bd 6 2 (.bd 1 1 (.cn (.int .i64 1)) (.bd 0 1 (.cn (.int .i64 (-1))) (.cn (.agg #[(.int .i64 0), (.int .i64 0)])))) (.bd 4 2 (.bd 1 1 (.cn (.int .i64 1)) (.bd 0 1 (.cn (.int .i64 1)) (.cn (.agg #[(.int .i64 0), (.int .i64 0)])))) (.bd 2 2 (.bd 1 1 (.cn (.int .i64 0)) (.bd 0 1 (.cn (.int .i64 1)) (.cn (.agg #[(.int .i64 0), (.int .i64 0)])))) (.bd 0 2 (.bd 1 1 (.cn (.int .i64 1)) (.bd 0 1 (.cn (.int .i64 0)) (.cn (.agg #[(.int .i64 0), (.int .i64 0)])))) (.cn (.agg #[(.int .i64 0), (.int .i64 0), (.int .i64 0), (.int .i64 0), (.int .i64 0), (.int .i64 0), (.int .i64 0), (.int .i64 0), (.int .i64 0), (.int .i64 0), (.int .i64 0), (.int .i64 0), (.int .i64 0), (.int .i64 0), (.int .i64 0), (.int .i64 0), (.int .i64 0), (.int .i64 0), (.int .i64 0), (.int .i64 0), (.int .i64 0), (.int .i64 0), (.int .i64 0), (.int .i64 0), (.int .i64 0), (.int .i64 0), (.int .i64 0), (.int .i64 0), (.int .i64 0), (.int .i64 0), (.int .i64 0), (.int .i64 0), (.int .i64 0), (.int .i64 0), (.int .i64 0), (.int .i64 0), (.int .i64 0), (.int .i64 0), (.int .i64 0), (.int .i64 0), (.int .i64 0), (.int .i64 0), (.int .i64 0), (.int .i64 0), (.int .i64 0), (.int .i64 0), (.int .i64 0), (.int .i64 0)])))))))))))))))))))))))))) []
  (.draw
  (.chk (.bn (.ar .sub .i64) (.vr 0) (.cn (.int .i64 1)))
  (.chk (.bn (.aa 24 2) (.vr 5) (.bn (.ar .sub .i64) (.vr 0) (.cn (.int .i64 1))))
  (.chk (.bn (.aa 2 1) (.bn (.aa 24 2) (.vr 5) (.bn (.ar .sub .i64) (.vr 0) (.cn (.int .i64 1)))) (.cn (.int .i64 1)))
  (.chk (.ld (.bn (.aa 2 1) (.bn (.aa 24 2) (.vr 5) (.bn (.ar .sub .i64) (.vr 0) (.cn (.int .i64 1)))) (.cn (.int .i64 1))))
  (.chk (.bn (.ar .mul .i64) (.ld (.bn (.aa 2 1) (.bn (.aa 24 2) (.vr 5) (.bn (.ar .sub .i64) (.vr 0) (.cn (.int .i64 1)))) (.cn (.int .i64 1)))) (.vr 1))
  (.chk (.bn (.ar .sub .i64) (.vr 0) (.cn (.int .i64 1)))
  (.chk (.bn (.aa 24 2) (.vr 5) (.bn (.ar .sub .i64) (.vr 0) (.cn (.int .i64 1))))
  (.chk (.bn (.aa 2 1) (.bn (.aa 24 2) (.vr 5) (.bn (.ar .sub .i64) (.vr 0) (.cn (.int .i64 1)))) (.cn (.int .i64 0)))
  (.chk (.ld (.bn (.aa 2 1) (.bn (.aa 24 2) (.vr 5) (.bn (.ar .sub .i64) (.vr 0) (.cn (.int .i64 1)))) (.cn (.int .i64 0))))
  (.chk (.bn (.ar .add .i64) (.bn (.ar .mul .i64) (.ld (.bn (.aa 2 1) (.bn (.aa 24 2) (.vr 5) (.bn (.ar .sub .i64) (.vr 0) (.cn (.int .i64 1)))) (.cn (.int .i64 1)))) (.vr 1)) (.ld (.bn (.aa 2 1) (.bn (.aa 24 2) (.vr 5) (.bn (.ar .sub .i64) (.vr 0) (.cn (.int .i64 1)))) (.cn (.int .i64 0)))))
  (.set 4 (.bn (.mx .i64) (.bn (.ar .add .i64) (.bn (.ar .mul .i64) (.ld (.bn (.aa 2 1) (.bn (.aa 24 2) (.vr 5) (.bn (.ar .sub .i64) (.vr 0) (.cn (.int .i64 1)))) (.cn (.int .i64 1)))) (.vr 1)) (.ld (.bn (.aa 2 1) (.bn (.aa 24 2) (.vr 5) (.bn (.ar .sub .i64) (.vr 0) (.cn (.int .i64 1)))) (.cn (.int .i64 0))))) (.cn (.int .i64 1)))
  .ret)))))))))))))))))))))))))))))))))))))))))))))))))))))
def fc9 : Fc := ⟨60, s9, [(.vr 4)]⟩
theorem c9 : compF Tryd.prog 9 = some fc9 := by kernel_rfl

/-- kinora/match.Code · parameters 2 · 0:dist 1:width 5:code -/
def s10 : S :=
  (.set 4 (.cn (.int .i64 0))
  (.chk (.bn (.cm .lss .i64) (.vr 0) (.cn (.int .i64 1)))
  (.chk (.gd (.bn (.cm .lss .i64) (.vr 0) (.cn (.int .i64 1))) false (.bn (.cm .gtr .i64) (.vr 0) (.cn (.int .i64 1024))))
  (.chk (.gd (.or (.bn (.cm .lss .i64) (.vr 0) (.cn (.int .i64 1))) (.bn (.cm .gtr .i64) (.vr 0) (.cn (.int .i64 1024)))) false (.bn (.cm .lss .i64) (.vr 1) (.cn (.int .i64 1))))
  (.chk (.gd (.or (.or (.bn (.cm .lss .i64) (.vr 0) (.cn (.int .i64 1))) (.bn (.cm .gtr .i64) (.vr 0) (.cn (.int .i64 1024)))) (.bn (.cm .lss .i64) (.vr 1) (.cn (.int .i64 1)))) false (.bn (.cm .gtr .i64) (.vr 1) (.cn (.int .i64 64))))
  (.set 19 (.or (.or (.or (.bn (.cm .lss .i64) (.vr 0) (.cn (.int .i64 1))) (.bn (.cm .gtr .i64) (.vr 0) (.cn (.int .i64 1024)))) (.bn (.cm .lss .i64) (.vr 1) (.cn (.int .i64 1)))) (.bn (.cm .gtr .i64) (.vr 1) (.cn (.int .i64 64))))
  (.ite (.vr 19)
    (.set 4 (.cn (.int .i64 0))
    .ret)
    .nil
  (.set 5 (.cn (.int .i64 1))
  (.blk 0
    (.loop
      (.chk (.bn (.cm .leq .i64) (.vr 5) (.cn (.int .i64 24)))
      (.set 21 (.bn (.cm .leq .i64) (.vr 5) (.cn (.int .i64 24)))
      (.ite (.vr 21)
        .nil
        (.exit 0)
      (.blk 1
        (.call (some 26) 8 [(.vr 5), (.vr 1)] []
        (.chk (.bn (.cm .eql .i64) (.vr 26) (.vr 0))
        (.set 28 (.bn (.cm .eql .i64) (.vr 26) (.vr 0))
        (.ite (.vr 28)
          (.set 4 (.vr 5)
          .ret)
          .nil
        .nil))))
      (.chk (.bn (.ar .add .i64) (.vr 5) (.cn (.int .i64 1)))
      (.set 5 (.bn (.ar .add .i64) (.vr 5) (.cn (.int .i64 1)))
      .nil)))))))
  (.chk (.bn (.ar .add .i64) (.vr 0) (.cn (.int .i64 24)))
  (.set 4 (.bn (.ar .add .i64) (.vr 0) (.cn (.int .i64 24)))
  .ret)))))))))))
def fc10 : Fc := ⟨32, s10, [(.vr 4)]⟩
theorem c10 : compF Tryd.prog 10 = some fc10 := by kernel_rfl

/-- kinora/kinoraref27.MatchCode · parameters 2 · 0:dist 1:width 5:code -/
def s11 : S :=
  (.set 4 (.cn (.int .i64 0))
  (.chk (.bn (.cm .lss .i64) (.vr 0) (.cn (.int .i64 1)))
  (.set 8 (.bn (.cm .lss .i64) (.vr 0) (.cn (.int .i64 1)))
  (.chk (.gd (.vr 8) false (.bn (.cm .gtr .i64) (.vr 0) (.cn (.int .i64 1024))))
  (.chk (.or (.vr 8) (.bn (.cm .gtr .i64) (.vr 0) (.cn (.int .i64 1024))))
  (.set 12 (.or (.vr 8) (.bn (.cm .gtr .i64) (.vr 0) (.cn (.int .i64 1024))))
  (.ifg (.vr 12) false
    (.call (some 14) 24 [(.vr 1)] []
    .nil)
    (.set 14 (.cn undef)
    .nil)
  (.chk (.gd (.vr 12) false (.un .not (.vr 14)))
  (.chk (.or (.vr 12) (.un .not (.vr 14)))
  (.set 16 (.or (.vr 12) (.un .not (.vr 14)))
  (.ite (.vr 16)
    (.set 4 (.cn (.int .i64 0))
    .ret)
    .nil
  (.set 5 (.cn (.int .i64 1))
  (.blk 0
    (.loop
      (.chk (.bn (.cm .leq .i64) (.vr 5) (.cn (.int .i64 24)))
      (.set 18 (.bn (.cm .leq .i64) (.vr 5) (.cn (.int .i64 24)))
      (.ite (.vr 18)
        .nil
        (.exit 0)
      (.blk 1
        (.call (some 23) 9 [(.vr 5), (.vr 1)] []
        (.chk (.bn (.cm .eql .i64) (.vr 23) (.vr 0))
        (.set 25 (.bn (.cm .eql .i64) (.vr 23) (.vr 0))
        (.ite (.vr 25)
          (.set 4 (.vr 5)
          .ret)
          .nil
        .nil))))
      (.chk (.bn (.ar .add .i64) (.vr 5) (.cn (.int .i64 1)))
      (.set 5 (.bn (.ar .add .i64) (.vr 5) (.cn (.int .i64 1)))
      .nil)))))))
  (.chk (.bn (.ar .add .i64) (.vr 0) (.cn (.int .i64 24)))
  (.set 4 (.bn (.ar .add .i64) (.vr 0) (.cn (.int .i64 24)))
  .ret)))))))))))))))
def fc11 : Fc := ⟨29, s11, [(.vr 4)]⟩
theorem c11 : compF Tryd.prog 11 = some fc11 := by kernel_rfl

/-- kinora/kinoralaw25.known · parameters 0 · 1:t 2:l 3:ok -/
def s12 : S :=
  (.set 0 (.cn (.bool false))
  (.op (some 4) (.buildSlice 26 7 #[(0, (.const (.int .i64 5))), (1, (.const (.int .i64 6))), (2, (.const (.int .i64 5))), (3, (.const (.int .i64 6))), (4, (.const (.int .i64 5))), (5, (.const (.int .i64 6))), (6, (.const (.int .i64 5)))]) 26 [] []
  (.call (some 5) 16 [(.vr 4)] []
  (.set 1 (.vr 5)
  (.call (some 8) 18 [(.vr 1), (.cn (.int .i64 7))] []
  (.chk (.un (.ex 0) (.vr 8))
  (.chk (.un (.ex 1) (.vr 8))
  (.set 2 (.un (.ex 0) (.vr 8))
  (.set 3 (.un (.ex 1) (.vr 8))
  (.chk (.bd 2 1 (.cn (.int .i64 5)) (.cn (.agg #[(.int .i64 0), (.int .i64 0), (.int .i64 0)])))
  (.chk (.bd 2 1 (.cn (.int .i64 6)) (.cn (.agg #[(.int .i64 0), (.int .i64 0), (.int .i64 0)])))
  (.chk (.bd 1 1 (.cn (.int .i64 2)) (.bd 0 1 (.cn (.int .i64 5)) (.cn (.agg #[(.int .i64 0), (.int .i64 0), (.int .i64 0)]))))
  (.op (some 15) (.buildSlice 32 3 #[(0, (.tmp 12)), (1, (.tmp 13)), (2, (.tmp 14))]) 32 [(12, (.bd 2 1 (.cn (.int .i64 5)) (.cn (.agg #[(.int .i64 0), (.int .i64 0), (.int .i64 0)])))), (13, (.bd 2 1 (.cn (.int .i64 6)) (.cn (.agg #[(.int .i64 0), (.int .i64 0), (.int .i64 0)])))), (14, (.bd 1 1 (.cn (.int .i64 2)) (.bd 0 1 (.cn (.int .i64 5)) (.cn (.agg #[(.int .i64 0), (.int .i64 0), (.int .i64 0)])))))] []
  (.call (some 16) 25 [(.vr 1), (.vr 15)] []
  (.set 17 (.vr 16)
  (.chk (.pk (.vr 17) (.vr 3) (.cn (.bool false)))
  (.set 20 (.pk (.vr 17) (.vr 3) (.cn (.bool false)))
  (.ifg (.vr 20) true
    (.op (some 22) (.buildSlice 26 7 #[(0, (.const (.int .i64 5))), (1, (.const (.int .i64 6))), (2, (.const (.int .i64 5))), (3, (.const (.int .i64 6))), (4, (.const (.int .i64 5))), (5, (.const (.int .i64 6))), (6, (.const (.int .i64 5)))]) 26 [] []
    .nil)
    (.set 22 (.cn undef)
    .nil)
  (.ifg (.vr 20) true
    (.call (some 23) 20 [(.vr 2), (.vr 22)] []
    .nil)
    (.set 23 (.cn undef)
    .nil)
  (.chk (.pk (.vr 20) (.vr 23) (.cn (.bool false)))
  (.set 25 (.pk (.vr 20) (.vr 23) (.cn (.bool false)))
  (.ifg (.vr 25) true
    (.call (some 26) 8 [(.cn (.int .i64 4)), (.cn (.int .i64 8))] []
    .nil)
    (.set 26 (.cn undef)
    .nil)
  (.chk (.gd (.vr 25) true (.bn (.cm .eql .i64) (.vr 26) (.cn (.int .i64 7))))
  (.chk (.and (.vr 25) (.bn (.cm .eql .i64) (.vr 26) (.cn (.int .i64 7))))
  (.set 29 (.and (.vr 25) (.bn (.cm .eql .i64) (.vr 26) (.cn (.int .i64 7))))
  (.ifg (.vr 29) true
    (.call (some 30) 10 [(.cn (.int .i64 8)), (.cn (.int .i64 8))] []
    .nil)
    (.set 30 (.cn undef)
    .nil)
  (.chk (.gd (.vr 29) true (.bn (.cm .eql .i64) (.vr 30) (.cn (.int .i64 1))))
  (.chk (.and (.vr 29) (.bn (.cm .eql .i64) (.vr 30) (.cn (.int .i64 1))))
  (.set 33 (.and (.vr 29) (.bn (.cm .eql .i64) (.vr 30) (.cn (.int .i64 1))))
  (.ifg (.vr 33) true
    (.call (some 34) 10 [(.cn (.int .i64 1)), (.cn (.int .i64 1))] []
    .nil)
    (.set 34 (.cn undef)
    .nil)
  (.chk (.gd (.vr 33) true (.bn (.cm .eql .i64) (.vr 34) (.cn (.int .i64 1))))
  (.chk (.and (.vr 33) (.bn (.cm .eql .i64) (.vr 34) (.cn (.int .i64 1))))
  (.set 37 (.and (.vr 33) (.bn (.cm .eql .i64) (.vr 34) (.cn (.int .i64 1))))
  (.ifg (.vr 37) true
    (.call (some 39) 19 [(.vr 1), (.cn (.int .i64 9)), (.cn (.int .i64 12))] []
    .nil)
    (.set 39 (.cn undef)
    .nil)
  (.chk (.gd (.vr 37) true (.bn (.cm .eql .i64) (.vr 39) (.cn (.int .i64 30))))
  (.chk (.and (.vr 37) (.bn (.cm .eql .i64) (.vr 39) (.cn (.int .i64 30))))
  (.set 0 (.and (.vr 37) (.bn (.cm .eql .i64) (.vr 39) (.cn (.int .i64 30))))
  .ret)))))))))))))))))))))))))))))))))))))
def fc12 : Fc := ⟨42, s12, [(.vr 0)]⟩
theorem c12 : compF Tryd.prog 12 = some fc12 := by kernel_rfl

/-- kinora/kinoralaw25.row · parameters 2 · 0:t 1:most 5:l 6:n 7:d 8:k -/
def s13 : S :=
  (.set 4 (.cn (.slice none 0 0))
  (.set 5 (.cn (.slice none 0 0))
  (.chk (.bn (.ar .add .i64) (.vr 1) (.cn (.int .i64 1)))
  (.call (some 12) 26 [(.vr 0), (.bn (.ar .add .i64) (.vr 1) (.cn (.int .i64 1)))] []
  (.set 6 (.vr 12)
  (.blk 0
    (.loop
      (.chk (.un .ln (.vr 5))
      (.chk (.bn (.cm .lss .i64) (.un .ln (.vr 5)) (.vr 6))
      (.set 16 (.bn (.cm .lss .i64) (.un .ln (.vr 5)) (.vr 6))
      (.ite (.vr 16)
        .nil
        (.exit 0)
      (.blk 1
        (.chk (.un .ln (.vr 5))
        (.set 20 (.bn (.cm .gtr .i64) (.un .ln (.vr 5)) (.cn (.int .i64 0)))
        (.ifg (.vr 20) true
          (.call (some 22) 26 [(.vr 0), (.cn (.int .i64 3))] []
          .nil)
          (.set 22 (.cn undef)
          .nil)
        (.chk (.gd (.vr 20) true (.bn (.cm .gtr .i64) (.vr 22) (.cn (.int .i64 0))))
        (.chk (.and (.vr 20) (.bn (.cm .gtr .i64) (.vr 22) (.cn (.int .i64 0))))
        (.set 24 (.and (.vr 20) (.bn (.cm .gtr .i64) (.vr 22) (.cn (.int .i64 0))))
        (.ite (.vr 24)
          (.chk (.un .ln (.vr 5))
          (.call (some 29) 26 [(.vr 0), (.bn (.mn .i64) (.un .ln (.vr 5)) (.cn (.int .i64 40)))] []
          (.chk (.bn (.ar .add .i64) (.cn (.int .i64 1)) (.vr 29))
          (.set 7 (.bn (.ar .add .i64) (.cn (.int .i64 1)) (.vr 29))
          (.call (some 32) 26 [(.vr 0), (.cn (.int .i64 20))] []
          (.set 8 (.vr 32)
          (.blk 2
            (.loop
              (.chk (.bn (.cm .geq .i64) (.vr 8) (.cn (.int .i64 0)))
              (.set 34 (.bn (.cm .geq .i64) (.vr 8) (.cn (.int .i64 0)))
              (.ite (.vr 34)
                .nil
                (.exit 2)
              (.blk 3
                (.chk (.un .ln (.vr 5))
                (.chk (.bn (.ar .sub .i64) (.un .ln (.vr 5)) (.vr 7))
                (.chk (.bn (.ia 1) (.vr 5) (.bn (.ar .sub .i64) (.un .ln (.vr 5)) (.vr 7)))
                (.chk (.ld (.bn (.ia 1) (.vr 5) (.bn (.ar .sub .i64) (.un .ln (.vr 5)) (.vr 7))))
                (.set 44 (.ld (.bn (.ia 1) (.vr 5) (.bn (.ar .sub .i64) (.un .ln (.vr 5)) (.vr 7))))
                (.op (some 45) (.buildSlice 26 1 #[(0, (.tmp 44))]) 26 [(44, (.vr 44))] []
                (.op (some 46) (.call ⟨(.builtin .append), #[(.tmp 37), (.tmp 45)], #[26, 26]⟩) 26 [(37, (.vr 5)), (45, (.vr 45))] []
                (.set 5 (.vr 46)
                .nil))))))))
              (.chk (.bn (.ar .sub .i64) (.vr 8) (.cn (.int .i64 1)))
              (.set 8 (.bn (.ar .sub .i64) (.vr 8) (.cn (.int .i64 1)))
              .nil)))))))
          .nil)))))))
          (.call (some 49) 26 [(.vr 0), (.cn (.int .i64 4))] []
          (.op (some 50) (.buildSlice 26 1 #[(0, (.tmp 49))]) 26 [(49, (.vr 49))] []
          (.op (some 51) (.call ⟨(.builtin .append), #[(.tmp 47), (.tmp 50)], #[26, 26]⟩) 26 [(47, (.vr 5)), (50, (.vr 50))] []
          (.set 5 (.vr 51)
          .nil))))
        .nil)))))))
      .nil))))))
  (.set 4 (.vr 5)
  .ret)))))))
def fc13 : Fc := ⟨53, s13, [(.vr 4)]⟩
theorem c13 : compF Tryd.prog 13 = some fc13 := by kernel_rfl

/-- kinora/kinorakeep2.New · parameters 1 · 0:l -/
def s14 : S :=
  (.set 2 (.cn (.pointer none))
  (.chk (.bd 0 1 (.vr 0) (.cn (.agg #[(.slice none 0 0), (.int .i64 0)])))
  (.op (some 5) (.box 50 (.tmp 4)) 28 [(4, (.bd 0 1 (.vr 0) (.cn (.agg #[(.slice none 0 0), (.int .i64 0)]))))] []
  (.set 2 (.vr 5)
  .ret))))
def fc14 : Fc := ⟨6, s14, [(.vr 2)]⟩
theorem c14 : compF Tryd.prog 14 = some fc14 := by kernel_rfl

/-- kinora/kinoralaw25.finds · parameters 4 · 0:l 1:at 2:lit 3:copied 9:a 10:b 11:c 12:d -/
def s15 : S :=
  (.set 8 (.cn (.bool false))
  (.call (some 16) 27 [(.vr 0), (.vr 1)] []
  (.chk (.un (.ex 0) (.vr 16))
  (.chk (.un (.ex 1) (.vr 16))
  (.set 9 (.un (.ex 0) (.vr 16))
  (.set 10 (.un (.ex 1) (.vr 16))
  (.call (some 22) 28 [(.vr 0), (.vr 1)] []
  (.chk (.un (.ex 0) (.vr 22))
  (.chk (.un (.ex 1) (.vr 22))
  (.set 11 (.un (.ex 0) (.vr 22))
  (.set 12 (.un (.ex 1) (.vr 22))
  (.chk (.bn (.cm .eql .i64) (.vr 9) (.vr 11))
  (.set 28 (.bn (.cm .eql .i64) (.vr 9) (.vr 11))
  (.chk (.gd (.vr 28) true (.bn (.cm .eql .i64) (.vr 10) (.vr 12)))
  (.chk (.and (.vr 28) (.bn (.cm .eql .i64) (.vr 10) (.vr 12)))
  (.set 33 (.and (.vr 28) (.bn (.cm .eql .i64) (.vr 10) (.vr 12)))
  (.ifg (.vr 33) true
    (.call (some 35) 16 [(.vr 0)] []
    .nil)
    (.set 35 (.cn undef)
    .nil)
  (.ifg (.vr 33) true
    (.call (some 37) 29 [(.vr 0)] []
    .nil)
    (.set 37 (.cn undef)
    .nil)
  (.ifg (.vr 33) true
    (.call (some 38) 25 [(.vr 35), (.vr 37)] []
    .nil)
    (.set 38 (.cn undef)
    .nil)
  (.chk (.pk (.vr 33) (.vr 38) (.cn (.bool false)))
  (.set 40 (.pk (.vr 33) (.vr 38) (.cn (.bool false)))
  (.ifg (.vr 40) true
    (.call (some 44) 17 [(.vr 0), (.vr 2), (.vr 3)] []
    .nil)
    (.set 44 (.cn undef)
    .nil)
  (.ifg (.vr 40) true
    (.call (some 48) 30 [(.vr 0), (.vr 2), (.vr 3)] []
    .nil)
    (.set 48 (.cn undef)
    .nil)
  (.ifg (.vr 40) true
    (.call (some 49) 25 [(.vr 44), (.vr 48)] []
    .nil)
    (.set 49 (.cn undef)
    .nil)
  (.chk (.pk (.vr 40) (.vr 49) (.cn (.bool false)))
  (.set 8 (.pk (.vr 40) (.vr 49) (.cn (.bool false)))
  .ret))))))))))))))))))))))))))
def fc15 : Fc := ⟨51, s15, [(.vr 8)]⟩
theorem c15 : compF Tryd.prog 15 = some fc15 := by kernel_rfl

/-- kinora/match.Greedy · parameters 1 · 0:l 3:t 4:at 5:length 6:dist -/
def s16 : S :=
  (.set 2 (.cn (.slice none 0 0))
  (.set 3 (.cn (.slice none 0 0))
  (.set 4 (.cn (.int .i64 0))
  (.blk 0
    (.loop
      (.chk (.un .ln (.vr 0))
      (.chk (.bn (.cm .lss .i64) (.vr 4) (.un .ln (.vr 0)))
      (.set 10 (.bn (.cm .lss .i64) (.vr 4) (.un .ln (.vr 0)))
      (.ite (.vr 10)
        .nil
        (.exit 0)
      (.blk 1
        (.call (some 14) 27 [(.vr 0), (.vr 4)] []
        (.chk (.un (.ex 0) (.vr 14))
        (.chk (.un (.ex 1) (.vr 14))
        (.set 5 (.un (.ex 0) (.vr 14))
        (.set 6 (.un (.ex 1) (.vr 14))
        (.chk (.bn (.cm .eql .i64) (.vr 5) (.cn (.int .i64 0)))
        (.set 18 (.bn (.cm .eql .i64) (.vr 5) (.cn (.int .i64 0)))
        (.ite (.vr 18)
          (.chk (.bn (.ia 1) (.vr 0) (.vr 4))
          (.chk (.ld (.bn (.ia 1) (.vr 0) (.vr 4)))
          (.set 23 (.ld (.bn (.ia 1) (.vr 0) (.vr 4)))
          (.chk (.bd 2 1 (.vr 23) (.cn (.agg #[(.int .i64 0), (.int .i64 0), (.int .i64 0)])))
          (.op (some 25) (.buildSlice 32 1 #[(0, (.tmp 24))]) 32 [(24, (.bd 2 1 (.vr 23) (.cn (.agg #[(.int .i64 0), (.int .i64 0), (.int .i64 0)]))))] []
          (.op (some 26) (.call ⟨(.builtin .append), #[(.tmp 19), (.tmp 25)], #[32, 32]⟩) 32 [(19, (.vr 3)), (25, (.vr 25))] []
          (.set 3 (.vr 26)
          (.chk (.bn (.ar .add .i64) (.vr 4) (.cn (.int .i64 1)))
          (.set 4 (.bn (.ar .add .i64) (.vr 4) (.cn (.int .i64 1)))
          (.exit 1))))))))))
          .nil
        (.chk (.bd 1 1 (.vr 6) (.bd 0 1 (.vr 5) (.cn (.agg #[(.int .i64 0), (.int .i64 0), (.int .i64 0)]))))
        (.op (some 33) (.buildSlice 32 1 #[(0, (.tmp 32))]) 32 [(32, (.bd 1 1 (.vr 6) (.bd 0 1 (.vr 5) (.cn (.agg #[(.int .i64 0), (.int .i64 0), (.int .i64 0)])))))] []
        (.op (some 34) (.call ⟨(.builtin .append), #[(.tmp 29), (.tmp 33)], #[32, 32]⟩) 32 [(29, (.vr 3)), (33, (.vr 33))] []
        (.set 3 (.vr 34)
        (.chk (.bn (.ar .add .i64) (.vr 4) (.vr 5))
        (.set 4 (.bn (.ar .add .i64) (.vr 4) (.vr 5))
        .nil))))))))))))))
      .nil))))))
  (.set 2 (.vr 3)
  .ret)))))
def fc16 : Fc := ⟨39, s16, [(.vr 2)]⟩
theorem c16 : compF Tryd.prog 16 = some fc16 := by kernel_rfl

/-- kinora/match.Least · parameters 3 · 0:l 1:lit 2:copied 7:runs 8:costs 9:first 10:at 11:n 12:dist 13:cost 14:t 15:at -/
def s17 : S :=
  (.set 6 (.cn (.slice none 0 0))
  (.chk (.bn (.cm .lss .i64) (.vr 1) (.cn (.int .i64 1)))
  (.chk (.gd (.bn (.cm .lss .i64) (.vr 1) (.cn (.int .i64 1))) false (.bn (.cm .gtr .i64) (.vr 1) (.cn (.int .i64 1048576))))
  (.chk (.gd (.or (.bn (.cm .lss .i64) (.vr 1) (.cn (.int .i64 1))) (.bn (.cm .gtr .i64) (.vr 1) (.cn (.int .i64 1048576)))) false (.bn (.cm .lss .i64) (.vr 2) (.cn (.int .i64 1))))
  (.chk (.gd (.or (.or (.bn (.cm .lss .i64) (.vr 1) (.cn (.int .i64 1))) (.bn (.cm .gtr .i64) (.vr 1) (.cn (.int .i64 1048576)))) (.bn (.cm .lss .i64) (.vr 2) (.cn (.int .i64 1)))) false (.bn (.cm .gtr .i64) (.vr 2) (.cn (.int .i64 1048576))))
  (.set 29 (.or (.or (.or (.bn (.cm .lss .i64) (.vr 1) (.cn (.int .i64 1))) (.bn (.cm .gtr .i64) (.vr 1) (.cn (.int .i64 1048576)))) (.bn (.cm .lss .i64) (.vr 2) (.cn (.int .i64 1)))) (.bn (.cm .gtr .i64) (.vr 2) (.cn (.int .i64 1048576))))
  (.ite (.vr 29)
    (.set 6 (.cn (.slice none 0 0))
    .ret)
    .nil
  (.op (some 7) (.alloc 53) 0 [] []
  (.chk (.un .ln (.vr 0))
  (.op (some 33) (.makeSlice 26 (.tmp 32) (.tmp 32)) 26 [(32, (.bn (.ar .add .i64) (.un .ln (.vr 0)) (.cn (.int .i64 1)))), (32, (.bn (.ar .add .i64) (.un .ln (.vr 0)) (.cn (.int .i64 1))))] []
  (.set 8 (.vr 33)
  (.chk (.un .ln (.vr 0))
  (.op (some 36) (.makeSlice 32 (.tmp 35) (.tmp 35)) 32 [(35, (.un .ln (.vr 0))), (35, (.un .ln (.vr 0)))] []
  (.set 9 (.vr 36)
  (.chk (.un .ln (.vr 0))
  (.set 10 (.bn (.ar .sub .i64) (.un .ln (.vr 0)) (.cn (.int .i64 1)))
  (.blk 0
    (.loop
      (.chk (.bn (.cm .geq .i64) (.vr 10) (.cn (.int .i64 0)))
      (.set 41 (.bn (.cm .geq .i64) (.vr 10) (.cn (.int .i64 0)))
      (.ite (.vr 41)
        .nil
        (.exit 0)
      (.blk 1
        (.chk (.bn (.ar .add .i64) (.vr 10) (.cn (.int .i64 1)))
        (.chk (.bn (.ia 1) (.vr 8) (.bn (.ar .add .i64) (.vr 10) (.cn (.int .i64 1))))
        (.chk (.ld (.bn (.ia 1) (.vr 8) (.bn (.ar .add .i64) (.vr 10) (.cn (.int .i64 1)))))
        (.set 50 (.ld (.bn (.ia 1) (.vr 8) (.bn (.ar .add .i64) (.vr 10) (.cn (.int .i64 1)))))
        (.chk (.bn (.ar .add .i64) (.vr 50) (.vr 1))
        (.chk (.bn (.ia 1) (.vr 8) (.vr 10))
        (.st 1 (.bn (.ia 1) (.vr 8) (.vr 10)) (.bn (.ar .add .i64) (.vr 50) (.vr 1)) []
        (.chk (.bn (.ia 1) (.vr 0) (.vr 10))
        (.chk (.ld (.bn (.ia 1) (.vr 0) (.vr 10)))
        (.set 59 (.ld (.bn (.ia 1) (.vr 0) (.vr 10)))
        (.chk (.bd 2 1 (.vr 59) (.cn (.agg #[(.int .i64 0), (.int .i64 0), (.int .i64 0)])))
        (.chk (.bn (.ia 3) (.vr 9) (.vr 10))
        (.st 3 (.bn (.ia 3) (.vr 9) (.vr 10)) (.bd 2 1 (.vr 59) (.cn (.agg #[(.int .i64 0), (.int .i64 0), (.int .i64 0)]))) []
        (.call (some 64) 31 [(.vr 0), (.vr 10), (.vr 7)] []
        (.set 65 (.cn (.int .i64 0))
        (.blk 2
          (.loop
            (.chk (.bn (.cm .lss .i64) (.vr 65) (.cn (.int .i64 65)))
            (.set 66 (.bn (.cm .lss .i64) (.vr 65) (.cn (.int .i64 65)))
            (.ite (.vr 66)
              .nil
              (.exit 2)
            (.blk 3
              (.chk (.bn (.ix1 65 1) (.vr 64) (.vr 65))
              (.set 11 (.vr 65)
              (.set 12 (.bn (.ix1 65 1) (.vr 64) (.vr 65))
              (.chk (.bn (.cm .lss .i64) (.vr 11) (.cn (.int .i64 3)))
              (.chk (.gd (.bn (.cm .lss .i64) (.vr 11) (.cn (.int .i64 3))) false (.bn (.cm .eql .i64) (.vr 12) (.cn (.int .i64 0))))
              (.set 74 (.or (.bn (.cm .lss .i64) (.vr 11) (.cn (.int .i64 3))) (.bn (.cm .eql .i64) (.vr 12) (.cn (.int .i64 0))))
              (.ite (.vr 74)
                (.exit 3)
                .nil
              (.chk (.bn (.ar .add .i64) (.vr 10) (.vr 11))
              (.chk (.bn (.ia 1) (.vr 8) (.bn (.ar .add .i64) (.vr 10) (.vr 11)))
              (.chk (.ld (.bn (.ia 1) (.vr 8) (.bn (.ar .add .i64) (.vr 10) (.vr 11))))
              (.chk (.bn (.ar .add .i64) (.ld (.bn (.ia 1) (.vr 8) (.bn (.ar .add .i64) (.vr 10) (.vr 11)))) (.vr 2))
              (.set 13 (.bn (.ar .add .i64) (.ld (.bn (.ia 1) (.vr 8) (.bn (.ar .add .i64) (.vr 10) (.vr 11)))) (.vr 2))
              (.chk (.bn (.ia 1) (.vr 8) (.vr 10))
              (.chk (.ld (.bn (.ia 1) (.vr 8) (.vr 10)))
              (.chk (.bn (.cm .leq .i64) (.vr 13) (.ld (.bn (.ia 1) (.vr 8) (.vr 10))))
              (.set 88 (.bn (.cm .leq .i64) (.vr 13) (.ld (.bn (.ia 1) (.vr 8) (.vr 10))))
              (.ite (.vr 88)
                (.chk (.bd 1 1 (.vr 12) (.bd 0 1 (.vr 11) (.cn (.agg #[(.int .i64 0), (.int .i64 0), (.int .i64 0)]))))
                (.chk (.bn (.ia 1) (.vr 8) (.vr 10))
                (.st 1 (.bn (.ia 1) (.vr 8) (.vr 10)) (.vr 13) []
                (.chk (.bn (.ia 3) (.vr 9) (.vr 10))
                (.st 3 (.bn (.ia 3) (.vr 9) (.vr 10)) (.bd 1 1 (.vr 12) (.bd 0 1 (.vr 11) (.cn (.agg #[(.int .i64 0), (.int .i64 0), (.int .i64 0)])))) []
                .nil)))))
                .nil
              .nil)))))))))))))))))
            (.chk (.bn (.ar .add .i64) (.vr 65) (.cn (.int .i64 1)))
            (.set 65 (.bn (.ar .add .i64) (.vr 65) (.cn (.int .i64 1)))
            .nil)))))))
        .nil))))))))))))))))
      (.chk (.bn (.ar .sub .i64) (.vr 10) (.cn (.int .i64 1)))
      (.set 10 (.bn (.ar .sub .i64) (.vr 10) (.cn (.int .i64 1)))
      .nil)))))))
  (.set 14 (.cn (.slice none 0 0))
  (.set 15 (.cn (.int .i64 0))
  (.blk 4
    (.loop
      (.chk (.un .ln (.vr 0))
      (.chk (.bn (.cm .lss .i64) (.vr 15) (.un .ln (.vr 0)))
      (.set 103 (.bn (.cm .lss .i64) (.vr 15) (.un .ln (.vr 0)))
      (.ite (.vr 103)
        .nil
        (.exit 4)
      (.blk 5
        (.chk (.bn (.ia 3) (.vr 9) (.vr 15))
        (.chk (.ldn 3 (.bn (.ia 3) (.vr 9) (.vr 15)))
        (.set 116 (.ldn 3 (.bn (.ia 3) (.vr 9) (.vr 15)))
        (.op (some 117) (.buildSlice 32 1 #[(0, (.tmp 116))]) 32 [(116, (.vr 116))] []
        (.op (some 118) (.call ⟨(.builtin .append), #[(.tmp 112), (.tmp 117)], #[32, 32]⟩) 32 [(112, (.vr 14)), (117, (.vr 117))] []
        (.set 14 (.vr 118)
        .nil))))))
      (.chk (.bn (.ia 3) (.vr 9) (.vr 15))
      (.chk (.un (.fa 0) (.bn (.ia 3) (.vr 9) (.vr 15)))
      (.chk (.ld (.un (.fa 0) (.bn (.ia 3) (.vr 9) (.vr 15))))
      (.chk (.bn (.mx .i64) (.ld (.un (.fa 0) (.bn (.ia 3) (.vr 9) (.vr 15)))) (.cn (.int .i64 1)))
      (.chk (.bn (.ar .add .i64) (.vr 15) (.bn (.mx .i64) (.ld (.un (.fa 0) (.bn (.ia 3) (.vr 9) (.vr 15)))) (.cn (.int .i64 1))))
      (.set 15 (.bn (.ar .add .i64) (.vr 15) (.bn (.mx .i64) (.ld (.un (.fa 0) (.bn (.ia 3) (.vr 9) (.vr 15)))) (.cn (.int .i64 1))))
      .nil))))))))))))
  (.set 6 (.vr 14)
  .ret)))))))))))))))))))))
def fc17 : Fc := ⟨120, s17, [(.vr 6)]⟩
theorem c17 : compF Tryd.prog 17 = some fc17 := by kernel_rfl

/-- kinora/match.Expand · parameters 2 · 0:t 1:most 6:l 8:token -/
def s18 : S :=
  (.set 4 (.cn (.slice none 0 0))
  (.set 5 (.cn (.bool false))
  (.call (some 10) 21 [(.vr 0)] []
  (.chk (.un .not (.vr 10))
  (.set 12 (.un .not (.vr 10))
  (.chk (.gd (.vr 12) false (.bn (.cm .lss .i64) (.vr 1) (.cn (.int .i64 0))))
  (.chk (.or (.vr 12) (.bn (.cm .lss .i64) (.vr 1) (.cn (.int .i64 0))))
  (.set 15 (.or (.vr 12) (.bn (.cm .lss .i64) (.vr 1) (.cn (.int .i64 0))))
  (.ite (.vr 15)
    (.set 4 (.cn (.slice none 0 0))
    (.set 5 (.cn (.bool false))
    .ret))
    .nil
  (.set 6 (.cn (.slice none 0 0))
  (.set 16 (.vr 0)
  (.chk (.un .ln (.vr 16))
  (.set 17 (.un .ln (.vr 16))
  (.set 18 (.cn (.int .i64 0))
  (.blk 0
    (.loop
      (.chk (.bn (.cm .lss .i64) (.vr 18) (.vr 17))
      (.set 19 (.bn (.cm .lss .i64) (.vr 18) (.vr 17))
      (.ite (.vr 19)
        .nil
        (.exit 0)
      (.blk 1
        (.chk (.bn (.ia 3) (.vr 16) (.vr 18))
        (.chk (.ldn 3 (.bn (.ia 3) (.vr 16) (.vr 18)))
        (.set 21 (.ldn 3 (.bn (.ia 3) (.vr 16) (.vr 18)))
        (.op (some 8) (.alloc 47) 0 [] []
        (.st 3 (.vr 8) (.vr 21) []
        (.chk (.un (.fa 0) (.vr 8))
        (.chk (.ld (.un (.fa 0) (.vr 8)))
        (.chk (.bn (.mx .i64) (.ld (.un (.fa 0) (.vr 8))) (.cn (.int .i64 1)))
        (.chk (.un .ln (.vr 6))
        (.chk (.bn (.ar .sub .i64) (.vr 1) (.un .ln (.vr 6)))
        (.chk (.gd (.bn (.cm .gtr .i64) (.bn (.mx .i64) (.ld (.un (.fa 0) (.vr 8))) (.cn (.int .i64 1))) (.bn (.ar .sub .i64) (.vr 1) (.un .ln (.vr 6)))) false (.un (.fa 1) (.vr 8)))
        (.chk (.gd (.bn (.cm .gtr .i64) (.bn (.mx .i64) (.ld (.un (.fa 0) (.vr 8))) (.cn (.int .i64 1))) (.bn (.ar .sub .i64) (.vr 1) (.un .ln (.vr 6)))) false (.ld (.un (.fa 1) (.vr 8))))
        (.chk (.gd (.bn (.cm .gtr .i64) (.bn (.mx .i64) (.ld (.un (.fa 0) (.vr 8))) (.cn (.int .i64 1))) (.bn (.ar .sub .i64) (.vr 1) (.un .ln (.vr 6)))) false (.un .ln (.vr 6)))
        (.chk (.gd (.bn (.cm .gtr .i64) (.bn (.mx .i64) (.ld (.un (.fa 0) (.vr 8))) (.cn (.int .i64 1))) (.bn (.ar .sub .i64) (.vr 1) (.un .ln (.vr 6)))) false (.bn (.cm .gtr .i64) (.ld (.un (.fa 1) (.vr 8))) (.un .ln (.vr 6))))
        (.set 36 (.or (.bn (.cm .gtr .i64) (.bn (.mx .i64) (.ld (.un (.fa 0) (.vr 8))) (.cn (.int .i64 1))) (.bn (.ar .sub .i64) (.vr 1) (.un .ln (.vr 6)))) (.bn (.cm .gtr .i64) (.ld (.un (.fa 1) (.vr 8))) (.un .ln (.vr 6))))
        (.ite (.vr 36)
          (.set 4 (.cn (.slice none 0 0))
          (.set 5 (.cn (.bool false))
          .ret))
          .nil
        (.chk (.ldn 3 (.vr 8))
        (.set 38 (.ldn 3 (.vr 8))
        (.call (some 39) 32 [(.vr 6), (.vr 38)] []
        (.set 6 (.vr 39)
        .nil))))))))))))))))))))
      (.chk (.bn (.ar .add .i64) (.vr 18) (.cn (.int .i64 1)))
      (.set 18 (.bn (.ar .add .i64) (.vr 18) (.cn (.int .i64 1)))
      .nil)))))))
  (.set 4 (.vr 6)
  (.set 5 (.cn (.bool true))
  .ret)))))))))))))))))
def fc18 : Fc := ⟨42, s18, [(.vr 4), (.vr 5)]⟩
theorem c18 : compF Tryd.prog 18 = some fc18 := by kernel_rfl

/-- kinora/match.Cost · parameters 3 · 0:t 1:lit 2:copied 7:sum 9:token -/
def s19 : S :=
  (.set 6 (.cn (.int .i64 0))
  (.chk (.bn (.cm .lss .i64) (.vr 1) (.cn (.int .i64 0)))
  (.set 12 (.bn (.cm .lss .i64) (.vr 1) (.cn (.int .i64 0)))
  (.chk (.gd (.vr 12) false (.bn (.cm .gtr .i64) (.vr 1) (.cn (.int .i64 1048576))))
  (.chk (.or (.vr 12) (.bn (.cm .gtr .i64) (.vr 1) (.cn (.int .i64 1048576))))
  (.set 16 (.or (.vr 12) (.bn (.cm .gtr .i64) (.vr 1) (.cn (.int .i64 1048576))))
  (.chk (.gd (.vr 16) false (.bn (.cm .lss .i64) (.vr 2) (.cn (.int .i64 0))))
  (.chk (.or (.vr 16) (.bn (.cm .lss .i64) (.vr 2) (.cn (.int .i64 0))))
  (.set 20 (.or (.vr 16) (.bn (.cm .lss .i64) (.vr 2) (.cn (.int .i64 0))))
  (.chk (.gd (.vr 20) false (.bn (.cm .gtr .i64) (.vr 2) (.cn (.int .i64 1048576))))
  (.chk (.or (.vr 20) (.bn (.cm .gtr .i64) (.vr 2) (.cn (.int .i64 1048576))))
  (.set 24 (.or (.vr 20) (.bn (.cm .gtr .i64) (.vr 2) (.cn (.int .i64 1048576))))
  (.ifg (.vr 24) false
    (.call (some 26) 21 [(.vr 0)] []
    .nil)
    (.set 26 (.cn undef)
    .nil)
  (.chk (.gd (.vr 24) false (.un .not (.vr 26)))
  (.chk (.or (.vr 24) (.un .not (.vr 26)))
  (.set 28 (.or (.vr 24) (.un .not (.vr 26)))
  (.ite (.vr 28)
    (.set 6 (.cn (.int .i64 0))
    .ret)
    .nil
  (.set 7 (.cn (.int .i64 0))
  (.set 29 (.vr 0)
  (.chk (.un .ln (.vr 29))
  (.set 30 (.un .ln (.vr 29))
  (.set 31 (.cn (.int .i64 0))
  (.blk 0
    (.loop
      (.chk (.bn (.cm .lss .i64) (.vr 31) (.vr 30))
      (.set 32 (.bn (.cm .lss .i64) (.vr 31) (.vr 30))
      (.ite (.vr 32)
        .nil
        (.exit 0)
      (.blk 1
        (.chk (.bn (.ia 3) (.vr 29) (.vr 31))
        (.chk (.ldn 3 (.bn (.ia 3) (.vr 29) (.vr 31)))
        (.set 34 (.ldn 3 (.bn (.ia 3) (.vr 29) (.vr 31)))
        (.op (some 9) (.alloc 47) 0 [] []
        (.st 3 (.vr 9) (.vr 34) []
        (.chk (.ldn 3 (.vr 9))
        (.set 35 (.ldn 3 (.vr 9))
        (.call (some 36) 33 [(.vr 35)] []
        (.ite (.vr 36)
          (.chk (.bn (.ar .add .i64) (.vr 7) (.vr 1))
          (.set 7 (.bn (.ar .add .i64) (.vr 7) (.vr 1))
          .nil))
          (.chk (.bn (.ar .add .i64) (.vr 7) (.vr 2))
          (.set 7 (.bn (.ar .add .i64) (.vr 7) (.vr 2))
          .nil))
        .nil)))))))))
      (.chk (.bn (.ar .add .i64) (.vr 31) (.cn (.int .i64 1)))
      (.set 31 (.bn (.ar .add .i64) (.vr 31) (.cn (.int .i64 1)))
      .nil)))))))
  (.set 6 (.vr 7)
  .ret))))))))))))))))))))))))
def fc19 : Fc := ⟨45, s19, [(.vr 6)]⟩
theorem c19 : compF Tryd.prog 19 = some fc19 := by kernel_rfl

/-- kinora/kinoraref24.Ints · parameters 2 · 0:a 1:b 5:i -/
def s20 : S :=
  (.set 4 (.cn (.bool false))
  (.chk (.un .ln (.vr 0))
  (.chk (.un .ln (.vr 1))
  (.set 10 (.bn (.cm .neq .i64) (.un .ln (.vr 0)) (.un .ln (.vr 1)))
  (.ite (.vr 10)
    (.set 4 (.cn (.bool false))
    .ret)
    .nil
  (.set 5 (.cn (.int .i64 0))
  (.blk 0
    (.loop
      (.chk (.un .ln (.vr 0))
      (.chk (.bn (.cm .lss .i64) (.vr 5) (.un .ln (.vr 0)))
      (.set 14 (.bn (.cm .lss .i64) (.vr 5) (.un .ln (.vr 0)))
      (.ite (.vr 14)
        .nil
        (.exit 0)
      (.blk 1
        (.draw
        (.chk (.bn (.ia 1) (.vr 0) (.vr 5))
        (.chk (.ld (.bn (.ia 1) (.vr 0) (.vr 5)))
        (.chk (.bn (.ia 1) (.vr 1) (.vr 5))
        (.chk (.ld (.bn (.ia 1) (.vr 1) (.vr 5)))
        (.chk (.bn (.cm .neq .i64) (.ld (.bn (.ia 1) (.vr 0) (.vr 5))) (.ld (.bn (.ia 1) (.vr 1) (.vr 5))))
        (.set 25 (.bn (.cm .neq .i64) (.ld (.bn (.ia 1) (.vr 0) (.vr 5))) (.ld (.bn (.ia 1) (.vr 1) (.vr 5))))
        (.ite (.vr 25)
          (.set 4 (.cn (.bool false))
          .ret)
          .nil
        .nil))))))))
      (.chk (.bn (.ar .add .i64) (.vr 5) (.cn (.int .i64 1)))
      (.set 5 (.bn (.ar .add .i64) (.vr 5) (.cn (.int .i64 1)))
      .nil))))))))
  (.set 4 (.cn (.bool true))
  .ret))))))))
def fc20 : Fc := ⟨26, s20, [(.vr 4)]⟩
theorem c20 : compF Tryd.prog 20 = some fc20 := by kernel_rfl

/-- kinora/match.May · parameters 1 · 0:t 4:token -/
def s21 : S :=
  (.set 2 (.cn (.bool false))
  (.set 5 (.vr 0)
  (.chk (.un .ln (.vr 5))
  (.set 6 (.un .ln (.vr 5))
  (.set 7 (.cn (.int .i64 0))
  (.blk 0
    (.loop
      (.chk (.bn (.cm .lss .i64) (.vr 7) (.vr 6))
      (.set 8 (.bn (.cm .lss .i64) (.vr 7) (.vr 6))
      (.ite (.vr 8)
        .nil
        (.exit 0)
      (.blk 1
        (.chk (.bn (.ia 3) (.vr 5) (.vr 7))
        (.chk (.ldn 3 (.bn (.ia 3) (.vr 5) (.vr 7)))
        (.set 10 (.ldn 3 (.bn (.ia 3) (.vr 5) (.vr 7)))
        (.op (some 4) (.alloc 47) 0 [] []
        (.st 3 (.vr 4) (.vr 10) []
        (.chk (.ldn 3 (.vr 4))
        (.set 11 (.ldn 3 (.vr 4))
        (.call (some 12) 33 [(.vr 11)] []
        (.chk (.un .not (.vr 12))
        (.set 14 (.un .not (.vr 12))
        (.chk (.gd (.vr 14) true (.ldn 3 (.vr 4)))
        (.set 15 (.gd (.vr 14) true (.ldn 3 (.vr 4)))
        (.ifg (.vr 14) true
          (.call (some 16) 34 [(.vr 15)] []
          .nil)
          (.set 16 (.cn undef)
          .nil)
        (.chk (.gd (.vr 14) true (.un .not (.vr 16)))
        (.chk (.and (.vr 14) (.un .not (.vr 16)))
        (.set 18 (.and (.vr 14) (.un .not (.vr 16)))
        (.ite (.vr 18)
          (.set 2 (.cn (.bool false))
          .ret)
          .nil
        .nil)))))))))))))))))
      (.chk (.bn (.ar .add .i64) (.vr 7) (.cn (.int .i64 1)))
      (.set 7 (.bn (.ar .add .i64) (.vr 7) (.cn (.int .i64 1)))
      .nil)))))))
  (.set 2 (.cn (.bool true))
  .ret)))))))
def fc21 : Fc := ⟨20, s21, [(.vr 2)]⟩
theorem c21 : compF Tryd.prog 21 = some fc21 := by kernel_rfl

/-- kinora/kinoralaw25.some · parameters 2 · 0:t 1:most 5:l 6:n 7:k 8:x -/
def s22 : S :=
  (.set 4 (.cn (.slice none 0 0))
  (.set 5 (.cn (.slice none 0 0))
  (.set 6 (.cn (.int .i64 0))
  (.chk (.bn (.ar .add .i64) (.vr 1) (.cn (.int .i64 1)))
  (.call (some 12) 26 [(.vr 0), (.bn (.ar .add .i64) (.vr 1) (.cn (.int .i64 1)))] []
  (.set 7 (.vr 12)
  (.blk 0
    (.loop
      (.chk (.bn (.cm .gtr .i64) (.vr 7) (.cn (.int .i64 0)))
      (.set 14 (.bn (.cm .gtr .i64) (.vr 7) (.cn (.int .i64 0)))
      (.ite (.vr 14)
        .nil
        (.exit 0)
      (.blk 1
        (.chk (.bn (.cm .gtr .i64) (.vr 6) (.cn (.int .i64 0)))
        (.set 19 (.bn (.cm .gtr .i64) (.vr 6) (.cn (.int .i64 0)))
        (.ifg (.vr 19) true
          (.call (some 21) 26 [(.vr 0), (.cn (.int .i64 2))] []
          .nil)
          (.set 21 (.cn undef)
          .nil)
        (.chk (.gd (.vr 19) true (.bn (.cm .eql .i64) (.vr 21) (.cn (.int .i64 0))))
        (.chk (.and (.vr 19) (.bn (.cm .eql .i64) (.vr 21) (.cn (.int .i64 0))))
        (.set 23 (.and (.vr 19) (.bn (.cm .eql .i64) (.vr 21) (.cn (.int .i64 0))))
        (.ite (.vr 23)
          (.call (some 25) 26 [(.vr 0), (.cn (.int .i64 20))] []
          (.chk (.bn (.ar .add .i64) (.cn (.int .i64 3)) (.vr 25))
          (.call (some 29) 26 [(.vr 0), (.vr 6)] []
          (.chk (.bn (.ar .add .i64) (.cn (.int .i64 1)) (.vr 29))
          (.chk (.bd 1 1 (.bn (.ar .add .i64) (.cn (.int .i64 1)) (.vr 29)) (.bd 0 1 (.bn (.ar .add .i64) (.cn (.int .i64 3)) (.vr 25)) (.cn (.agg #[(.int .i64 0), (.int .i64 0), (.int .i64 0)]))))
          (.op (some 8) (.alloc 47) 0 [] []
          (.st 3 (.vr 8) (.bd 1 1 (.bn (.ar .add .i64) (.cn (.int .i64 1)) (.vr 29)) (.bd 0 1 (.bn (.ar .add .i64) (.cn (.int .i64 3)) (.vr 25)) (.cn (.agg #[(.int .i64 0), (.int .i64 0), (.int .i64 0)])))) []
          (.draw
          (.chk (.ldn 3 (.vr 8))
          (.set 33 (.ldn 3 (.vr 8))
          (.chk (.un (.fa 0) (.vr 8))
          (.chk (.ld (.un (.fa 0) (.vr 8)))
          (.set 38 (.ld (.un (.fa 0) (.vr 8)))
          (.chk (.bn (.ar .add .i64) (.vr 6) (.vr 38))
          (.op (some 34) (.buildSlice 32 1 #[(0, (.tmp 33))]) 32 [(33, (.vr 33))] [⟨6, (.un (.fa 0) (.vr 8)), 1, none⟩]
          (.op (some 35) (.call ⟨(.builtin .append), #[(.tmp 32), (.tmp 34)], #[32, 32]⟩) 32 [(32, (.vr 5)), (34, (.vr 34))] [⟨6, (.un (.fa 0) (.vr 8)), 1, none⟩]
          (.set 5 (.vr 35)
          (.set 6 (.bn (.ar .add .i64) (.vr 6) (.vr 38))
          .nil))))))))))))))))))
          (.call (some 42) 26 [(.vr 0), (.cn (.int .i64 16))] []
          (.chk (.bd 2 1 (.vr 42) (.cn (.agg #[(.int .i64 0), (.int .i64 0), (.int .i64 0)])))
          (.op (some 44) (.buildSlice 32 1 #[(0, (.tmp 43))]) 32 [(43, (.bd 2 1 (.vr 42) (.cn (.agg #[(.int .i64 0), (.int .i64 0), (.int .i64 0)]))))] []
          (.op (some 45) (.call ⟨(.builtin .append), #[(.tmp 40), (.tmp 44)], #[32, 32]⟩) 32 [(40, (.vr 5)), (44, (.vr 44))] []
          (.chk (.bn (.ar .add .i64) (.vr 6) (.cn (.int .i64 1)))
          (.set 5 (.vr 45)
          (.set 6 (.bn (.ar .add .i64) (.vr 6) (.cn (.int .i64 1)))
          .nil)))))))
        .nil)))))))
      (.chk (.bn (.ar .sub .i64) (.vr 7) (.cn (.int .i64 1)))
      (.set 7 (.bn (.ar .sub .i64) (.vr 7) (.cn (.int .i64 1)))
      .nil)))))))
  (.set 4 (.vr 5)
  .ret))))))))
def fc22 : Fc := ⟨49, s22, [(.vr 4)]⟩
theorem c22 : compF Tryd.prog 22 = some fc22 := by kernel_rfl

/-- kinora/kinoraref27.MatchExpand · parameters 2 · 0:t 1:most 6:l 7:i 8:k -/
def s23 : S :=
  (.set 4 (.cn (.slice none 0 0))
  (.set 5 (.cn (.bool false))
  (.call (some 10) 35 [(.vr 0)] []
  (.chk (.un .not (.vr 10))
  (.set 11 (.un .not (.vr 10))
  (.ite (.vr 11)
    (.set 4 (.cn (.slice none 0 0))
    (.set 5 (.cn (.bool false))
    .ret))
    .nil
  (.set 6 (.cn (.slice none 0 0))
  (.set 7 (.cn (.int .i64 0))
  (.blk 0
    (.loop
      (.chk (.un .ln (.vr 0))
      (.chk (.bn (.cm .lss .i64) (.vr 7) (.un .ln (.vr 0)))
      (.set 15 (.bn (.cm .lss .i64) (.vr 7) (.un .ln (.vr 0)))
      (.ite (.vr 15)
        .nil
        (.exit 0)
      (.blk 1
        (.chk (.bn (.ia 3) (.vr 0) (.vr 7))
        (.chk (.un (.fa 0) (.bn (.ia 3) (.vr 0) (.vr 7)))
        (.chk (.ld (.un (.fa 0) (.bn (.ia 3) (.vr 0) (.vr 7))))
        (.chk (.bn (.cm .eql .i64) (.ld (.un (.fa 0) (.bn (.ia 3) (.vr 0) (.vr 7)))) (.cn (.int .i64 0)))
        (.set 23 (.bn (.cm .eql .i64) (.ld (.un (.fa 0) (.bn (.ia 3) (.vr 0) (.vr 7)))) (.cn (.int .i64 0)))
        (.ite (.vr 23)
          (.chk (.bn (.ia 3) (.vr 0) (.vr 7))
          (.chk (.un (.fa 2) (.bn (.ia 3) (.vr 0) (.vr 7)))
          (.chk (.ld (.un (.fa 2) (.bn (.ia 3) (.vr 0) (.vr 7))))
          (.set 29 (.ld (.un (.fa 2) (.bn (.ia 3) (.vr 0) (.vr 7))))
          (.op (some 30) (.buildSlice 26 1 #[(0, (.tmp 29))]) 26 [(29, (.vr 29))] []
          (.op (some 31) (.call ⟨(.builtin .append), #[(.tmp 24), (.tmp 30)], #[26, 26]⟩) 26 [(24, (.vr 6)), (30, (.vr 30))] []
          (.set 6 (.vr 31)
          .nil)))))))
          .nil
        (.chk (.bn (.ia 3) (.vr 0) (.vr 7))
        (.chk (.un (.fa 1) (.bn (.ia 3) (.vr 0) (.vr 7)))
        (.chk (.ld (.un (.fa 1) (.bn (.ia 3) (.vr 0) (.vr 7))))
        (.chk (.un .ln (.vr 6))
        (.chk (.bn (.cm .gtr .i64) (.ld (.un (.fa 1) (.bn (.ia 3) (.vr 0) (.vr 7)))) (.un .ln (.vr 6)))
        (.set 39 (.bn (.cm .gtr .i64) (.ld (.un (.fa 1) (.bn (.ia 3) (.vr 0) (.vr 7)))) (.un .ln (.vr 6)))
        (.ite (.vr 39)
          (.set 4 (.cn (.slice none 0 0))
          (.set 5 (.cn (.bool false))
          .ret))
          .nil
        (.set 8 (.cn (.int .i64 0))
        (.blk 2
          (.loop
            (.chk (.bn (.ia 3) (.vr 0) (.vr 7))
            (.chk (.un (.fa 0) (.bn (.ia 3) (.vr 0) (.vr 7)))
            (.chk (.ld (.un (.fa 0) (.bn (.ia 3) (.vr 0) (.vr 7))))
            (.chk (.bn (.cm .lss .i64) (.vr 8) (.ld (.un (.fa 0) (.bn (.ia 3) (.vr 0) (.vr 7)))))
            (.set 46 (.bn (.cm .lss .i64) (.vr 8) (.ld (.un (.fa 0) (.bn (.ia 3) (.vr 0) (.vr 7)))))
            (.ite (.vr 46)
              .nil
              (.exit 2)
            (.blk 3
              (.chk (.un .ln (.vr 6))
              (.chk (.bn (.ia 3) (.vr 0) (.vr 7))
              (.chk (.un (.fa 1) (.bn (.ia 3) (.vr 0) (.vr 7)))
              (.chk (.ld (.un (.fa 1) (.bn (.ia 3) (.vr 0) (.vr 7))))
              (.set 57 (.ld (.un (.fa 1) (.bn (.ia 3) (.vr 0) (.vr 7))))
              (.chk (.bn (.ar .sub .i64) (.un .ln (.vr 6)) (.vr 57))
              (.chk (.bn (.ia 1) (.vr 6) (.bn (.ar .sub .i64) (.un .ln (.vr 6)) (.vr 57)))
              (.chk (.ld (.bn (.ia 1) (.vr 6) (.bn (.ar .sub .i64) (.un .ln (.vr 6)) (.vr 57))))
              (.set 60 (.ld (.bn (.ia 1) (.vr 6) (.bn (.ar .sub .i64) (.un .ln (.vr 6)) (.vr 57))))
              (.op (some 61) (.buildSlice 26 1 #[(0, (.tmp 60))]) 26 [(60, (.vr 60))] []
              (.op (some 62) (.call ⟨(.builtin .append), #[(.tmp 49), (.tmp 61)], #[26, 26]⟩) 26 [(49, (.vr 6)), (61, (.vr 61))] []
              (.set 6 (.vr 62)
              .nil))))))))))))
            (.chk (.bn (.ar .add .i64) (.vr 8) (.cn (.int .i64 1)))
            (.set 8 (.bn (.ar .add .i64) (.vr 8) (.cn (.int .i64 1)))
            .nil))))))))))
        (.chk (.un .ln (.vr 6))
        (.chk (.bn (.cm .gtr .i64) (.un .ln (.vr 6)) (.vr 1))
        (.set 66 (.bn (.cm .gtr .i64) (.un .ln (.vr 6)) (.vr 1))
        (.ite (.vr 66)
          (.set 4 (.cn (.slice none 0 0))
          (.set 5 (.cn (.bool false))
          .ret))
          .nil
        .nil)))))))))))))))))))
      (.chk (.bn (.ar .add .i64) (.vr 7) (.cn (.int .i64 1)))
      (.set 7 (.bn (.ar .add .i64) (.vr 7) (.cn (.int .i64 1)))
      .nil))))))))
  (.chk (.un .ln (.vr 6))
  (.chk (.bn (.cm .leq .i64) (.un .ln (.vr 6)) (.vr 1))
  (.set 4 (.vr 6)
  (.set 5 (.bn (.cm .leq .i64) (.un .ln (.vr 6)) (.vr 1))
  .ret)))))))))))))
def fc23 : Fc := ⟨72, s23, [(.vr 4), (.vr 5)]⟩
theorem c23 : compF Tryd.prog 23 = some fc23 := by kernel_rfl

/-- kinora/kinoraref24.Side · parameters 1 · 0:n -/
def s24 : S :=
  (.set 2 (.cn (.bool false))
  (.chk (.bn (.cm .geq .i64) (.vr 0) (.cn (.int .i64 1)))
  (.chk (.gd (.bn (.cm .geq .i64) (.vr 0) (.cn (.int .i64 1))) true (.bn (.cm .leq .i64) (.vr 0) (.cn (.int .i64 64))))
  (.set 2 (.and (.bn (.cm .geq .i64) (.vr 0) (.cn (.int .i64 1))) (.bn (.cm .leq .i64) (.vr 0) (.cn (.int .i64 64))))
  .ret))))
def fc24 : Fc := ⟨9, s24, [(.vr 2)]⟩
theorem c24 : compF Tryd.prog 24 = some fc24 := by kernel_rfl

/-- kinora/kinoralaw25.tokens · parameters 2 · 0:a 1:b 5:i -/
def s25 : S :=
  (.set 4 (.cn (.bool false))
  (.chk (.un .ln (.vr 0))
  (.chk (.un .ln (.vr 1))
  (.set 10 (.bn (.cm .neq .i64) (.un .ln (.vr 0)) (.un .ln (.vr 1)))
  (.ite (.vr 10)
    (.set 4 (.cn (.bool false))
    .ret)
    .nil
  (.set 5 (.cn (.int .i64 0))
  (.blk 0
    (.loop
      (.chk (.un .ln (.vr 0))
      (.chk (.bn (.cm .lss .i64) (.vr 5) (.un .ln (.vr 0)))
      (.set 14 (.bn (.cm .lss .i64) (.vr 5) (.un .ln (.vr 0)))
      (.ite (.vr 14)
        .nil
        (.exit 0)
      (.blk 1
        (.draw
        (.chk (.bn (.ia 3) (.vr 0) (.vr 5))
        (.chk (.ldn 3 (.bn (.ia 3) (.vr 0) (.vr 5)))
        (.set 20 (.ldn 3 (.bn (.ia 3) (.vr 0) (.vr 5)))
        (.chk (.bn (.ia 3) (.vr 1) (.vr 5))
        (.chk (.ldn 3 (.bn (.ia 3) (.vr 1) (.vr 5)))
        (.set 24 (.ldn 3 (.bn (.ia 3) (.vr 1) (.vr 5)))
        (.op (some 25) (.binOp .neq 47 (.tmp 20) (.tmp 24) 47) 4 [(20, (.vr 20)), (24, (.vr 24))] []
        (.ite (.vr 25)
          (.set 4 (.cn (.bool false))
          .ret)
          .nil
        .nil)))))))))
      (.chk (.bn (.ar .add .i64) (.vr 5) (.cn (.int .i64 1)))
      (.set 5 (.bn (.ar .add .i64) (.vr 5) (.cn (.int .i64 1)))
      .nil))))))))
  (.set 4 (.cn (.bool true))
  .ret))))))))
def fc25 : Fc := ⟨26, s25, [(.vr 4)]⟩
theorem c25 : compF Tryd.prog 25 = some fc25 := by kernel_rfl

/-- (*kinora/kinorakeep2.Tape).Next · parameters 2 · 0:t 1:n -/
def s26 : S :=
  (.set 4 (.cn (.int .i64 0))
  (.draw
  (.chk (.un .nck (.vr 0))
  (.chk (.un (.fa 1) (.un .nck (.vr 0)))
  (.chk (.ld (.un (.fa 1) (.un .nck (.vr 0))))
  (.chk (.un .nck (.vr 0))
  (.chk (.un (.fa 0) (.un .nck (.vr 0)))
  (.chk (.ld (.un (.fa 0) (.un .nck (.vr 0))))
  (.chk (.un .ln (.ld (.un (.fa 0) (.un .nck (.vr 0)))))
  (.chk (.bn (.cm .geq .i64) (.ld (.un (.fa 1) (.un .nck (.vr 0)))) (.un .ln (.ld (.un (.fa 0) (.un .nck (.vr 0))))))
  (.chk (.gd (.bn (.cm .geq .i64) (.ld (.un (.fa 1) (.un .nck (.vr 0)))) (.un .ln (.ld (.un (.fa 0) (.un .nck (.vr 0)))))) false (.bn (.cm .lss .i64) (.vr 1) (.cn (.int .i64 1))))
  (.set 18 (.or (.bn (.cm .geq .i64) (.ld (.un (.fa 1) (.un .nck (.vr 0)))) (.un .ln (.ld (.un (.fa 0) (.un .nck (.vr 0)))))) (.bn (.cm .lss .i64) (.vr 1) (.cn (.int .i64 1))))
  (.ite (.vr 18)
    (.set 4 (.cn (.int .i64 0))
    .ret)
    .nil
  (.chk (.un .nck (.vr 0))
  (.chk (.un (.fa 1) (.un .nck (.vr 0)))
  (.chk (.ld (.un (.fa 1) (.un .nck (.vr 0))))
  (.set 22 (.ld (.un (.fa 1) (.un .nck (.vr 0))))
  (.chk (.bn (.ar .add .i64) (.vr 22) (.cn (.int .i64 1)))
  (.chk (.un .nck (.vr 0))
  (.chk (.un (.fa 1) (.un .nck (.vr 0)))
  (.st 1 (.un (.fa 1) (.un .nck (.vr 0))) (.bn (.ar .add .i64) (.vr 22) (.cn (.int .i64 1))) []
  (.draw
  (.chk (.un .nck (.vr 0))
  (.chk (.un (.fa 0) (.un .nck (.vr 0)))
  (.chk (.ld (.un (.fa 0) (.un .nck (.vr 0))))
  (.set 29 (.ld (.un (.fa 0) (.un .nck (.vr 0))))
  (.chk (.un .nck (.vr 0))
  (.chk (.un (.fa 1) (.un .nck (.vr 0)))
  (.chk (.ld (.un (.fa 1) (.un .nck (.vr 0))))
  (.set 33 (.ld (.un (.fa 1) (.un .nck (.vr 0))))
  (.chk (.bn (.ar .sub .i64) (.vr 33) (.cn (.int .i64 1)))
  (.chk (.bn (.ia 1) (.vr 29) (.bn (.ar .sub .i64) (.vr 33) (.cn (.int .i64 1))))
  (.chk (.ld (.bn (.ia 1) (.vr 29) (.bn (.ar .sub .i64) (.vr 33) (.cn (.int .i64 1)))))
  (.set 36 (.ld (.bn (.ia 1) (.vr 29) (.bn (.ar .sub .i64) (.vr 33) (.cn (.int .i64 1)))))
  (.call (some 37) 7 [(.vr 36), (.cn (.int .i64 0)), (.cn (.int .i64 1073741824))] []
  (.chk (.bn (.dv true .i64) (.vr 37) (.vr 1))
  (.set 4 (.bn (.dv true .i64) (.vr 37) (.vr 1))
  .ret)))))))))))))))))))))))))))))))))))))
def fc26 : Fc := ⟨40, s26, [(.vr 4)]⟩
theorem c26 : compF Tryd.prog 26 = some fc26 := by kernel_rfl

/-- kinora/match.Longest · parameters 2 · 0:l 1:at 4:length 5:dist 6:d 7:n -/
def s27 : S :=
  (.set 4 (.cn (.int .i64 0))
  (.set 5 (.cn (.int .i64 0))
  (.chk (.bn (.cm .lss .i64) (.vr 1) (.cn (.int .i64 0)))
  (.chk (.gd (.bn (.cm .lss .i64) (.vr 1) (.cn (.int .i64 0))) false (.un .ln (.vr 0)))
  (.chk (.gd (.bn (.cm .lss .i64) (.vr 1) (.cn (.int .i64 0))) false (.bn (.cm .geq .i64) (.vr 1) (.un .ln (.vr 0))))
  (.set 15 (.or (.bn (.cm .lss .i64) (.vr 1) (.cn (.int .i64 0))) (.bn (.cm .geq .i64) (.vr 1) (.un .ln (.vr 0))))
  (.ite (.vr 15)
    (.set 4 (.cn (.int .i64 0))
    (.set 5 (.cn (.int .i64 0))
    .ret))
    .nil
  (.set 6 (.cn (.int .i64 1))
  (.blk 0
    (.loop
      (.chk (.bn (.mn .i64) (.vr 1) (.cn (.int .i64 1024)))
      (.chk (.bn (.cm .leq .i64) (.vr 6) (.bn (.mn .i64) (.vr 1) (.cn (.int .i64 1024))))
      (.set 19 (.bn (.cm .leq .i64) (.vr 6) (.bn (.mn .i64) (.vr 1) (.cn (.int .i64 1024))))
      (.ite (.vr 19)
        .nil
        (.exit 0)
      (.blk 1
        (.set 7 (.cn (.int .i64 0))
        (.blk 2
          (.loop
            (.draw
            (.chk (.bn (.cm .lss .i64) (.vr 7) (.cn (.int .i64 64)))
            (.chk (.gd (.bn (.cm .lss .i64) (.vr 7) (.cn (.int .i64 64))) true (.bn (.ar .add .i64) (.vr 1) (.vr 7)))
            (.chk (.gd (.bn (.cm .lss .i64) (.vr 7) (.cn (.int .i64 64))) true (.un .ln (.vr 0)))
            (.chk (.gd (.and (.bn (.cm .lss .i64) (.vr 7) (.cn (.int .i64 64))) (.bn (.cm .lss .i64) (.bn (.ar .add .i64) (.vr 1) (.vr 7)) (.un .ln (.vr 0)))) true (.bn (.ar .add .i64) (.vr 1) (.vr 7)))
            (.chk (.gd (.and (.bn (.cm .lss .i64) (.vr 7) (.cn (.int .i64 64))) (.bn (.cm .lss .i64) (.bn (.ar .add .i64) (.vr 1) (.vr 7)) (.un .ln (.vr 0)))) true (.bn (.ia 1) (.vr 0) (.bn (.ar .add .i64) (.vr 1) (.vr 7))))
            (.chk (.gd (.and (.bn (.cm .lss .i64) (.vr 7) (.cn (.int .i64 64))) (.bn (.cm .lss .i64) (.bn (.ar .add .i64) (.vr 1) (.vr 7)) (.un .ln (.vr 0)))) true (.ld (.bn (.ia 1) (.vr 0) (.bn (.ar .add .i64) (.vr 1) (.vr 7)))))
            (.chk (.gd (.and (.bn (.cm .lss .i64) (.vr 7) (.cn (.int .i64 64))) (.bn (.cm .lss .i64) (.bn (.ar .add .i64) (.vr 1) (.vr 7)) (.un .ln (.vr 0)))) true (.bn (.ar .add .i64) (.vr 1) (.vr 7)))
            (.chk (.gd (.and (.bn (.cm .lss .i64) (.vr 7) (.cn (.int .i64 64))) (.bn (.cm .lss .i64) (.bn (.ar .add .i64) (.vr 1) (.vr 7)) (.un .ln (.vr 0)))) true (.bn (.ar .sub .i64) (.bn (.ar .add .i64) (.vr 1) (.vr 7)) (.vr 6)))
            (.chk (.gd (.and (.bn (.cm .lss .i64) (.vr 7) (.cn (.int .i64 64))) (.bn (.cm .lss .i64) (.bn (.ar .add .i64) (.vr 1) (.vr 7)) (.un .ln (.vr 0)))) true (.bn (.ia 1) (.vr 0) (.bn (.ar .sub .i64) (.bn (.ar .add .i64) (.vr 1) (.vr 7)) (.vr 6))))
            (.chk (.gd (.and (.bn (.cm .lss .i64) (.vr 7) (.cn (.int .i64 64))) (.bn (.cm .lss .i64) (.bn (.ar .add .i64) (.vr 1) (.vr 7)) (.un .ln (.vr 0)))) true (.ld (.bn (.ia 1) (.vr 0) (.bn (.ar .sub .i64) (.bn (.ar .add .i64) (.vr 1) (.vr 7)) (.vr 6)))))
            (.chk (.gd (.and (.bn (.cm .lss .i64) (.vr 7) (.cn (.int .i64 64))) (.bn (.cm .lss .i64) (.bn (.ar .add .i64) (.vr 1) (.vr 7)) (.un .ln (.vr 0)))) true (.bn (.cm .eql .i64) (.ld (.bn (.ia 1) (.vr 0) (.bn (.ar .add .i64) (.vr 1) (.vr 7)))) (.ld (.bn (.ia 1) (.vr 0) (.bn (.ar .sub .i64) (.bn (.ar .add .i64) (.vr 1) (.vr 7)) (.vr 6))))))
            (.set 48 (.and (.and (.bn (.cm .lss .i64) (.vr 7) (.cn (.int .i64 64))) (.bn (.cm .lss .i64) (.bn (.ar .add .i64) (.vr 1) (.vr 7)) (.un .ln (.vr 0)))) (.bn (.cm .eql .i64) (.ld (.bn (.ia 1) (.vr 0) (.bn (.ar .add .i64) (.vr 1) (.vr 7)))) (.ld (.bn (.ia 1) (.vr 0) (.bn (.ar .sub .i64) (.bn (.ar .add .i64) (.vr 1) (.vr 7)) (.vr 6))))))
            (.ite (.vr 48)
              .nil
              (.exit 2)
            (.blk 3
              (.chk (.bn (.ar .add .i64) (.vr 7) (.cn (.int .i64 1)))
              (.set 7 (.bn (.ar .add .i64) (.vr 7) (.cn (.int .i64 1)))
              .nil))
            .nil))))))))))))))))
        (.chk (.bn (.cm .gtr .i64) (.vr 7) (.vr 4))
        (.set 53 (.bn (.cm .gtr .i64) (.vr 7) (.vr 4))
        (.ite (.vr 53)
          (.set 4 (.vr 7)
          (.set 5 (.vr 6)
          .nil))
          .nil
        .nil)))))
      (.chk (.bn (.ar .add .i64) (.vr 6) (.cn (.int .i64 1)))
      (.set 6 (.bn (.ar .add .i64) (.vr 6) (.cn (.int .i64 1)))
      .nil))))))))
  (.chk (.bn (.cm .lss .i64) (.vr 4) (.cn (.int .i64 3)))
  (.set 57 (.bn (.cm .lss .i64) (.vr 4) (.cn (.int .i64 3)))
  (.ite (.vr 57)
    (.set 4 (.cn (.int .i64 0))
    (.set 5 (.cn (.int .i64 0))
    .ret))
    .nil
  (.set 4 (.vr 4)
  (.set 5 (.vr 5)
  .ret))))))))))))))
def fc27 : Fc := ⟨60, s27, [(.vr 4), (.vr 5)]⟩
theorem c27 : compF Tryd.prog 27 = some fc27 := by kernel_rfl

/-- kinora/kinoraref27.MatchLongest · parameters 2 · 0:l 1:at 6:n 7:dist 8:d 9:k -/
def s28 : S :=
  (.set 4 (.cn (.int .i64 0))
  (.set 5 (.cn (.int .i64 0))
  (.chk (.bn (.cm .lss .i64) (.vr 1) (.cn (.int .i64 0)))
  (.chk (.gd (.bn (.cm .lss .i64) (.vr 1) (.cn (.int .i64 0))) false (.un .ln (.vr 0)))
  (.chk (.gd (.bn (.cm .lss .i64) (.vr 1) (.cn (.int .i64 0))) false (.bn (.cm .geq .i64) (.vr 1) (.un .ln (.vr 0))))
  (.set 17 (.or (.bn (.cm .lss .i64) (.vr 1) (.cn (.int .i64 0))) (.bn (.cm .geq .i64) (.vr 1) (.un .ln (.vr 0))))
  (.ite (.vr 17)
    (.set 4 (.cn (.int .i64 0))
    (.set 5 (.cn (.int .i64 0))
    .ret))
    .nil
  (.set 6 (.cn (.int .i64 0))
  (.set 7 (.cn (.int .i64 0))
  (.set 8 (.cn (.int .i64 1))
  (.blk 0
    (.loop
      (.chk (.bn (.cm .leq .i64) (.vr 8) (.vr 1))
      (.chk (.gd (.bn (.cm .leq .i64) (.vr 8) (.vr 1)) true (.bn (.cm .leq .i64) (.vr 8) (.cn (.int .i64 1024))))
      (.set 24 (.and (.bn (.cm .leq .i64) (.vr 8) (.vr 1)) (.bn (.cm .leq .i64) (.vr 8) (.cn (.int .i64 1024))))
      (.ite (.vr 24)
        .nil
        (.exit 0)
      (.blk 1
        (.call (some 30) 36 [(.vr 0), (.vr 1), (.vr 8)] []
        (.set 9 (.vr 30)
        (.chk (.bn (.cm .gtr .i64) (.vr 9) (.vr 6))
        (.set 33 (.bn (.cm .gtr .i64) (.vr 9) (.vr 6))
        (.ite (.vr 33)
          (.set 6 (.vr 9)
          (.set 7 (.vr 8)
          .nil))
          .nil
        .nil)))))
      (.chk (.bn (.ar .add .i64) (.vr 8) (.cn (.int .i64 1)))
      (.set 8 (.bn (.ar .add .i64) (.vr 8) (.cn (.int .i64 1)))
      .nil))))))))
  (.chk (.bn (.cm .lss .i64) (.vr 6) (.cn (.int .i64 3)))
  (.set 37 (.bn (.cm .lss .i64) (.vr 6) (.cn (.int .i64 3)))
  (.ite (.vr 37)
    (.set 4 (.cn (.int .i64 0))
    (.set 5 (.cn (.int .i64 0))
    .ret))
    .nil
  (.set 4 (.vr 6)
  (.set 5 (.vr 7)
  .ret))))))))))))))))
def fc28 : Fc := ⟨40, s28, [(.vr 4), (.vr 5)]⟩
theorem c28 : compF Tryd.prog 28 = some fc28 := by kernel_rfl

/-- kinora/kinoraref27.MatchGreedy · parameters 1 · 0:l 3:t 4:at 5:n 6:d -/
def s29 : S :=
  (.set 2 (.cn (.slice none 0 0))
  (.set 3 (.cn (.slice none 0 0))
  (.set 4 (.cn (.int .i64 0))
  (.blk 0
    (.loop
      (.chk (.un .ln (.vr 0))
      (.chk (.bn (.cm .lss .i64) (.vr 4) (.un .ln (.vr 0)))
      (.set 10 (.bn (.cm .lss .i64) (.vr 4) (.un .ln (.vr 0)))
      (.ite (.vr 10)
        .nil
        (.exit 0)
      (.blk 1
        (.call (some 14) 28 [(.vr 0), (.vr 4)] []
        (.chk (.un (.ex 0) (.vr 14))
        (.chk (.un (.ex 1) (.vr 14))
        (.set 5 (.un (.ex 0) (.vr 14))
        (.set 6 (.un (.ex 1) (.vr 14))
        (.chk (.bn (.cm .eql .i64) (.vr 5) (.cn (.int .i64 0)))
        (.set 18 (.bn (.cm .eql .i64) (.vr 5) (.cn (.int .i64 0)))
        (.ite (.vr 18)
          (.chk (.bn (.ia 1) (.vr 0) (.vr 4))
          (.chk (.ld (.bn (.ia 1) (.vr 0) (.vr 4)))
          (.set 23 (.ld (.bn (.ia 1) (.vr 0) (.vr 4)))
          (.chk (.bd 2 1 (.vr 23) (.cn (.agg #[(.int .i64 0), (.int .i64 0), (.int .i64 0)])))
          (.op (some 25) (.buildSlice 32 1 #[(0, (.tmp 24))]) 32 [(24, (.bd 2 1 (.vr 23) (.cn (.agg #[(.int .i64 0), (.int .i64 0), (.int .i64 0)]))))] []
          (.op (some 26) (.call ⟨(.builtin .append), #[(.tmp 19), (.tmp 25)], #[32, 32]⟩) 32 [(19, (.vr 3)), (25, (.vr 25))] []
          (.set 3 (.vr 26)
          (.chk (.bn (.ar .add .i64) (.vr 4) (.cn (.int .i64 1)))
          (.set 4 (.bn (.ar .add .i64) (.vr 4) (.cn (.int .i64 1)))
          (.exit 1))))))))))
          .nil
        (.chk (.bd 1 1 (.vr 6) (.bd 0 1 (.vr 5) (.cn (.agg #[(.int .i64 0), (.int .i64 0), (.int .i64 0)]))))
        (.op (some 33) (.buildSlice 32 1 #[(0, (.tmp 32))]) 32 [(32, (.bd 1 1 (.vr 6) (.bd 0 1 (.vr 5) (.cn (.agg #[(.int .i64 0), (.int .i64 0), (.int .i64 0)])))))] []
        (.op (some 34) (.call ⟨(.builtin .append), #[(.tmp 29), (.tmp 33)], #[32, 32]⟩) 32 [(29, (.vr 3)), (33, (.vr 33))] []
        (.set 3 (.vr 34)
        (.chk (.bn (.ar .add .i64) (.vr 4) (.vr 5))
        (.set 4 (.bn (.ar .add .i64) (.vr 4) (.vr 5))
        .nil))))))))))))))
      .nil))))))
  (.set 2 (.vr 3)
  .ret)))))
def fc29 : Fc := ⟨39, s29, [(.vr 2)]⟩
theorem c29 : compF Tryd.prog 29 = some fc29 := by kernel_rfl

/-- kinora/kinoraref27.MatchLeast · parameters 3 · 0:l 1:lit 2:copied 7:cost 8:step 9:at 10:n 12:best 13:k 14:t 15:at -/
def s30 : S :=
  (.set 6 (.cn (.slice none 0 0))
  (.chk (.bn (.cm .lss .i64) (.vr 1) (.cn (.int .i64 1)))
  (.chk (.gd (.bn (.cm .lss .i64) (.vr 1) (.cn (.int .i64 1))) false (.bn (.cm .gtr .i64) (.vr 1) (.cn (.int .i64 1048576))))
  (.chk (.gd (.or (.bn (.cm .lss .i64) (.vr 1) (.cn (.int .i64 1))) (.bn (.cm .gtr .i64) (.vr 1) (.cn (.int .i64 1048576)))) false (.bn (.cm .lss .i64) (.vr 2) (.cn (.int .i64 1))))
  (.chk (.gd (.or (.or (.bn (.cm .lss .i64) (.vr 1) (.cn (.int .i64 1))) (.bn (.cm .gtr .i64) (.vr 1) (.cn (.int .i64 1048576)))) (.bn (.cm .lss .i64) (.vr 2) (.cn (.int .i64 1)))) false (.bn (.cm .gtr .i64) (.vr 2) (.cn (.int .i64 1048576))))
  (.set 29 (.or (.or (.or (.bn (.cm .lss .i64) (.vr 1) (.cn (.int .i64 1))) (.bn (.cm .gtr .i64) (.vr 1) (.cn (.int .i64 1048576)))) (.bn (.cm .lss .i64) (.vr 2) (.cn (.int .i64 1)))) (.bn (.cm .gtr .i64) (.vr 2) (.cn (.int .i64 1048576))))
  (.ite (.vr 29)
    (.set 6 (.cn (.slice none 0 0))
    .ret)
    .nil
  (.sq
    (.draw
    (.chk (.un .ln (.vr 0))
    (.chk (.un .ln (.vr 0))
    (.alt
      (.op (some 33) (.makeSlice 26 (.tmp 32) (.tmp 32)) 26 [(32, (.bn (.ar .add .i64) (.un .ln (.vr 0)) (.cn (.int .i64 1)))), (32, (.bn (.ar .add .i64) (.un .ln (.vr 0)) (.cn (.int .i64 1))))] []
      (.set 7 (.vr 33)
      (.op (some 37) (.makeSlice 26 (.tmp 36) (.tmp 36)) 26 [(36, (.bn (.ar .add .i64) (.un .ln (.vr 0)) (.cn (.int .i64 1)))), (36, (.bn (.ar .add .i64) (.un .ln (.vr 0)) (.cn (.int .i64 1))))] []
      (.set 8 (.vr 37)
      .nil))))
      (.op (some 37) (.makeSlice 26 (.tmp 36) (.tmp 36)) 26 [(36, (.bn (.ar .add .i64) (.un .ln (.vr 0)) (.cn (.int .i64 1)))), (36, (.bn (.ar .add .i64) (.un .ln (.vr 0)) (.cn (.int .i64 1))))] []
      (.op (some 33) (.makeSlice 26 (.tmp 32) (.tmp 32)) 26 [(32, (.bn (.ar .add .i64) (.un .ln (.vr 0)) (.cn (.int .i64 1)))), (32, (.bn (.ar .add .i64) (.un .ln (.vr 0)) (.cn (.int .i64 1))))] []
      (.set 7 (.vr 33)
      (.set 8 (.vr 37)
      .nil))))))))
  (.chk (.un .ln (.vr 0))
  (.set 9 (.bn (.ar .sub .i64) (.un .ln (.vr 0)) (.cn (.int .i64 1)))
  (.blk 0
    (.loop
      (.chk (.bn (.cm .geq .i64) (.vr 9) (.cn (.int .i64 0)))
      (.set 42 (.bn (.cm .geq .i64) (.vr 9) (.cn (.int .i64 0)))
      (.ite (.vr 42)
        .nil
        (.exit 0)
      (.blk 1
        (.call (some 48) 28 [(.vr 0), (.vr 9)] []
        (.chk (.un (.ex 0) (.vr 48))
        (.chk (.un (.ex 1) (.vr 48))
        (.set 10 (.un (.ex 0) (.vr 48))
        (.set 12 (.cn (.int .i64 (-1)))
        (.set 13 (.vr 10)
        (.blk 2
          (.loop
            (.chk (.bn (.cm .geq .i64) (.vr 13) (.cn (.int .i64 3)))
            (.set 53 (.bn (.cm .geq .i64) (.vr 13) (.cn (.int .i64 3)))
            (.ite (.vr 53)
              .nil
              (.exit 2)
            (.blk 3
              (.chk (.bn (.cm .lss .i64) (.vr 12) (.cn (.int .i64 0)))
              (.chk (.gd (.bn (.cm .lss .i64) (.vr 12) (.cn (.int .i64 0))) false (.bn (.ar .add .i64) (.vr 9) (.vr 13)))
              (.chk (.gd (.bn (.cm .lss .i64) (.vr 12) (.cn (.int .i64 0))) false (.bn (.ia 1) (.vr 7) (.bn (.ar .add .i64) (.vr 9) (.vr 13))))
              (.chk (.gd (.bn (.cm .lss .i64) (.vr 12) (.cn (.int .i64 0))) false (.ld (.bn (.ia 1) (.vr 7) (.bn (.ar .add .i64) (.vr 9) (.vr 13)))))
              (.chk (.gd (.bn (.cm .lss .i64) (.vr 12) (.cn (.int .i64 0))) false (.bn (.ar .add .i64) (.vr 2) (.ld (.bn (.ia 1) (.vr 7) (.bn (.ar .add .i64) (.vr 9) (.vr 13))))))
              (.chk (.gd (.bn (.cm .lss .i64) (.vr 12) (.cn (.int .i64 0))) false (.bn (.cm .lss .i64) (.bn (.ar .add .i64) (.vr 2) (.ld (.bn (.ia 1) (.vr 7) (.bn (.ar .add .i64) (.vr 9) (.vr 13))))) (.vr 12)))
              (.set 69 (.or (.bn (.cm .lss .i64) (.vr 12) (.cn (.int .i64 0))) (.bn (.cm .lss .i64) (.bn (.ar .add .i64) (.vr 2) (.ld (.bn (.ia 1) (.vr 7) (.bn (.ar .add .i64) (.vr 9) (.vr 13))))) (.vr 12)))
              (.ite (.vr 69)
                (.chk (.bn (.ar .add .i64) (.vr 9) (.vr 13))
                (.chk (.bn (.ia 1) (.vr 7) (.bn (.ar .add .i64) (.vr 9) (.vr 13)))
                (.chk (.ld (.bn (.ia 1) (.vr 7) (.bn (.ar .add .i64) (.vr 9) (.vr 13))))
                (.set 78 (.ld (.bn (.ia 1) (.vr 7) (.bn (.ar .add .i64) (.vr 9) (.vr 13))))
                (.chk (.bn (.ar .add .i64) (.vr 2) (.vr 78))
                (.set 12 (.bn (.ar .add .i64) (.vr 2) (.vr 78))
                (.chk (.bn (.ia 1) (.vr 8) (.vr 9))
                (.st 1 (.bn (.ia 1) (.vr 8) (.vr 9)) (.vr 13) []
                .nil))))))))
                .nil
              .nil))))))))
            (.chk (.bn (.ar .sub .i64) (.vr 13) (.cn (.int .i64 1)))
            (.set 13 (.bn (.ar .sub .i64) (.vr 13) (.cn (.int .i64 1)))
            .nil)))))))
        (.chk (.bn (.cm .lss .i64) (.vr 12) (.cn (.int .i64 0)))
        (.chk (.gd (.bn (.cm .lss .i64) (.vr 12) (.cn (.int .i64 0))) false (.bn (.ar .add .i64) (.vr 9) (.cn (.int .i64 1))))
        (.chk (.gd (.bn (.cm .lss .i64) (.vr 12) (.cn (.int .i64 0))) false (.bn (.ia 1) (.vr 7) (.bn (.ar .add .i64) (.vr 9) (.cn (.int .i64 1)))))
        (.chk (.gd (.bn (.cm .lss .i64) (.vr 12) (.cn (.int .i64 0))) false (.ld (.bn (.ia 1) (.vr 7) (.bn (.ar .add .i64) (.vr 9) (.cn (.int .i64 1))))))
        (.chk (.gd (.bn (.cm .lss .i64) (.vr 12) (.cn (.int .i64 0))) false (.bn (.ar .add .i64) (.vr 1) (.ld (.bn (.ia 1) (.vr 7) (.bn (.ar .add .i64) (.vr 9) (.cn (.int .i64 1)))))))
        (.chk (.gd (.bn (.cm .lss .i64) (.vr 12) (.cn (.int .i64 0))) false (.bn (.cm .lss .i64) (.bn (.ar .add .i64) (.vr 1) (.ld (.bn (.ia 1) (.vr 7) (.bn (.ar .add .i64) (.vr 9) (.cn (.int .i64 1)))))) (.vr 12)))
        (.set 94 (.or (.bn (.cm .lss .i64) (.vr 12) (.cn (.int .i64 0))) (.bn (.cm .lss .i64) (.bn (.ar .add .i64) (.vr 1) (.ld (.bn (.ia 1) (.vr 7) (.bn (.ar .add .i64) (.vr 9) (.cn (.int .i64 1)))))) (.vr 12)))
        (.ite (.vr 94)
          (.chk (.bn (.ar .add .i64) (.vr 9) (.cn (.int .i64 1)))
          (.chk (.bn (.ia 1) (.vr 7) (.bn (.ar .add .i64) (.vr 9) (.cn (.int .i64 1))))
          (.chk (.ld (.bn (.ia 1) (.vr 7) (.bn (.ar .add .i64) (.vr 9) (.cn (.int .i64 1)))))
          (.set 102 (.ld (.bn (.ia 1) (.vr 7) (.bn (.ar .add .i64) (.vr 9) (.cn (.int .i64 1)))))
          (.chk (.bn (.ar .add .i64) (.vr 1) (.vr 102))
          (.set 12 (.bn (.ar .add .i64) (.vr 1) (.vr 102))
          (.chk (.bn (.ia 1) (.vr 8) (.vr 9))
          (.st 1 (.bn (.ia 1) (.vr 8) (.vr 9)) (.cn (.int .i64 0)) []
          .nil))))))))
          .nil
        (.chk (.bn (.ia 1) (.vr 7) (.vr 9))
        (.st 1 (.bn (.ia 1) (.vr 7) (.vr 9)) (.vr 12) []
        .nil)))))))))))))))))
      (.chk (.bn (.ar .sub .i64) (.vr 9) (.cn (.int .i64 1)))
      (.set 9 (.bn (.ar .sub .i64) (.vr 9) (.cn (.int .i64 1)))
      .nil)))))))
  (.set 14 (.cn (.slice none 0 0))
  (.set 15 (.cn (.int .i64 0))
  (.blk 4
    (.loop
      (.chk (.un .ln (.vr 0))
      (.chk (.bn (.cm .lss .i64) (.vr 15) (.un .ln (.vr 0)))
      (.set 112 (.bn (.cm .lss .i64) (.vr 15) (.un .ln (.vr 0)))
      (.ite (.vr 112)
        .nil
        (.exit 4)
      (.blk 5
        (.chk (.bn (.ia 1) (.vr 8) (.vr 15))
        (.chk (.ld (.bn (.ia 1) (.vr 8) (.vr 15)))
        (.chk (.bn (.cm .eql .i64) (.ld (.bn (.ia 1) (.vr 8) (.vr 15))) (.cn (.int .i64 0)))
        (.set 117 (.bn (.cm .eql .i64) (.ld (.bn (.ia 1) (.vr 8) (.vr 15))) (.cn (.int .i64 0)))
        (.ite (.vr 117)
          (.chk (.bn (.ia 1) (.vr 0) (.vr 15))
          (.chk (.ld (.bn (.ia 1) (.vr 0) (.vr 15)))
          (.set 122 (.ld (.bn (.ia 1) (.vr 0) (.vr 15)))
          (.chk (.bd 2 1 (.vr 122) (.cn (.agg #[(.int .i64 0), (.int .i64 0), (.int .i64 0)])))
          (.op (some 124) (.buildSlice 32 1 #[(0, (.tmp 123))]) 32 [(123, (.bd 2 1 (.vr 122) (.cn (.agg #[(.int .i64 0), (.int .i64 0), (.int .i64 0)]))))] []
          (.op (some 125) (.call ⟨(.builtin .append), #[(.tmp 118), (.tmp 124)], #[32, 32]⟩) 32 [(118, (.vr 14)), (124, (.vr 124))] []
          (.set 14 (.vr 125)
          (.chk (.bn (.ar .add .i64) (.vr 15) (.cn (.int .i64 1)))
          (.set 15 (.bn (.ar .add .i64) (.vr 15) (.cn (.int .i64 1)))
          (.exit 5))))))))))
          .nil
        (.draw
        (.chk (.bn (.ia 1) (.vr 8) (.vr 15))
        (.chk (.ld (.bn (.ia 1) (.vr 8) (.vr 15)))
        (.set 132 (.ld (.bn (.ia 1) (.vr 8) (.vr 15)))
        (.chk (.bn (.ia 1) (.vr 8) (.vr 15))
        (.chk (.ld (.bn (.ia 1) (.vr 8) (.vr 15)))
        (.set 138 (.ld (.bn (.ia 1) (.vr 8) (.vr 15)))
        (.call (some 139) 37 [(.vr 0), (.vr 15), (.vr 138)] [⟨4, (.bn (.ia 1) (.vr 8) (.vr 15)), 1, none⟩]
        (.chk (.bd 1 1 (.vr 139) (.bd 0 1 (.vr 132) (.cn (.agg #[(.int .i64 0), (.int .i64 0), (.int .i64 0)]))))
        (.op (some 141) (.buildSlice 32 1 #[(0, (.tmp 140))]) 32 [(140, (.bd 1 1 (.vr 139) (.bd 0 1 (.vr 132) (.cn (.agg #[(.int .i64 0), (.int .i64 0), (.int .i64 0)])))))] []
        (.op (some 142) (.call ⟨(.builtin .append), #[(.tmp 128), (.tmp 141)], #[32, 32]⟩) 32 [(128, (.vr 14)), (141, (.vr 141))] []
        (.set 14 (.vr 142)
        (.chk (.bn (.ia 1) (.vr 8) (.vr 15))
        (.chk (.ld (.bn (.ia 1) (.vr 8) (.vr 15)))
        (.chk (.bn (.ar .add .i64) (.vr 15) (.ld (.bn (.ia 1) (.vr 8) (.vr 15))))
        (.set 15 (.bn (.ar .add .i64) (.vr 15) (.ld (.bn (.ia 1) (.vr 8) (.vr 15))))
        .nil)))))))))))))))))))))
      .nil))))))
  (.set 6 (.vr 14)
  .ret)))))))))))))))
def fc30 : Fc := ⟨150, s30, [(.vr 6)]⟩
theorem c30 : compF Tryd.prog 30 = some fc30 := by kernel_rfl

/-- kinora/match.distances · parameters 3 · 0:l 1:at 2:runs 7:dists 8:longest 9:d -/
def s31 : S :=
  (.op (some 6) (.alloc 54) 0 [] []
  (.op (some 7) (.alloc 54) 0 [] []
  (.set 8 (.cn (.int .i64 0))
  (.set 9 (.cn (.int .i64 1))
  (.blk 0
    (.loop
      (.chk (.bn (.mn .i64) (.vr 1) (.cn (.int .i64 1024)))
      (.chk (.bn (.cm .leq .i64) (.vr 9) (.bn (.mn .i64) (.vr 1) (.cn (.int .i64 1024))))
      (.set 13 (.bn (.cm .leq .i64) (.vr 9) (.bn (.mn .i64) (.vr 1) (.cn (.int .i64 1024))))
      (.ite (.vr 13)
        .nil
        (.exit 0)
      (.blk 1
        (.draw
        (.chk (.bn (.ia 1) (.vr 0) (.vr 1))
        (.chk (.ld (.bn (.ia 1) (.vr 0) (.vr 1)))
        (.chk (.bn (.ar .sub .i64) (.vr 1) (.vr 9))
        (.chk (.bn (.ia 1) (.vr 0) (.bn (.ar .sub .i64) (.vr 1) (.vr 9)))
        (.chk (.ld (.bn (.ia 1) (.vr 0) (.bn (.ar .sub .i64) (.vr 1) (.vr 9))))
        (.chk (.bn (.cm .eql .i64) (.ld (.bn (.ia 1) (.vr 0) (.vr 1))) (.ld (.bn (.ia 1) (.vr 0) (.bn (.ar .sub .i64) (.vr 1) (.vr 9)))))
        (.set 26 (.bn (.cm .eql .i64) (.ld (.bn (.ia 1) (.vr 0) (.vr 1))) (.ld (.bn (.ia 1) (.vr 0) (.bn (.ar .sub .i64) (.vr 1) (.vr 9)))))
        (.ite (.vr 26)
          (.draw
          (.chk (.un .nck (.vr 2))
          (.chk (.bn (.aa 1025 1) (.un .nck (.vr 2)) (.vr 9))
          (.chk (.ld (.bn (.aa 1025 1) (.un .nck (.vr 2)) (.vr 9)))
          (.set 33 (.ld (.bn (.aa 1025 1) (.un .nck (.vr 2)) (.vr 9)))
          (.chk (.bn (.ar .add .i64) (.vr 33) (.cn (.int .i64 1)))
          (.chk (.un .nck (.vr 2))
          (.chk (.bn (.aa 1025 1) (.un .nck (.vr 2)) (.vr 9))
          (.st 1 (.bn (.aa 1025 1) (.un .nck (.vr 2)) (.vr 9)) (.bn (.mn .i64) (.bn (.ar .add .i64) (.vr 33) (.cn (.int .i64 1))) (.cn (.int .i64 64))) []
          .nil)))))))))
          (.chk (.un .nck (.vr 2))
          (.chk (.bn (.aa 1025 1) (.un .nck (.vr 2)) (.vr 9))
          (.st 1 (.bn (.aa 1025 1) (.un .nck (.vr 2)) (.vr 9)) (.cn (.int .i64 0)) []
          .nil)))
        (.blk 2
          (.loop
            (.chk (.un .nck (.vr 2))
            (.chk (.bn (.aa 1025 1) (.un .nck (.vr 2)) (.vr 9))
            (.chk (.ld (.bn (.aa 1025 1) (.un .nck (.vr 2)) (.vr 9)))
            (.chk (.bn (.cm .lss .i64) (.vr 8) (.ld (.bn (.aa 1025 1) (.un .nck (.vr 2)) (.vr 9))))
            (.set 48 (.bn (.cm .lss .i64) (.vr 8) (.ld (.bn (.aa 1025 1) (.un .nck (.vr 2)) (.vr 9))))
            (.ite (.vr 48)
              .nil
              (.exit 2)
            (.blk 3
              (.chk (.bn (.ar .add .i64) (.vr 8) (.cn (.int .i64 1)))
              (.set 8 (.bn (.ar .add .i64) (.vr 8) (.cn (.int .i64 1)))
              (.chk (.bn (.aa 65 1) (.vr 7) (.vr 8))
              (.st 1 (.bn (.aa 65 1) (.vr 7) (.vr 8)) (.vr 9) []
              .nil))))
            .nil))))))))
        .nil))))))))))
      (.chk (.bn (.ar .add .i64) (.vr 9) (.cn (.int .i64 1)))
      (.set 9 (.bn (.ar .add .i64) (.vr 9) (.cn (.int .i64 1)))
      .nil))))))))
  (.chk (.ldn 65 (.vr 7))
  (.set 54 (.ldn 65 (.vr 7))
  (.st 65 (.vr 6) (.vr 54) []
  .ret))))))))
def fc31 : Fc := ⟨55, s31, [(.ldn 65 (.vr 6))]⟩
theorem c31 : compF Tryd.prog 31 = some fc31 := by kernel_rfl

/-- kinora/match.grow · parameters 2 · 0:l 1:token 3:token -/
def s32 : S :=
  (.op (some 3) (.box 47 (.tmp 1)) 0 [(1, (.vr 1))] []
  (.set 4 (.cn (.slice none 0 0))
  (.chk (.ldn 3 (.vr 3))
  (.set 5 (.ldn 3 (.vr 3))
  (.call (some 6) 33 [(.vr 5)] []
  (.ite (.vr 6)
    (.chk (.un (.fa 2) (.vr 3))
    (.chk (.ld (.un (.fa 2) (.vr 3)))
    (.set 9 (.ld (.un (.fa 2) (.vr 3)))
    (.op (some 10) (.buildSlice 26 1 #[(0, (.tmp 9))]) 26 [(9, (.vr 9))] []
    (.op (some 11) (.call ⟨(.builtin .append), #[(.tmp 7), (.tmp 10)], #[26, 26]⟩) 26 [(7, (.vr 0)), (10, (.vr 10))] []
    (.set 4 (.vr 11)
    .ret))))))
    .nil
  (.chk (.un (.fa 0) (.vr 3))
  (.chk (.ld (.un (.fa 0) (.vr 3)))
  (.set 13 (.ld (.un (.fa 0) (.vr 3)))
  (.set 14 (.cn (.int .i64 0))
  (.blk 0
    (.loop
      (.chk (.bn (.cm .lss .i64) (.vr 14) (.vr 13))
      (.set 15 (.bn (.cm .lss .i64) (.vr 14) (.vr 13))
      (.ite (.vr 15)
        .nil
        (.exit 0)
      (.blk 1
        (.chk (.un .ln (.vr 0))
        (.chk (.un (.fa 1) (.vr 3))
        (.chk (.ld (.un (.fa 1) (.vr 3)))
        (.set 21 (.ld (.un (.fa 1) (.vr 3)))
        (.chk (.bn (.ar .sub .i64) (.un .ln (.vr 0)) (.vr 21))
        (.chk (.bn (.ia 1) (.vr 0) (.bn (.ar .sub .i64) (.un .ln (.vr 0)) (.vr 21)))
        (.chk (.ld (.bn (.ia 1) (.vr 0) (.bn (.ar .sub .i64) (.un .ln (.vr 0)) (.vr 21))))
        (.set 24 (.ld (.bn (.ia 1) (.vr 0) (.bn (.ar .sub .i64) (.un .ln (.vr 0)) (.vr 21))))
        (.op (some 25) (.buildSlice 26 1 #[(0, (.tmp 24))]) 26 [(24, (.vr 24))] []
        (.op (some 26) (.call ⟨(.builtin .append), #[(.tmp 16), (.tmp 25)], #[26, 26]⟩) 26 [(16, (.vr 0)), (25, (.vr 25))] []
        (.set 0 (.vr 26)
        .nil)))))))))))
      (.chk (.bn (.ar .add .i64) (.vr 14) (.cn (.int .i64 1)))
      (.set 14 (.bn (.ar .add .i64) (.vr 14) (.cn (.int .i64 1)))
      .nil)))))))
  (.set 4 (.vr 0)
  .ret))))))))))))
def fc32 : Fc := ⟨29, s32, [(.vr 4)]⟩
theorem c32 : compF Tryd.prog 32 = some fc32 := by kernel_rfl

/-- kinora/match.isLiteral · parameters 1 · 0:t 1:t -/
def s33 : S :=
  (.op (some 1) (.box 47 (.tmp 0)) 0 [(0, (.vr 0))] []
  (.set 2 (.cn (.bool false))
  (.chk (.un (.fa 0) (.vr 1))
  (.chk (.ld (.un (.fa 0) (.vr 1)))
  (.chk (.bn (.cm .eql .i64) (.ld (.un (.fa 0) (.vr 1))) (.cn (.int .i64 0)))
  (.chk (.gd (.bn (.cm .eql .i64) (.ld (.un (.fa 0) (.vr 1))) (.cn (.int .i64 0))) true (.un (.fa 1) (.vr 1)))
  (.chk (.gd (.bn (.cm .eql .i64) (.ld (.un (.fa 0) (.vr 1))) (.cn (.int .i64 0))) true (.ld (.un (.fa 1) (.vr 1))))
  (.chk (.gd (.bn (.cm .eql .i64) (.ld (.un (.fa 0) (.vr 1))) (.cn (.int .i64 0))) true (.bn (.cm .eql .i64) (.ld (.un (.fa 1) (.vr 1))) (.cn (.int .i64 0))))
  (.set 2 (.and (.bn (.cm .eql .i64) (.ld (.un (.fa 0) (.vr 1))) (.cn (.int .i64 0))) (.bn (.cm .eql .i64) (.ld (.un (.fa 1) (.vr 1))) (.cn (.int .i64 0))))
  .ret)))))))))
def fc33 : Fc := ⟨11, s33, [(.vr 2)]⟩
theorem c33 : compF Tryd.prog 33 = some fc33 := by kernel_rfl

/-- kinora/match.isCopy · parameters 1 · 0:t 1:t -/
def s34 : S :=
  (.op (some 1) (.box 47 (.tmp 0)) 0 [(0, (.vr 0))] []
  (.set 2 (.cn (.bool false))
  (.chk (.un (.fa 0) (.vr 1))
  (.chk (.ld (.un (.fa 0) (.vr 1)))
  (.chk (.bn (.cm .geq .i64) (.ld (.un (.fa 0) (.vr 1))) (.cn (.int .i64 3)))
  (.chk (.gd (.bn (.cm .geq .i64) (.ld (.un (.fa 0) (.vr 1))) (.cn (.int .i64 3))) true (.un (.fa 0) (.vr 1)))
  (.chk (.gd (.bn (.cm .geq .i64) (.ld (.un (.fa 0) (.vr 1))) (.cn (.int .i64 3))) true (.ld (.un (.fa 0) (.vr 1))))
  (.chk (.gd (.bn (.cm .geq .i64) (.ld (.un (.fa 0) (.vr 1))) (.cn (.int .i64 3))) true (.bn (.cm .leq .i64) (.ld (.un (.fa 0) (.vr 1))) (.cn (.int .i64 64))))
  (.chk (.gd (.and (.bn (.cm .geq .i64) (.ld (.un (.fa 0) (.vr 1))) (.cn (.int .i64 3))) (.bn (.cm .leq .i64) (.ld (.un (.fa 0) (.vr 1))) (.cn (.int .i64 64)))) true (.un (.fa 1) (.vr 1)))
  (.chk (.gd (.and (.bn (.cm .geq .i64) (.ld (.un (.fa 0) (.vr 1))) (.cn (.int .i64 3))) (.bn (.cm .leq .i64) (.ld (.un (.fa 0) (.vr 1))) (.cn (.int .i64 64)))) true (.ld (.un (.fa 1) (.vr 1))))
  (.chk (.gd (.and (.bn (.cm .geq .i64) (.ld (.un (.fa 0) (.vr 1))) (.cn (.int .i64 3))) (.bn (.cm .leq .i64) (.ld (.un (.fa 0) (.vr 1))) (.cn (.int .i64 64)))) true (.bn (.cm .geq .i64) (.ld (.un (.fa 1) (.vr 1))) (.cn (.int .i64 1))))
  (.chk (.gd (.and (.and (.bn (.cm .geq .i64) (.ld (.un (.fa 0) (.vr 1))) (.cn (.int .i64 3))) (.bn (.cm .leq .i64) (.ld (.un (.fa 0) (.vr 1))) (.cn (.int .i64 64)))) (.bn (.cm .geq .i64) (.ld (.un (.fa 1) (.vr 1))) (.cn (.int .i64 1)))) true (.un (.fa 1) (.vr 1)))
  (.chk (.gd (.and (.and (.bn (.cm .geq .i64) (.ld (.un (.fa 0) (.vr 1))) (.cn (.int .i64 3))) (.bn (.cm .leq .i64) (.ld (.un (.fa 0) (.vr 1))) (.cn (.int .i64 64)))) (.bn (.cm .geq .i64) (.ld (.un (.fa 1) (.vr 1))) (.cn (.int .i64 1)))) true (.ld (.un (.fa 1) (.vr 1))))
  (.chk (.gd (.and (.and (.bn (.cm .geq .i64) (.ld (.un (.fa 0) (.vr 1))) (.cn (.int .i64 3))) (.bn (.cm .leq .i64) (.ld (.un (.fa 0) (.vr 1))) (.cn (.int .i64 64)))) (.bn (.cm .geq .i64) (.ld (.un (.fa 1) (.vr 1))) (.cn (.int .i64 1)))) true (.bn (.cm .leq .i64) (.ld (.un (.fa 1) (.vr 1))) (.cn (.int .i64 1024))))
  (.chk (.gd (.and (.and (.and (.bn (.cm .geq .i64) (.ld (.un (.fa 0) (.vr 1))) (.cn (.int .i64 3))) (.bn (.cm .leq .i64) (.ld (.un (.fa 0) (.vr 1))) (.cn (.int .i64 64)))) (.bn (.cm .geq .i64) (.ld (.un (.fa 1) (.vr 1))) (.cn (.int .i64 1)))) (.bn (.cm .leq .i64) (.ld (.un (.fa 1) (.vr 1))) (.cn (.int .i64 1024)))) true (.un (.fa 2) (.vr 1)))
  (.chk (.gd (.and (.and (.and (.bn (.cm .geq .i64) (.ld (.un (.fa 0) (.vr 1))) (.cn (.int .i64 3))) (.bn (.cm .leq .i64) (.ld (.un (.fa 0) (.vr 1))) (.cn (.int .i64 64)))) (.bn (.cm .geq .i64) (.ld (.un (.fa 1) (.vr 1))) (.cn (.int .i64 1)))) (.bn (.cm .leq .i64) (.ld (.un (.fa 1) (.vr 1))) (.cn (.int .i64 1024)))) true (.ld (.un (.fa 2) (.vr 1))))
  (.chk (.gd (.and (.and (.and (.bn (.cm .geq .i64) (.ld (.un (.fa 0) (.vr 1))) (.cn (.int .i64 3))) (.bn (.cm .leq .i64) (.ld (.un (.fa 0) (.vr 1))) (.cn (.int .i64 64)))) (.bn (.cm .geq .i64) (.ld (.un (.fa 1) (.vr 1))) (.cn (.int .i64 1)))) (.bn (.cm .leq .i64) (.ld (.un (.fa 1) (.vr 1))) (.cn (.int .i64 1024)))) true (.bn (.cm .eql .i64) (.ld (.un (.fa 2) (.vr 1))) (.cn (.int .i64 0))))
  (.set 2 (.and (.and (.and (.and (.bn (.cm .geq .i64) (.ld (.un (.fa 0) (.vr 1))) (.cn (.int .i64 3))) (.bn (.cm .leq .i64) (.ld (.un (.fa 0) (.vr 1))) (.cn (.int .i64 64)))) (.bn (.cm .geq .i64) (.ld (.un (.fa 1) (.vr 1))) (.cn (.int .i64 1)))) (.bn (.cm .leq .i64) (.ld (.un (.fa 1) (.vr 1))) (.cn (.int .i64 1024)))) (.bn (.cm .eql .i64) (.ld (.un (.fa 2) (.vr 1))) (.cn (.int .i64 0))))
  .ret))))))))))))))))))
def fc34 : Fc := ⟨26, s34, [(.vr 2)]⟩
theorem c34 : compF Tryd.prog 34 = some fc34 := by kernel_rfl

/-- kinora/kinoraref27.MatchMay · parameters 1 · 0:t 3:i -/
def s35 : S :=
  (.set 2 (.cn (.bool false))
  (.set 3 (.cn (.int .i64 0))
  (.blk 0
    (.loop
      (.chk (.un .ln (.vr 0))
      (.chk (.bn (.cm .lss .i64) (.vr 3) (.un .ln (.vr 0)))
      (.set 7 (.bn (.cm .lss .i64) (.vr 3) (.un .ln (.vr 0)))
      (.ite (.vr 7)
        .nil
        (.exit 0)
      (.blk 1
        (.chk (.bn (.ia 3) (.vr 0) (.vr 3))
        (.chk (.un (.fa 0) (.bn (.ia 3) (.vr 0) (.vr 3)))
        (.chk (.ld (.un (.fa 0) (.bn (.ia 3) (.vr 0) (.vr 3))))
        (.chk (.bn (.cm .eql .i64) (.ld (.un (.fa 0) (.bn (.ia 3) (.vr 0) (.vr 3)))) (.cn (.int .i64 0)))
        (.set 15 (.bn (.cm .eql .i64) (.ld (.un (.fa 0) (.bn (.ia 3) (.vr 0) (.vr 3)))) (.cn (.int .i64 0)))
        (.ite (.vr 15)
          (.chk (.bn (.ia 3) (.vr 0) (.vr 3))
          (.chk (.un (.fa 1) (.bn (.ia 3) (.vr 0) (.vr 3)))
          (.chk (.ld (.un (.fa 1) (.bn (.ia 3) (.vr 0) (.vr 3))))
          (.chk (.bn (.cm .neq .i64) (.ld (.un (.fa 1) (.bn (.ia 3) (.vr 0) (.vr 3)))) (.cn (.int .i64 0)))
          (.set 21 (.bn (.cm .neq .i64) (.ld (.un (.fa 1) (.bn (.ia 3) (.vr 0) (.vr 3)))) (.cn (.int .i64 0)))
          (.ite (.vr 21)
            (.set 2 (.cn (.bool false))
            .ret)
            .nil
          .nil))))))
          (.chk (.bn (.ia 3) (.vr 0) (.vr 3))
          (.chk (.un (.fa 0) (.bn (.ia 3) (.vr 0) (.vr 3)))
          (.chk (.ld (.un (.fa 0) (.bn (.ia 3) (.vr 0) (.vr 3))))
          (.chk (.bn (.cm .lss .i64) (.ld (.un (.fa 0) (.bn (.ia 3) (.vr 0) (.vr 3)))) (.cn (.int .i64 3)))
          (.chk (.gd (.bn (.cm .lss .i64) (.ld (.un (.fa 0) (.bn (.ia 3) (.vr 0) (.vr 3)))) (.cn (.int .i64 3))) false (.bn (.ia 3) (.vr 0) (.vr 3)))
          (.chk (.gd (.bn (.cm .lss .i64) (.ld (.un (.fa 0) (.bn (.ia 3) (.vr 0) (.vr 3)))) (.cn (.int .i64 3))) false (.un (.fa 0) (.bn (.ia 3) (.vr 0) (.vr 3))))
          (.chk (.gd (.bn (.cm .lss .i64) (.ld (.un (.fa 0) (.bn (.ia 3) (.vr 0) (.vr 3)))) (.cn (.int .i64 3))) false (.ld (.un (.fa 0) (.bn (.ia 3) (.vr 0) (.vr 3)))))
          (.chk (.gd (.bn (.cm .lss .i64) (.ld (.un (.fa 0) (.bn (.ia 3) (.vr 0) (.vr 3)))) (.cn (.int .i64 3))) false (.bn (.cm .gtr .i64) (.ld (.un (.fa 0) (.bn (.ia 3) (.vr 0) (.vr 3)))) (.cn (.int .i64 64))))
          (.chk (.gd (.or (.bn (.cm .lss .i64) (.ld (.un (.fa 0) (.bn (.ia 3) (.vr 0) (.vr 3)))) (.cn (.int .i64 3))) (.bn (.cm .gtr .i64) (.ld (.un (.fa 0) (.bn (.ia 3) (.vr 0) (.vr 3)))) (.cn (.int .i64 64)))) false (.bn (.ia 3) (.vr 0) (.vr 3)))
          (.chk (.gd (.or (.bn (.cm .lss .i64) (.ld (.un (.fa 0) (.bn (.ia 3) (.vr 0) (.vr 3)))) (.cn (.int .i64 3))) (.bn (.cm .gtr .i64) (.ld (.un (.fa 0) (.bn (.ia 3) (.vr 0) (.vr 3)))) (.cn (.int .i64 64)))) false (.un (.fa 1) (.bn (.ia 3) (.vr 0) (.vr 3))))
          (.chk (.gd (.or (.bn (.cm .lss .i64) (.ld (.un (.fa 0) (.bn (.ia 3) (.vr 0) (.vr 3)))) (.cn (.int .i64 3))) (.bn (.cm .gtr .i64) (.ld (.un (.fa 0) (.bn (.ia 3) (.vr 0) (.vr 3)))) (.cn (.int .i64 64)))) false (.ld (.un (.fa 1) (.bn (.ia 3) (.vr 0) (.vr 3)))))
          (.chk (.gd (.or (.bn (.cm .lss .i64) (.ld (.un (.fa 0) (.bn (.ia 3) (.vr 0) (.vr 3)))) (.cn (.int .i64 3))) (.bn (.cm .gtr .i64) (.ld (.un (.fa 0) (.bn (.ia 3) (.vr 0) (.vr 3)))) (.cn (.int .i64 64)))) false (.bn (.cm .lss .i64) (.ld (.un (.fa 1) (.bn (.ia 3) (.vr 0) (.vr 3)))) (.cn (.int .i64 1))))
          (.chk (.gd (.or (.or (.bn (.cm .lss .i64) (.ld (.un (.fa 0) (.bn (.ia 3) (.vr 0) (.vr 3)))) (.cn (.int .i64 3))) (.bn (.cm .gtr .i64) (.ld (.un (.fa 0) (.bn (.ia 3) (.vr 0) (.vr 3)))) (.cn (.int .i64 64)))) (.bn (.cm .lss .i64) (.ld (.un (.fa 1) (.bn (.ia 3) (.vr 0) (.vr 3)))) (.cn (.int .i64 1)))) false (.bn (.ia 3) (.vr 0) (.vr 3)))
          (.chk (.gd (.or (.or (.bn (.cm .lss .i64) (.ld (.un (.fa 0) (.bn (.ia 3) (.vr 0) (.vr 3)))) (.cn (.int .i64 3))) (.bn (.cm .gtr .i64) (.ld (.un (.fa 0) (.bn (.ia 3) (.vr 0) (.vr 3)))) (.cn (.int .i64 64)))) (.bn (.cm .lss .i64) (.ld (.un (.fa 1) (.bn (.ia 3) (.vr 0) (.vr 3)))) (.cn (.int .i64 1)))) false (.un (.fa 1) (.bn (.ia 3) (.vr 0) (.vr 3))))
          (.chk (.gd (.or (.or (.bn (.cm .lss .i64) (.ld (.un (.fa 0) (.bn (.ia 3) (.vr 0) (.vr 3)))) (.cn (.int .i64 3))) (.bn (.cm .gtr .i64) (.ld (.un (.fa 0) (.bn (.ia 3) (.vr 0) (.vr 3)))) (.cn (.int .i64 64)))) (.bn (.cm .lss .i64) (.ld (.un (.fa 1) (.bn (.ia 3) (.vr 0) (.vr 3)))) (.cn (.int .i64 1)))) false (.ld (.un (.fa 1) (.bn (.ia 3) (.vr 0) (.vr 3)))))
          (.chk (.gd (.or (.or (.bn (.cm .lss .i64) (.ld (.un (.fa 0) (.bn (.ia 3) (.vr 0) (.vr 3)))) (.cn (.int .i64 3))) (.bn (.cm .gtr .i64) (.ld (.un (.fa 0) (.bn (.ia 3) (.vr 0) (.vr 3)))) (.cn (.int .i64 64)))) (.bn (.cm .lss .i64) (.ld (.un (.fa 1) (.bn (.ia 3) (.vr 0) (.vr 3)))) (.cn (.int .i64 1)))) false (.bn (.cm .gtr .i64) (.ld (.un (.fa 1) (.bn (.ia 3) (.vr 0) (.vr 3)))) (.cn (.int .i64 1024))))
          (.chk (.gd (.or (.or (.or (.bn (.cm .lss .i64) (.ld (.un (.fa 0) (.bn (.ia 3) (.vr 0) (.vr 3)))) (.cn (.int .i64 3))) (.bn (.cm .gtr .i64) (.ld (.un (.fa 0) (.bn (.ia 3) (.vr 0) (.vr 3)))) (.cn (.int .i64 64)))) (.bn (.cm .lss .i64) (.ld (.un (.fa 1) (.bn (.ia 3) (.vr 0) (.vr 3)))) (.cn (.int .i64 1)))) (.bn (.cm .gtr .i64) (.ld (.un (.fa 1) (.bn (.ia 3) (.vr 0) (.vr 3)))) (.cn (.int .i64 1024)))) false (.bn (.ia 3) (.vr 0) (.vr 3)))
          (.chk (.gd (.or (.or (.or (.bn (.cm .lss .i64) (.ld (.un (.fa 0) (.bn (.ia 3) (.vr 0) (.vr 3)))) (.cn (.int .i64 3))) (.bn (.cm .gtr .i64) (.ld (.un (.fa 0) (.bn (.ia 3) (.vr 0) (.vr 3)))) (.cn (.int .i64 64)))) (.bn (.cm .lss .i64) (.ld (.un (.fa 1) (.bn (.ia 3) (.vr 0) (.vr 3)))) (.cn (.int .i64 1)))) (.bn (.cm .gtr .i64) (.ld (.un (.fa 1) (.bn (.ia 3) (.vr 0) (.vr 3)))) (.cn (.int .i64 1024)))) false (.un (.fa 2) (.bn (.ia 3) (.vr 0) (.vr 3))))
          (.chk (.gd (.or (.or (.or (.bn (.cm .lss .i64) (.ld (.un (.fa 0) (.bn (.ia 3) (.vr 0) (.vr 3)))) (.cn (.int .i64 3))) (.bn (.cm .gtr .i64) (.ld (.un (.fa 0) (.bn (.ia 3) (.vr 0) (.vr 3)))) (.cn (.int .i64 64)))) (.bn (.cm .lss .i64) (.ld (.un (.fa 1) (.bn (.ia 3) (.vr 0) (.vr 3)))) (.cn (.int .i64 1)))) (.bn (.cm .gtr .i64) (.ld (.un (.fa 1) (.bn (.ia 3) (.vr 0) (.vr 3)))) (.cn (.int .i64 1024)))) false (.ld (.un (.fa 2) (.bn (.ia 3) (.vr 0) (.vr 3)))))
          (.chk (.gd (.or (.or (.or (.bn (.cm .lss .i64) (.ld (.un (.fa 0) (.bn (.ia 3) (.vr 0) (.vr 3)))) (.cn (.int .i64 3))) (.bn (.cm .gtr .i64) (.ld (.un (.fa 0) (.bn (.ia 3) (.vr 0) (.vr 3)))) (.cn (.int .i64 64)))) (.bn (.cm .lss .i64) (.ld (.un (.fa 1) (.bn (.ia 3) (.vr 0) (.vr 3)))) (.cn (.int .i64 1)))) (.bn (.cm .gtr .i64) (.ld (.un (.fa 1) (.bn (.ia 3) (.vr 0) (.vr 3)))) (.cn (.int .i64 1024)))) false (.bn (.cm .neq .i64) (.ld (.un (.fa 2) (.bn (.ia 3) (.vr 0) (.vr 3)))) (.cn (.int .i64 0))))
          (.set 59 (.or (.or (.or (.or (.bn (.cm .lss .i64) (.ld (.un (.fa 0) (.bn (.ia 3) (.vr 0) (.vr 3)))) (.cn (.int .i64 3))) (.bn (.cm .gtr .i64) (.ld (.un (.fa 0) (.bn (.ia 3) (.vr 0) (.vr 3)))) (.cn (.int .i64 64)))) (.bn (.cm .lss .i64) (.ld (.un (.fa 1) (.bn (.ia 3) (.vr 0) (.vr 3)))) (.cn (.int .i64 1)))) (.bn (.cm .gtr .i64) (.ld (.un (.fa 1) (.bn (.ia 3) (.vr 0) (.vr 3)))) (.cn (.int .i64 1024)))) (.bn (.cm .neq .i64) (.ld (.un (.fa 2) (.bn (.ia 3) (.vr 0) (.vr 3)))) (.cn (.int .i64 0))))
          (.ite (.vr 59)
            (.set 2 (.cn (.bool false))
            .ret)
            .nil
          .nil))))))))))))))))))))))
        .nil))))))
      (.chk (.bn (.ar .add .i64) (.vr 3) (.cn (.int .i64 1)))
      (.set 3 (.bn (.ar .add .i64) (.vr 3) (.cn (.int .i64 1)))
      .nil))))))))
  (.set 2 (.cn (.bool true))
  .ret))))
def fc35 : Fc := ⟨60, s35, [(.vr 2)]⟩
theorem c35 : compF Tryd.prog 35 = some fc35 := by kernel_rfl

/-- kinora/kinoraref27.run · parameters 3 · 0:l 1:at 2:dist 7:n -/
def s36 : S :=
  (.set 6 (.cn (.int .i64 0))
  (.set 7 (.cn (.int .i64 0))
  (.blk 0
    (.loop
      (.draw
      (.chk (.bn (.cm .lss .i64) (.vr 7) (.cn (.int .i64 64)))
      (.chk (.gd (.bn (.cm .lss .i64) (.vr 7) (.cn (.int .i64 64))) true (.bn (.ar .add .i64) (.vr 1) (.vr 7)))
      (.chk (.gd (.bn (.cm .lss .i64) (.vr 7) (.cn (.int .i64 64))) true (.un .ln (.vr 0)))
      (.chk (.gd (.and (.bn (.cm .lss .i64) (.vr 7) (.cn (.int .i64 64))) (.bn (.cm .lss .i64) (.bn (.ar .add .i64) (.vr 1) (.vr 7)) (.un .ln (.vr 0)))) true (.bn (.ar .add .i64) (.vr 1) (.vr 7)))
      (.chk (.gd (.and (.bn (.cm .lss .i64) (.vr 7) (.cn (.int .i64 64))) (.bn (.cm .lss .i64) (.bn (.ar .add .i64) (.vr 1) (.vr 7)) (.un .ln (.vr 0)))) true (.bn (.ia 1) (.vr 0) (.bn (.ar .add .i64) (.vr 1) (.vr 7))))
      (.chk (.gd (.and (.bn (.cm .lss .i64) (.vr 7) (.cn (.int .i64 64))) (.bn (.cm .lss .i64) (.bn (.ar .add .i64) (.vr 1) (.vr 7)) (.un .ln (.vr 0)))) true (.ld (.bn (.ia 1) (.vr 0) (.bn (.ar .add .i64) (.vr 1) (.vr 7)))))
      (.chk (.gd (.and (.bn (.cm .lss .i64) (.vr 7) (.cn (.int .i64 64))) (.bn (.cm .lss .i64) (.bn (.ar .add .i64) (.vr 1) (.vr 7)) (.un .ln (.vr 0)))) true (.bn (.ar .add .i64) (.vr 1) (.vr 7)))
      (.chk (.gd (.and (.bn (.cm .lss .i64) (.vr 7) (.cn (.int .i64 64))) (.bn (.cm .lss .i64) (.bn (.ar .add .i64) (.vr 1) (.vr 7)) (.un .ln (.vr 0)))) true (.bn (.ar .sub .i64) (.bn (.ar .add .i64) (.vr 1) (.vr 7)) (.vr 2)))
      (.chk (.gd (.and (.bn (.cm .lss .i64) (.vr 7) (.cn (.int .i64 64))) (.bn (.cm .lss .i64) (.bn (.ar .add .i64) (.vr 1) (.vr 7)) (.un .ln (.vr 0)))) true (.bn (.ia 1) (.vr 0) (.bn (.ar .sub .i64) (.bn (.ar .add .i64) (.vr 1) (.vr 7)) (.vr 2))))
      (.chk (.gd (.and (.bn (.cm .lss .i64) (.vr 7) (.cn (.int .i64 64))) (.bn (.cm .lss .i64) (.bn (.ar .add .i64) (.vr 1) (.vr 7)) (.un .ln (.vr 0)))) true (.ld (.bn (.ia 1) (.vr 0) (.bn (.ar .sub .i64) (.bn (.ar .add .i64) (.vr 1) (.vr 7)) (.vr 2)))))
      (.chk (.gd (.and (.bn (.cm .lss .i64) (.vr 7) (.cn (.int .i64 64))) (.bn (.cm .lss .i64) (.bn (.ar .add .i64) (.vr 1) (.vr 7)) (.un .ln (.vr 0)))) true (.bn (.cm .eql .i64) (.ld (.bn (.ia 1) (.vr 0) (.bn (.ar .add .i64) (.vr 1) (.vr 7)))) (.ld (.bn (.ia 1) (.vr 0) (.bn (.ar .sub .i64) (.bn (.ar .add .i64) (.vr 1) (.vr 7)) (.vr 2))))))
      (.set 34 (.and (.and (.bn (.cm .lss .i64) (.vr 7) (.cn (.int .i64 64))) (.bn (.cm .lss .i64) (.bn (.ar .add .i64) (.vr 1) (.vr 7)) (.un .ln (.vr 0)))) (.bn (.cm .eql .i64) (.ld (.bn (.ia 1) (.vr 0) (.bn (.ar .add .i64) (.vr 1) (.vr 7)))) (.ld (.bn (.ia 1) (.vr 0) (.bn (.ar .sub .i64) (.bn (.ar .add .i64) (.vr 1) (.vr 7)) (.vr 2))))))
      (.ite (.vr 34)
        .nil
        (.exit 0)
      (.blk 1
        (.chk (.bn (.ar .add .i64) (.vr 7) (.cn (.int .i64 1)))
        (.set 7 (.bn (.ar .add .i64) (.vr 7) (.cn (.int .i64 1)))
        .nil))
      .nil))))))))))))))))
  (.set 6 (.vr 7)
  .ret))))
def fc36 : Fc := ⟨38, s36, [(.vr 6)]⟩
theorem c36 : compF Tryd.prog 36 = some fc36 := by kernel_rfl

/-- kinora/kinoraref27.least · parameters 3 · 0:l 1:at 2:n 7:d -/
def s37 : S :=
  (.set 6 (.cn (.int .i64 0))
  (.set 7 (.cn (.int .i64 1))
  (.blk 0
    (.loop
      (.call (some 11) 36 [(.vr 0), (.vr 1), (.vr 7)] []
      (.chk (.bn (.cm .lss .i64) (.vr 11) (.vr 2))
      (.set 13 (.bn (.cm .lss .i64) (.vr 11) (.vr 2))
      (.ite (.vr 13)
        .nil
        (.exit 0)
      (.blk 1
        (.chk (.bn (.ar .add .i64) (.vr 7) (.cn (.int .i64 1)))
        (.set 7 (.bn (.ar .add .i64) (.vr 7) (.cn (.int .i64 1)))
        .nil))
      .nil))))))
  (.set 6 (.vr 7)
  .ret))))
def fc37 : Fc := ⟨17, s37, [(.vr 6)]⟩
theorem c37 : compF Tryd.prog 37 = some fc37 := by kernel_rfl

/-- gosem.cut.vars · parameters 0 ·  -/
def s58 : S :=
  (.chk (.bd 1 1 (.cn (.int .i64 1)) (.bd 0 1 (.cn (.int .i64 0)) (.cn (.agg #[(.int .i64 0), (.int .i64 0)]))))
  (.chk (.bd 1 1 (.cn (.int .i64 0)) (.bd 0 1 (.cn (.int .i64 1)) (.cn (.agg #[(.int .i64 0), (.int .i64 0)]))))
  (.chk (.bd 1 1 (.cn (.int .i64 1)) (.bd 0 1 (.cn (.int .i64 1)) (.cn (.agg #[(.int .i64 0), (.int .i64 0)]))))
  (.chk (.bd 1 1 (.cn (.int .i64 1)) (.bd 0 1 (.cn (.int .i64 (-1))) (.cn (.agg #[(.int .i64 0), (.int .i64 0)]))))
  (.chk (.bd 1 1 (.cn (.int .i64 2)) (.bd 0 1 (.cn (.int .i64 0)) (.cn (.agg #[(.int .i64 0), (.int .i64 0)]))))
  (.chk (.bd 1 1 (.cn (.int .i64 0)) (.bd 0 1 (.cn (.int .i64 2)) (.cn (.agg #[(.int .i64 0), (.int .i64 0)]))))
  (.chk (.bd 1 1 (.cn (.int .i64 2)) (.bd 0 1 (.cn (.int .i64 1)) (.cn (.agg #[(.int .i64 0), (.int .i64 0)]))))
  (.chk (.bd 1 1 (.cn (.int .i64 2)) (.bd 0 1 (.cn (.int .i64 (-1))) (.cn (.agg #[(.int .i64 0), (.int .i64 0)]))))
  (.chk (.bd 1 1 (.cn (.int .i64 1)) (.bd 0 1 (.cn (.int .i64 2)) (.cn (.agg #[(.int .i64 0), (.int .i64 0)]))))
  (.chk (.bd 1 1 (.cn (.int .i64 1)) (.bd 0 1 (.cn (.int .i64 (-2))) (.cn (.agg #[(.int .i64 0), (.int .i64 0)]))))
  (.chk (.bd 1 1 (.cn (.int .i64 2)) (.bd 0 1 (.cn (.int .i64 2)) (.cn (.agg #[(.int .i64 0), (.int .i64 0)]))))
  (.chk (.bd 1 1 (.cn (.int .i64 2)) (.bd 0 1 (.cn (.int .i64 (-2))) (.cn (.agg #[(.int .i64 0), (.int .i64 0)]))))
  (.chk (.bd 1 1 (.cn (.int .i64 3)) (.bd 0 1 (.cn (.int .i64 0)) (.cn (.agg #[(.int .i64 0), (.int .i64 0)]))))
  (.chk (.bd 1 1 (.cn (.int .i64 0)) (.bd 0 1 (.cn (.int .i64 3)) (.cn (.agg #[(.int .i64 0), (.int .i64 0)]))))
  (.chk (.bd 1 1 (.cn (.int .i64 3)) (.bd 0 1 (.cn (.int .i64 1)) (.cn (.agg #[(.int .i64 0), (.int .i64 0)]))))
  (.chk (.bd 1 1 (.cn (.int .i64 3)) (.bd 0 1 (.cn (.int .i64 (-1))) (.cn (.agg #[(.int .i64 0), (.int .i64 0)]))))
  (.chk (.bd 1 1 (.cn (.int .i64 1)) (.bd 0 1 (.cn (.int .i64 3)) (.cn (.agg #[(.int .i64 0), (.int .i64 0)]))))
  (.chk (.bd 1 1 (.cn (.int .i64 1)) (.bd 0 1 (.cn (.int .i64 (-3))) (.cn (.agg #[(.int .i64 0), (.int .i64 0)]))))
  (.chk (.bd 1 1 (.cn (.int .i64 3)) (.bd 0 1 (.cn (.int .i64 2)) (.cn (.agg #[(.int .i64 0), (.int .i64 0)]))))
  (.chk (.bd 1 1 (.cn (.int .i64 3)) (.bd 0 1 (.cn (.int .i64 (-2))) (.cn (.agg #[(.int .i64 0), (.int .i64 0)]))))
  (.chk (.bd 1 1 (.cn (.int .i64 2)) (.bd 0 1 (.cn (.int .i64 3)) (.cn (.agg #[(.int .i64 0), (.int .i64 0)]))))
  (.chk (.bd 1 1 (.cn (.int .i64 2)) (.bd 0 1 (.cn (.int .i64 (-3))) (.cn (.agg #[(.int .i64 0), (.int .i64 0)]))))
  (.chk (.bd 1 1 (.cn (.int .i64 4)) (.bd 0 1 (.cn (.int .i64 0)) (.cn (.agg #[(.int .i64 0), (.int .i64 0)]))))
  (.chk (.bd 1 1 (.cn (.int .i64 0)) (.bd 0 1 (.cn (.int .i64 4)) (.cn (.agg #[(.int .i64 0), (.int .i64 0)]))))
  (.chk (.bd 46 2 (.bd 1 1 (.cn (.int .i64 0)) (.bd 0 1 (.cn (.int .i64 4)) (.cn (.agg #[(.int .i64 0), (.int .i64 0)])))) (.bd 44 2 (.bd 1 1 (.cn (.int .i64 4)) (.bd 0 1 (.cn (.int .i64 0)) (.cn (.agg #[(.int .i64 0), (.int .i64 0)])))) (.bd 42 2 (.bd 1 1 (.cn (.int .i64 2)) (.bd 0 1 (.cn (.int .i64 (-3))) (.cn (.agg #[(.int .i64 0), (.int .i64 0)])))) (.bd 40 2 (.bd 1 1 (.cn (.int .i64 2)) (.bd 0 1 (.cn (.int .i64 3)) (.cn (.agg #[(.int .i64 0), (.int .i64 0)])))) (.bd 38 2 (.bd 1 1 (.cn (.int .i64 3)) (.bd 0 1 (.cn (.int .i64 (-2))) (.cn (.agg #[(.int .i64 0), (.int .i64 0)])))) (.bd 36 2 (.bd 1 1 (.cn (.int .i64 3)) (.bd 0 1 (.cn (.int .i64 2)) (.cn (.agg #[(.int .i64 0), (.int .i64 0)])))) (.bd 34 2 (.bd 1 1 (.cn (.int .i64 1)) (.bd 0 1 (.cn (.int .i64 (-3))) (.cn (.agg #[(.int .i64 0), (.int .i64 0)])))) (.bd 32 2 (.bd 1 1 (.cn (.int .i64 1)) (.bd 0 1 (.cn (.int .i64 3)) (.cn (.agg #[(.int .i64 0), (.int .i64 0)])))) (.bd 30 2 (.bd 1 1 (.cn (.int .i64 3)) (.bd 0 1 (.cn (.int .i64 (-1))) (.cn (.agg #[(.int .i64 0), (.int .i64 0)])))) (.bd 28 2 (.bd 1 1 (.cn (.int .i64 3)) (.bd 0 1 (.cn (.int .i64 1)) (.cn (.agg #[(.int .i64 0), (.int .i64 0)])))) (.bd 26 2 (.bd 1 1 (.cn (.int .i64 0)) (.bd 0 1 (.cn (.int .i64 3)) (.cn (.agg #[(.int .i64 0), (.int .i64 0)])))) (.bd 24 2 (.bd 1 1 (.cn (.int .i64 3)) (.bd 0 1 (.cn (.int .i64 0)) (.cn (.agg #[(.int .i64 0), (.int .i64 0)])))) (.bd 22 2 (.bd 1 1 (.cn (.int .i64 2)) (.bd 0 1 (.cn (.int .i64 (-2))) (.cn (.agg #[(.int .i64 0), (.int .i64 0)])))) (.bd 20 2 (.bd 1 1 (.cn (.int .i64 2)) (.bd 0 1 (.cn (.int .i64 2)) (.cn (.agg #[(.int .i64 0), (.int .i64 0)])))) (.bd 18 2 (.bd 1 1 (.cn (.int .i64 1)) (.bd 0 1 (.cn (.int .i64 (-2))) (.cn (.agg #[(.int .i64 0), (.int .i64 0)])))) (.bd 16 2 (.bd 1 1 (.cn (.int .i64 1)) (.bd 0 1 (.cn (.int .i64 2)) (.cn (.agg #[(.int .i64 0), (.int .i64 0)])))) (.bd 14 2 (.bd 1 1 (.cn (.int .i64 2)) (.bd 0 1 (.cn (.int .i64 (-1))) (.cn (.agg #[(.int .i64 0), (.int .i64 0)])))) (.bd 12 2 (.bd 1 1 (.cn (.int .i64 2)) (.bd 0 1 (.cn (.int .i64 1)) (.cn (.agg #[(.int .i64 0), (.int .i64 0)])))) (.bd 10 2 (.bd 1 1 (.cn (.int .i64 0)) (.bd 0 1 (.cn (.int .i64 2)) (.cn (.agg #[(.int .i64 0), (.int .i64 0)])))) (.bd 8 2 (.bd 1 1 (.cn (.int .i64 2)) (.bd 0 1 (.cn (.int .i64 0)) (.cn (.agg #[(.int .i64 0), (.int .i64 0)])))) (.bd 6 2 (.bd 1 1 (.cn (.int .i64 1)) (.bd 0 1 (.cn (.int .i64 (-1))) (.cn (.agg #[(.int .i64 0), (.int .i64 0)])))) (.bd 4 2 (.bd 1 1 (.cn (.int .i64 1)) (.bd 0 1 (.cn (.int .i64 1)) (.cn (.agg #[(.int .i64 0), (.int .i64 0)])))) (.bd 2 2 (.bd 1 1 (.cn (.int .i64 0)) (.bd 0 1 (.cn (.int .i64 1)) (.cn (.agg #[(.int .i64 0), (.int .i64 0)])))) (.bd 0 2 (.bd 1 1 (.cn (.int .i64 1)) (.bd 0 1 (.cn (.int .i64 0)) (.cn (.agg #[(.int .i64 0), (.int .i64 0)])))) (.cn (.agg #[(.int .i64 0), (.int .i64 0), (.int .i64 0), (.int .i64 0), (.int .i64 0), (.int .i64 0), (.int .i64 0), (.int .i64 0), (.int .i64 0), (.int .i64 0), (.int .i64 0), (.int .i64 0), (.int .i64 0), (.int .i64 0), (.int .i64 0), (.int .i64 0), (.int .i64 0), (.int .i64 0), (.int .i64 0), (.int .i64 0), (.int .i64 0), (.int .i64 0), (.int .i64 0), (.int .i64 0), (.int .i64 0), (.int .i64 0), (.int .i64 0), (.int .i64 0), (.int .i64 0), (.int .i64 0), (.int .i64 0), (.int .i64 0), (.int .i64 0), (.int .i64 0), (.int .i64 0), (.int .i64 0), (.int .i64 0), (.int .i64 0), (.int .i64 0), (.int .i64 0), (.int .i64 0), (.int .i64 0), (.int .i64 0), (.int .i64 0), (.int .i64 0), (.int .i64 0), (.int .i64 0), (.int .i64 0)]))))))))))))))))))))))))))
  (.st 48 (.cn (.pointer (some ⟨0, 0, none⟩))) (.bd 46 2 (.bd 1 1 (.cn (.int .i64 0)) (.bd 0 1 (.cn (.int .i64 4)) (.cn (.agg #[(.int .i64 0), (.int .i64 0)])))) (.bd 44 2 (.bd 1 1 (.cn (.int .i64 4)) (.bd 0 1 (.cn (.int .i64 0)) (.cn (.agg #[(.int .i64 0), (.int .i64 0)])))) (.bd 42 2 (.bd 1 1 (.cn (.int .i64 2)) (.bd 0 1 (.cn (.int .i64 (-3))) (.cn (.agg #[(.int .i64 0), (.int .i64 0)])))) (.bd 40 2 (.bd 1 1 (.cn (.int .i64 2)) (.bd 0 1 (.cn (.int .i64 3)) (.cn (.agg #[(.int .i64 0), (.int .i64 0)])))) (.bd 38 2 (.bd 1 1 (.cn (.int .i64 3)) (.bd 0 1 (.cn (.int .i64 (-2))) (.cn (.agg #[(.int .i64 0), (.int .i64 0)])))) (.bd 36 2 (.bd 1 1 (.cn (.int .i64 3)) (.bd 0 1 (.cn (.int .i64 2)) (.cn (.agg #[(.int .i64 0), (.int .i64 0)])))) (.bd 34 2 (.bd 1 1 (.cn (.int .i64 1)) (.bd 0 1 (.cn (.int .i64 (-3))) (.cn (.agg #[(.int .i64 0), (.int .i64 0)])))) (.bd 32 2 (.bd 1 1 (.cn (.int .i64 1)) (.bd 0 1 (.cn (.int .i64 3)) (.cn (.agg #[(.int .i64 0), (.int .i64 0)])))) (.bd 30 2 (.bd 1 1 (.cn (.int .i64 3)) (.bd 0 1 (.cn (.int .i64 (-1))) (.cn (.agg #[(.int .i64 0), (.int .i64 0)])))) (.bd 28 2 (.bd 1 1 (.cn (.int .i64 3)) (.bd 0 1 (.cn (.int .i64 1)) (.cn (.agg #[(.int .i64 0), (.int .i64 0)])))) (.bd 26 2 (.bd 1 1 (.cn (.int .i64 0)) (.bd 0 1 (.cn (.int .i64 3)) (.cn (.agg #[(.int .i64 0), (.int .i64 0)])))) (.bd 24 2 (.bd 1 1 (.cn (.int .i64 3)) (.bd 0 1 (.cn (.int .i64 0)) (.cn (.agg #[(.int .i64 0), (.int .i64 0)])))) (.bd 22 2 (.bd 1 1 (.cn (.int .i64 2)) (.bd 0 1 (.cn (.int .i64 (-2))) (.cn (.agg #[(.int .i64 0), (.int .i64 0)])))) (.bd 20 2 (.bd 1 1 (.cn (.int .i64 2)) (.bd 0 1 (.cn (.int .i64 2)) (.cn (.agg #[(.int .i64 0), (.int .i64 0)])))) (.bd 18 2 (.bd 1 1 (.cn (.int .i64 1)) (.bd 0 1 (.cn (.int .i64 (-2))) (.cn (.agg #[(.int .i64 0), (.int .i64 0)])))) (.bd 16 2 (.bd 1 1 (.cn (.int .i64 1)) (.bd 0 1 (.cn (.int .i64 2)) (.cn (.agg #[(.int .i64 0), (.int .i64 0)])))) (.bd 14 2 (.bd 1 1 (.cn (.int .i64 2)) (.bd 0 1 (.cn (.int .i64 (-1))) (.cn (.agg #[(.int .i64 0), (.int .i64 0)])))) (.bd 12 2 (.bd 1 1 (.cn (.int .i64 2)) (.bd 0 1 (.cn (.int .i64 1)) (.cn (.agg #[(.int .i64 0), (.int .i64 0)])))) (.bd 10 2 (.bd 1 1 (.cn (.int .i64 0)) (.bd 0 1 (.cn (.int .i64 2)) (.cn (.agg #[(.int .i64 0), (.int .i64 0)])))) (.bd 8 2 (.bd 1 1 (.cn (.int .i64 2)) (.bd 0 1 (.cn (.int .i64 0)) (.cn (.agg #[(.int .i64 0), (.int .i64 0)])))) (.bd 6 2 (.bd 1 1 (.cn (.int .i64 1)) (.bd 0 1 (.cn (.int .i64 (-1))) (.cn (.agg #[(.int .i64 0), (.int .i64 0)])))) (.bd 4 2 (.bd 1 1 (.cn (.int .i64 1)) (.bd 0 1 (.cn (.int .i64 1)) (.cn (.agg #[(.int .i64 0), (.int .i64 0)])))) (.bd 2 2 (.bd 1 1 (.cn (.int .i64 0)) (.bd 0 1 (.cn (.int .i64 1)) (.cn (.agg #[(.int .i64 0), (.int .i64 0)])))) (.bd 0 2 (.bd 1 1 (.cn (.int .i64 1)) (.bd 0 1 (.cn (.int .i64 0)) (.cn (.agg #[(.int .i64 0), (.int .i64 0)])))) (.cn (.agg #[(.int .i64 0), (.int .i64 0), (.int .i64 0), (.int .i64 0), (.int .i64 0), (.int .i64 0), (.int .i64 0), (.int .i64 0), (.int .i64 0), (.int .i64 0), (.int .i64 0), (.int .i64 0), (.int .i64 0), (.int .i64 0), (.int .i64 0), (.int .i64 0), (.int .i64 0), (.int .i64 0), (.int .i64 0), (.int .i64 0), (.int .i64 0), (.int .i64 0), (.int .i64 0), (.int .i64 0), (.int .i64 0), (.int .i64 0), (.int .i64 0), (.int .i64 0), (.int .i64 0), (.int .i64 0), (.int .i64 0), (.int .i64 0), (.int .i64 0), (.int .i64 0), (.int .i64 0), (.int .i64 0), (.int .i64 0), (.int .i64 0), (.int .i64 0), (.int .i64 0), (.int .i64 0), (.int .i64 0), (.int .i64 0), (.int .i64 0), (.int .i64 0), (.int .i64 0), (.int .i64 0), (.int .i64 0)])))))))))))))))))))))))))) []
  .nil))))))))))))))))))))))))))
def fc58 : Fc := ⟨25, s58, []⟩
theorem c58 : compF Tryd.prog 58 = some fc58 := by kernel_rfl

end Go.Proofs.YtfanamibkgkaiaaDoor.VG
