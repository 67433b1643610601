/-
  The translations of the functions, printed by program (wip/vg/Print.lean); each is checked against the program by the kernel.
-/
import Derived.Test.YtbncppklmhfnmaaChecked
import Derived.Test.YtbncppklmhfnmaaVgH
namespace Go.Proofs.Ytbncppklmhfnmaa.VG
open Go
set_option maxRecDepth 100000

/-- kinora/kinoralaw22.ScanTells · parameters 3 · 0:w 1:h 2:kind 7:a 8:b 9:k -/
def s3 : S :=
  (.set 6 (.cn (.bool false))
  (.call (some 11) 8 [(.vr 0), (.cn (.int .i64 1)), (.cn (.int .i64 64))] []
  (.call (some 13) 8 [(.vr 1), (.cn (.int .i64 1)), (.cn (.int .i64 64))] []
  (.set 7 (.vr 11)
  (.set 8 (.vr 13)
  (.set 9 (.cn (.int .i64 (-1)))
  (.blk 0
    (.loop
      (.chk (.bn (.cm .leq .i64) (.vr 9) (.cn (.int .i64 6)))
      (.set 15 (.bn (.cm .leq .i64) (.vr 9) (.cn (.int .i64 6)))
      (.ite (.vr 15)
        .nil
        (.exit 0)
      (.blk 1
        (.call (some 21) 10 [(.vr 7), (.vr 8), (.vr 9)] []
        (.call (some 25) 11 [(.vr 7), (.vr 8), (.vr 9)] []
        (.call (some 26) 9 [(.vr 21), (.vr 25)] []
        (.chk (.un .not (.vr 26))
        (.set 27 (.un .not (.vr 26))
        (.ite (.vr 27)
          (.set 6 (.cn (.bool false))
          .ret)
          .nil
        .nil))))))
      (.chk (.bn (.ar .add .i64) (.vr 9) (.cn (.int .i64 1)))
      (.set 9 (.bn (.ar .add .i64) (.vr 9) (.cn (.int .i64 1)))
      .nil)))))))
  (.call (some 31) 10 [(.vr 0), (.vr 1), (.vr 2)] []
  (.call (some 35) 11 [(.vr 0), (.vr 1), (.vr 2)] []
  (.call (some 36) 9 [(.vr 31), (.vr 35)] []
  (.set 37 (.vr 36)
  (.ifg (.vr 37) true
    (.call (some 40) 13 [(.vr 7), (.vr 8)] []
    .nil)
    (.set 40 (.cn undef)
    .nil)
  (.ifg (.vr 37) true
    (.call (some 43) 14 [(.vr 7), (.vr 8)] []
    .nil)
    (.set 43 (.cn undef)
    .nil)
  (.ifg (.vr 37) true
    (.call (some 44) 12 [(.vr 40), (.vr 43)] []
    .nil)
    (.set 44 (.cn undef)
    .nil)
  (.chk (.pk (.vr 37) (.vr 44) (.cn (.bool false)))
  (.set 46 (.pk (.vr 37) (.vr 44) (.cn (.bool false)))
  (.ifg (.vr 46) true
    (.call (some 49) 13 [(.vr 0), (.vr 1)] []
    .nil)
    (.set 49 (.cn undef)
    .nil)
  (.ifg (.vr 46) true
    (.call (some 52) 14 [(.vr 0), (.vr 1)] []
    .nil)
    (.set 52 (.cn undef)
    .nil)
  (.ifg (.vr 46) true
    (.call (some 53) 12 [(.vr 49), (.vr 52)] []
    .nil)
    (.set 53 (.cn undef)
    .nil)
  (.chk (.pk (.vr 46) (.vr 53) (.cn (.bool false)))
  (.set 55 (.pk (.vr 46) (.vr 53) (.cn (.bool false)))
  (.ifg (.vr 55) true
    (.call (some 56) 15 [] []
    .nil)
    (.set 56 (.cn undef)
    .nil)
  (.chk (.pk (.vr 55) (.vr 56) (.cn (.bool false)))
  (.set 6 (.pk (.vr 55) (.vr 56) (.cn (.bool false)))
  .ret))))))))))))))))))))))))
def fc3 : Fc := ⟨58, s3, [(.vr 6)]⟩
theorem c3 : compF Try.prog 3 = some fc3 := by kernel_rfl

/-- kinora/kinoralaw22.ScanTakes · parameters 3 · 0:l 1:order 2:t 7:k 8:some 9:i 10:n -/
def s4 : S :=
  (.set 6 (.cn (.bool false))
  (.chk (.un .ln (.vr 0))
  (.chk (.gd (.bn (.cm .gtr .i64) (.un .ln (.vr 0)) (.cn (.int .i64 2000))) false (.un .ln (.vr 1)))
  (.set 18 (.or (.bn (.cm .gtr .i64) (.un .ln (.vr 0)) (.cn (.int .i64 2000))) (.bn (.cm .gtr .i64) (.un .ln (.vr 1)) (.cn (.int .i64 2000))))
  (.ite (.vr 18)
    (.set 6 (.cn (.bool true))
    .ret)
    .nil
  (.call (some 20) 16 [(.vr 2)] []
  (.set 7 (.vr 20)
  (.set 8 (.cn (.slice none 0 0))
  (.set 9 (.cn (.int .i64 0))
  (.blk 0
    (.loop
      (.chk (.un .ln (.vr 0))
      (.chk (.bn (.cm .lss .i64) (.vr 9) (.un .ln (.vr 0)))
      (.set 24 (.bn (.cm .lss .i64) (.vr 9) (.un .ln (.vr 0)))
      (.ite (.vr 24)
        .nil
        (.exit 0)
      (.blk 1
        (.chk (.bn (.ar .add .i64) (.vr 9) (.cn (.int .i64 1)))
        (.call (some 30) 17 [(.vr 7), (.bn (.ar .add .i64) (.vr 9) (.cn (.int .i64 1)))] []
        (.set 10 (.vr 30)
        (.op (some 33) (.buildSlice 24 1 #[(0, (.tmp 32))]) 24 [(32, (.vr 9))] []
        (.op (some 34) (.call ⟨(.builtin .append), #[(.tmp 31), (.tmp 33)], #[24, 24]⟩) 24 [(31, (.vr 8)), (33, (.vr 33))] []
        (.set 8 (.vr 34)
        (.draw
        (.chk (.bn (.ia 1) (.vr 8) (.vr 10))
        (.chk (.ld (.bn (.ia 1) (.vr 8) (.vr 10)))
        (.set 42 (.ld (.bn (.ia 1) (.vr 8) (.vr 10)))
        (.chk (.bn (.ia 1) (.vr 8) (.vr 9))
        (.chk (.ld (.bn (.ia 1) (.vr 8) (.vr 9)))
        (.set 46 (.ld (.bn (.ia 1) (.vr 8) (.vr 9)))
        (.chk (.bn (.ia 1) (.vr 8) (.vr 9))
        (.st 1 (.bn (.ia 1) (.vr 8) (.vr 9)) (.vr 42) []
        (.chk (.bn (.ia 1) (.vr 8) (.vr 10))
        (.st 1 (.bn (.ia 1) (.vr 8) (.vr 10)) (.vr 46) []
        .nil)))))))))))))))))
      (.chk (.bn (.ar .add .i64) (.vr 9) (.cn (.int .i64 1)))
      (.set 9 (.bn (.ar .add .i64) (.vr 9) (.cn (.int .i64 1)))
      .nil))))))))
  (.call (some 51) 18 [(.vr 0), (.vr 1)] []
  (.set 52 (.vr 51)
  (.ifg (.vr 52) true
    (.call (some 55) 18 [(.vr 0), (.vr 8)] []
    .nil)
    (.set 55 (.cn undef)
    .nil)
  (.chk (.pk (.vr 52) (.vr 55) (.cn (.bool false)))
  (.set 57 (.pk (.vr 52) (.vr 55) (.cn (.bool false)))
  (.ifg (.vr 57) true
    (.call (some 58) 15 [] []
    .nil)
    (.set 58 (.cn undef)
    .nil)
  (.chk (.pk (.vr 57) (.vr 58) (.cn (.bool false)))
  (.set 6 (.pk (.vr 57) (.vr 58) (.cn (.bool false)))
  .ret))))))))))))))))))
def fc4 : Fc := ⟨60, s4, [(.vr 6)]⟩
theorem c4 : compF Try.prog 4 = some fc4 := by kernel_rfl

/-- kinora/kinoralaw22.ScanBack · parameters 3 · 0:t 1:w 2:h 7:a 8:b 9:l 10:kind 11:o 12:x 13:ok 14:y 15:is 16:n 17:p 18:i -/
def s5 : S :=
  (.set 6 (.cn (.bool false))
  (.call (some 20) 8 [(.vr 1), (.cn (.int .i64 1)), (.cn (.int .i64 40))] []
  (.call (some 22) 8 [(.vr 2), (.cn (.int .i64 1)), (.cn (.int .i64 40))] []
  (.set 7 (.vr 20)
  (.set 8 (.vr 22)
  (.call (some 24) 16 [(.vr 0)] []
  (.call (some 27) 19 [(.vr 24), (.vr 7), (.vr 8), (.cn (.int .i64 12))] []
  (.set 9 (.vr 27)
  (.set 10 (.cn (.int .i64 0))
  (.blk 0
    (.loop
      (.chk (.bn (.cm .leq .i64) (.vr 10) (.cn (.int .i64 5)))
      (.set 29 (.bn (.cm .leq .i64) (.vr 10) (.cn (.int .i64 5)))
      (.ite (.vr 29)
        .nil
        (.exit 0)
      (.blk 1
        (.call (some 35) 10 [(.vr 7), (.vr 8), (.vr 10)] []
        (.set 11 (.vr 35)
        (.call (some 39) 20 [(.vr 9), (.vr 11)] []
        (.chk (.un (.ex 0) (.vr 39))
        (.chk (.un (.ex 1) (.vr 39))
        (.set 12 (.un (.ex 0) (.vr 39))
        (.set 13 (.un (.ex 1) (.vr 39))
        (.call (some 45) 21 [(.vr 12), (.vr 11)] []
        (.chk (.un (.ex 0) (.vr 45))
        (.chk (.un (.ex 1) (.vr 45))
        (.set 14 (.un (.ex 0) (.vr 45))
        (.set 15 (.un (.ex 1) (.vr 45))
        (.chk (.un .not (.vr 13))
        (.set 50 (.un .not (.vr 13))
        (.chk (.gd (.vr 50) false (.un .not (.vr 15)))
        (.chk (.or (.vr 50) (.un .not (.vr 15)))
        (.set 54 (.or (.vr 50) (.un .not (.vr 15)))
        (.ifg (.vr 54) false
          (.call (some 57) 9 [(.vr 14), (.vr 9)] []
          .nil)
          (.set 57 (.cn undef)
          .nil)
        (.chk (.gd (.vr 54) false (.un .not (.vr 57)))
        (.chk (.or (.vr 54) (.un .not (.vr 57)))
        (.set 60 (.or (.vr 54) (.un .not (.vr 57)))
        (.chk (.gd (.vr 60) false (.un .ln (.vr 11)))
        (.chk (.gd (.vr 60) false (.bn (.ar .mul .i64) (.vr 7) (.vr 8)))
        (.chk (.or (.vr 60) (.bn (.cm .neq .i64) (.un .ln (.vr 11)) (.bn (.ar .mul .i64) (.vr 7) (.vr 8))))
        (.set 67 (.or (.vr 60) (.bn (.cm .neq .i64) (.un .ln (.vr 11)) (.bn (.ar .mul .i64) (.vr 7) (.vr 8))))
        (.ite (.vr 67)
          (.set 6 (.cn (.bool false))
          .ret)
          .nil
        .nil))))))))))))))))))))))))))
      (.chk (.bn (.ar .add .i64) (.vr 10) (.cn (.int .i64 1)))
      (.set 10 (.bn (.ar .add .i64) (.vr 10) (.cn (.int .i64 1)))
      .nil)))))))
  (.set 16 (.cn (.int .i64 0))
  (.call (some 70) 13 [(.vr 7), (.vr 8)] []
  (.set 17 (.vr 70)
  (.set 18 (.cn (.int .i64 0))
  (.blk 2
    (.loop
      (.chk (.un .ln (.vr 17))
      (.chk (.bn (.cm .lss .i64) (.vr 18) (.un .ln (.vr 17)))
      (.set 74 (.bn (.cm .lss .i64) (.vr 18) (.un .ln (.vr 17)))
      (.ite (.vr 74)
        .nil
        (.exit 2)
      (.blk 3
        (.chk (.bn (.ia 1) (.vr 17) (.vr 18))
        (.chk (.ld (.bn (.ia 1) (.vr 17) (.vr 18)))
        (.chk (.un .ln (.ld (.bn (.ia 1) (.vr 17) (.vr 18))))
        (.chk (.bn (.ar .add .i64) (.vr 16) (.un .ln (.ld (.bn (.ia 1) (.vr 17) (.vr 18)))))
        (.set 16 (.bn (.ar .add .i64) (.vr 16) (.un .ln (.ld (.bn (.ia 1) (.vr 17) (.vr 18)))))
        .nil)))))
      (.chk (.bn (.ar .add .i64) (.vr 18) (.cn (.int .i64 1)))
      (.set 18 (.bn (.ar .add .i64) (.vr 18) (.cn (.int .i64 1)))
      .nil))))))))
  (.chk (.bn (.ar .mul .i64) (.vr 7) (.vr 8))
  (.chk (.bn (.cm .eql .i64) (.vr 16) (.bn (.ar .mul .i64) (.vr 7) (.vr 8)))
  (.set 89 (.bn (.cm .eql .i64) (.vr 16) (.bn (.ar .mul .i64) (.vr 7) (.vr 8)))
  (.chk (.gd (.vr 89) true (.un .ln (.vr 17)))
  (.chk (.and (.vr 89) (.bn (.cm .eql .i64) (.un .ln (.vr 17)) (.cn (.int .i64 7))))
  (.set 94 (.and (.vr 89) (.bn (.cm .eql .i64) (.un .ln (.vr 17)) (.cn (.int .i64 7))))
  (.ifg (.vr 94) true
    (.call (some 95) 15 [] []
    .nil)
    (.set 95 (.cn undef)
    .nil)
  (.chk (.pk (.vr 94) (.vr 95) (.cn (.bool false)))
  (.set 6 (.pk (.vr 94) (.vr 95) (.cn (.bool false)))
  .ret))))))))))))))))))))))))
def fc5 : Fc := ⟨97, s5, [(.vr 6)]⟩
theorem c5 : compF Try.prog 5 = some fc5 := by kernel_rfl

/-- kinora/kinoralaw22.ScanRoughly · parameters 5 · 0:t 1:l 2:w 3:h 4:passes 11:a 12:b 13:x 14:n -/
def s6 : S :=
  (.set 10 (.cn (.bool false))
  (.chk (.un .ln (.vr 1))
  (.set 17 (.bn (.cm .gtr .i64) (.un .ln (.vr 1)) (.cn (.int .i64 4200)))
  (.ite (.vr 17)
    (.set 10 (.cn (.bool true))
    .ret)
    .nil
  (.call (some 19) 8 [(.vr 2), (.cn (.int .i64 1)), (.cn (.int .i64 40))] []
  (.call (some 21) 8 [(.vr 3), (.cn (.int .i64 1)), (.cn (.int .i64 40))] []
  (.set 11 (.vr 19)
  (.set 12 (.vr 21)
  (.call (some 23) 16 [(.vr 0)] []
  (.call (some 26) 19 [(.vr 23), (.vr 11), (.vr 12), (.cn (.int .i64 12))] []
  (.set 13 (.vr 26)
  (.set 14 (.cn (.int .i64 (-1)))
  (.blk 0
    (.loop
      (.chk (.bn (.cm .leq .i64) (.vr 14) (.cn (.int .i64 8)))
      (.set 28 (.bn (.cm .leq .i64) (.vr 14) (.cn (.int .i64 8)))
      (.ite (.vr 28)
        .nil
        (.exit 0)
      (.blk 1
        (.call (some 35) 22 [(.vr 13), (.vr 11), (.vr 12), (.vr 14)] []
        (.call (some 40) 23 [(.vr 13), (.vr 11), (.vr 12), (.vr 14)] []
        (.call (some 41) 9 [(.vr 35), (.vr 40)] []
        (.chk (.un .not (.vr 41))
        (.set 42 (.un .not (.vr 41))
        (.ite (.vr 42)
          (.set 10 (.cn (.bool false))
          .ret)
          .nil
        .nil))))))
      (.chk (.bn (.ar .add .i64) (.vr 14) (.cn (.int .i64 1)))
      (.set 14 (.bn (.ar .add .i64) (.vr 14) (.cn (.int .i64 1)))
      .nil)))))))
  (.call (some 47) 22 [(.vr 1), (.vr 2), (.vr 3), (.vr 4)] []
  (.call (some 52) 23 [(.vr 1), (.vr 2), (.vr 3), (.vr 4)] []
  (.call (some 53) 9 [(.vr 47), (.vr 52)] []
  (.set 54 (.vr 53)
  (.ifg (.vr 54) true
    (.call (some 58) 22 [(.vr 13), (.vr 11), (.vr 12), (.cn (.int .i64 7))] []
    .nil)
    (.set 58 (.cn undef)
    .nil)
  (.ifg (.vr 54) true
    (.call (some 60) 9 [(.vr 58), (.vr 13)] []
    .nil)
    (.set 60 (.cn undef)
    .nil)
  (.chk (.pk (.vr 54) (.vr 60) (.cn (.bool false)))
  (.set 62 (.pk (.vr 54) (.vr 60) (.cn (.bool false)))
  (.ifg (.vr 62) true
    (.call (some 63) 15 [] []
    .nil)
    (.set 63 (.cn undef)
    .nil)
  (.chk (.pk (.vr 62) (.vr 63) (.cn (.bool false)))
  (.set 10 (.pk (.vr 62) (.vr 63) (.cn (.bool false)))
  .ret))))))))))))))))))))))))
def fc6 : Fc := ⟨65, s6, [(.vr 10)]⟩
theorem c6 : compF Try.prog 6 = some fc6 := by kernel_rfl

/-- kinora/kinoralaw22.ScanKeeps · parameters 4 · 0:t 1:w 2:h 3:passes 9:a 10:b 11:n 12:k 13:x 14:y 15:p 16:z 17:i 18:j 19:r 20:i 21:j -/
def s7 : S :=
  (.set 8 (.cn (.bool false))
  (.call (some 23) 8 [(.vr 1), (.cn (.int .i64 1)), (.cn (.int .i64 30))] []
  (.call (some 25) 8 [(.vr 2), (.cn (.int .i64 1)), (.cn (.int .i64 30))] []
  (.call (some 27) 8 [(.vr 3), (.cn (.int .i64 1)), (.cn (.int .i64 7))] []
  (.set 9 (.vr 23)
  (.set 10 (.vr 25)
  (.set 11 (.vr 27)
  (.call (some 29) 16 [(.vr 0)] []
  (.set 12 (.vr 29)
  (.call (some 33) 19 [(.vr 12), (.vr 9), (.vr 10), (.cn (.int .i64 8))] []
  (.call (some 37) 19 [(.vr 12), (.vr 9), (.vr 10), (.cn (.int .i64 8))] []
  (.set 13 (.vr 33)
  (.set 14 (.vr 37)
  (.call (some 40) 13 [(.vr 9), (.vr 10)] []
  (.set 15 (.vr 40)
  (.chk (.un .ln (.vr 15))
  (.set 43 (.bn (.cm .neq .i64) (.un .ln (.vr 15)) (.cn (.int .i64 7)))
  (.ite (.vr 43)
    (.set 8 (.cn (.bool false))
    .ret)
    .nil
  (.op (some 44) (.buildSlice 24 0 #[]) 24 [] []
  (.op (some 46) (.call ⟨(.builtin .append), #[(.tmp 44), (.tmp 45)], #[24, 24]⟩) 24 [(44, (.vr 44)), (45, (.vr 14))] []
  (.set 16 (.vr 46)
  (.set 17 (.cn (.int .i64 0))
  (.blk 0
    (.loop
      (.chk (.bn (.cm .lss .i64) (.vr 17) (.vr 11))
      (.set 49 (.bn (.cm .lss .i64) (.vr 17) (.vr 11))
      (.ite (.vr 49)
        .nil
        (.exit 0)
      (.blk 1
        (.set 18 (.cn (.int .i64 0))
        (.blk 2
          (.loop
            (.chk (.bn (.ia 1) (.vr 15) (.vr 17))
            (.chk (.ld (.bn (.ia 1) (.vr 15) (.vr 17)))
            (.chk (.un .ln (.ld (.bn (.ia 1) (.vr 15) (.vr 17))))
            (.chk (.bn (.cm .lss .i64) (.vr 18) (.un .ln (.ld (.bn (.ia 1) (.vr 15) (.vr 17)))))
            (.set 58 (.bn (.cm .lss .i64) (.vr 18) (.un .ln (.ld (.bn (.ia 1) (.vr 15) (.vr 17)))))
            (.ite (.vr 58)
              .nil
              (.exit 2)
            (.blk 3
              (.draw
              (.chk (.bn (.ia 1) (.vr 15) (.vr 17))
              (.chk (.ld (.bn (.ia 1) (.vr 15) (.vr 17)))
              (.set 65 (.ld (.bn (.ia 1) (.vr 15) (.vr 17)))
              (.chk (.bn (.ia 1) (.vr 65) (.vr 18))
              (.chk (.ld (.bn (.ia 1) (.vr 65) (.vr 18)))
              (.set 68 (.ld (.bn (.ia 1) (.vr 65) (.vr 18)))
              (.chk (.bn (.ia 1) (.vr 15) (.vr 17))
              (.chk (.ld (.bn (.ia 1) (.vr 15) (.vr 17)))
              (.set 73 (.ld (.bn (.ia 1) (.vr 15) (.vr 17)))
              (.chk (.bn (.ia 1) (.vr 73) (.vr 18))
              (.chk (.ld (.bn (.ia 1) (.vr 73) (.vr 18)))
              (.set 76 (.ld (.bn (.ia 1) (.vr 73) (.vr 18)))
              (.chk (.bn (.ia 1) (.vr 13) (.vr 76))
              (.chk (.ld (.bn (.ia 1) (.vr 13) (.vr 76)))
              (.set 78 (.ld (.bn (.ia 1) (.vr 13) (.vr 76)))
              (.chk (.bn (.ia 1) (.vr 16) (.vr 68))
              (.st 1 (.bn (.ia 1) (.vr 16) (.vr 68)) (.vr 78) []
              .nil))))))))))))))))))
            (.chk (.bn (.ar .add .i64) (.vr 18) (.cn (.int .i64 1)))
            (.set 18 (.bn (.ar .add .i64) (.vr 18) (.cn (.int .i64 1)))
            .nil))))))))))
        .nil))
      (.chk (.bn (.ar .add .i64) (.vr 17) (.cn (.int .i64 1)))
      (.set 17 (.bn (.ar .add .i64) (.vr 17) (.cn (.int .i64 1)))
      .nil)))))))
  (.call (some 84) 22 [(.vr 13), (.vr 9), (.vr 10), (.vr 11)] []
  (.set 19 (.vr 84)
  (.call (some 90) 22 [(.vr 16), (.vr 9), (.vr 10), (.vr 11)] []
  (.call (some 91) 9 [(.vr 19), (.vr 90)] []
  (.chk (.un .not (.vr 91))
  (.set 93 (.un .not (.vr 91))
  (.ifg (.vr 93) false
    (.call (some 99) 22 [(.vr 19), (.vr 9), (.vr 10), (.vr 11)] []
    .nil)
    (.set 99 (.cn undef)
    .nil)
  (.ifg (.vr 93) false
    (.call (some 100) 9 [(.vr 19), (.vr 99)] []
    .nil)
    (.set 100 (.cn undef)
    .nil)
  (.chk (.gd (.vr 93) false (.un .not (.vr 100)))
  (.chk (.or (.vr 93) (.un .not (.vr 100)))
  (.set 102 (.or (.vr 93) (.un .not (.vr 100)))
  (.ite (.vr 102)
    (.set 8 (.cn (.bool false))
    .ret)
    .nil
  (.set 20 (.cn (.int .i64 0))
  (.blk 4
    (.loop
      (.chk (.bn (.cm .lss .i64) (.vr 20) (.vr 11))
      (.set 105 (.bn (.cm .lss .i64) (.vr 20) (.vr 11))
      (.ite (.vr 105)
        .nil
        (.exit 4)
      (.blk 5
        (.set 21 (.cn (.int .i64 0))
        (.blk 6
          (.loop
            (.chk (.bn (.ia 1) (.vr 15) (.vr 20))
            (.chk (.ld (.bn (.ia 1) (.vr 15) (.vr 20)))
            (.chk (.un .ln (.ld (.bn (.ia 1) (.vr 15) (.vr 20))))
            (.chk (.bn (.cm .lss .i64) (.vr 21) (.un .ln (.ld (.bn (.ia 1) (.vr 15) (.vr 20)))))
            (.set 114 (.bn (.cm .lss .i64) (.vr 21) (.un .ln (.ld (.bn (.ia 1) (.vr 15) (.vr 20)))))
            (.ite (.vr 114)
              .nil
              (.exit 6)
            (.blk 7
              (.draw
              (.chk (.bn (.ia 1) (.vr 15) (.vr 20))
              (.chk (.ld (.bn (.ia 1) (.vr 15) (.vr 20)))
              (.chk (.bn (.ia 1) (.ld (.bn (.ia 1) (.vr 15) (.vr 20))) (.vr 21))
              (.chk (.ld (.bn (.ia 1) (.ld (.bn (.ia 1) (.vr 15) (.vr 20))) (.vr 21)))
              (.chk (.bn (.ia 1) (.vr 19) (.ld (.bn (.ia 1) (.ld (.bn (.ia 1) (.vr 15) (.vr 20))) (.vr 21))))
              (.chk (.ld (.bn (.ia 1) (.vr 19) (.ld (.bn (.ia 1) (.ld (.bn (.ia 1) (.vr 15) (.vr 20))) (.vr 21)))))
              (.chk (.bn (.ia 1) (.vr 15) (.vr 20))
              (.chk (.ld (.bn (.ia 1) (.vr 15) (.vr 20)))
              (.chk (.bn (.ia 1) (.ld (.bn (.ia 1) (.vr 15) (.vr 20))) (.vr 21))
              (.chk (.ld (.bn (.ia 1) (.ld (.bn (.ia 1) (.vr 15) (.vr 20))) (.vr 21)))
              (.chk (.bn (.ia 1) (.vr 13) (.ld (.bn (.ia 1) (.ld (.bn (.ia 1) (.vr 15) (.vr 20))) (.vr 21))))
              (.chk (.ld (.bn (.ia 1) (.vr 13) (.ld (.bn (.ia 1) (.ld (.bn (.ia 1) (.vr 15) (.vr 20))) (.vr 21)))))
              (.chk (.bn (.cm .neq .i64) (.ld (.bn (.ia 1) (.vr 19) (.ld (.bn (.ia 1) (.ld (.bn (.ia 1) (.vr 15) (.vr 20))) (.vr 21))))) (.ld (.bn (.ia 1) (.vr 13) (.ld (.bn (.ia 1) (.ld (.bn (.ia 1) (.vr 15) (.vr 20))) (.vr 21))))))
              (.set 137 (.bn (.cm .neq .i64) (.ld (.bn (.ia 1) (.vr 19) (.ld (.bn (.ia 1) (.ld (.bn (.ia 1) (.vr 15) (.vr 20))) (.vr 21))))) (.ld (.bn (.ia 1) (.vr 13) (.ld (.bn (.ia 1) (.ld (.bn (.ia 1) (.vr 15) (.vr 20))) (.vr 21))))))
              (.ite (.vr 137)
                (.set 8 (.cn (.bool false))
                .ret)
                .nil
              .nil))))))))))))))))
            (.chk (.bn (.ar .add .i64) (.vr 21) (.cn (.int .i64 1)))
            (.set 21 (.bn (.ar .add .i64) (.vr 21) (.cn (.int .i64 1)))
            .nil))))))))))
        .nil))
      (.chk (.bn (.ar .add .i64) (.vr 20) (.cn (.int .i64 1)))
      (.set 20 (.bn (.ar .add .i64) (.vr 20) (.cn (.int .i64 1)))
      .nil)))))))
  (.call (some 138) 15 [] []
  (.set 8 (.vr 138)
  .ret)))))))))))))))))))))))))))))))))))))))
def fc7 : Fc := ⟨139, s7, [(.vr 8)]⟩
theorem c7 : compF Try.prog 7 = some fc7 := by kernel_rfl

/-- kinora/kinorakeep2.Within · parameters 3 · 0:n 1:lo 2:hi -/
def s8 : S :=
  (.set 6 (.cn (.int .i64 0))
  (.chk (.bn (.cm .geq .i64) (.vr 0) (.vr 1))
  (.chk (.gd (.bn (.cm .geq .i64) (.vr 0) (.vr 1)) true (.bn (.cm .leq .i64) (.vr 0) (.vr 2)))
  (.set 14 (.and (.bn (.cm .geq .i64) (.vr 0) (.vr 1)) (.bn (.cm .leq .i64) (.vr 0) (.vr 2)))
  (.ite (.vr 14)
    (.set 6 (.vr 0)
    .ret)
    .nil
  (.chk (.bn (.ar .sub .i64) (.vr 2) (.vr 1))
  (.chk (.bn (.dv true .i64) (.vr 0) (.bn (.ar .add .i64) (.bn (.ar .sub .i64) (.vr 2) (.vr 1)) (.cn (.int .i64 1))))
  (.set 0 (.bn (.dv true .i64) (.vr 0) (.bn (.ar .add .i64) (.bn (.ar .sub .i64) (.vr 2) (.vr 1)) (.cn (.int .i64 1))))
  (.chk (.bn (.cm .lss .i64) (.vr 0) (.cn (.int .i64 0)))
  (.set 23 (.bn (.cm .lss .i64) (.vr 0) (.cn (.int .i64 0)))
  (.ite (.vr 23)
    (.chk (.bn (.ar .add .i64) (.vr 0) (.vr 2))
    (.chk (.bn (.ar .sub .i64) (.bn (.ar .add .i64) (.vr 0) (.vr 2)) (.vr 1))
    (.set 0 (.bn (.ar .add .i64) (.bn (.ar .sub .i64) (.bn (.ar .add .i64) (.vr 0) (.vr 2)) (.vr 1)) (.cn (.int .i64 1)))
    .nil)))
    .nil
  (.chk (.bn (.ar .add .i64) (.vr 1) (.vr 0))
  (.set 6 (.bn (.ar .add .i64) (.vr 1) (.vr 0))
  .ret)))))))))))))
def fc8 : Fc := ⟨33, s8, [(.vr 6)]⟩
theorem c8 : compF Try.prog 8 = some fc8 := by kernel_rfl

/-- kinora/kinoraref24.Ints · parameters 2 · 0:a 1:b 5:i -/
def s9 : S :=
  (.set 4 (.cn (.bool false))
  (.chk (.un .ln (.vr 0))
  (.chk (.un .ln (.vr 1))
  (.set 10 (.bn (.cm .neq .i64) (.un .ln (.vr 0)) (.un .ln (.vr 1)))
  (.ite (.vr 10)
    (.set 4 (.cn (.bool false))
    .ret)
    .nil
  (.set 5 (.cn (.int .i64 0))
  (.blk 0
    (.loop
      (.chk (.un .ln (.vr 0))
      (.chk (.bn (.cm .lss .i64) (.vr 5) (.un .ln (.vr 0)))
      (.set 14 (.bn (.cm .lss .i64) (.vr 5) (.un .ln (.vr 0)))
      (.ite (.vr 14)
        .nil
        (.exit 0)
      (.blk 1
        (.draw
        (.chk (.bn (.ia 1) (.vr 0) (.vr 5))
        (.chk (.ld (.bn (.ia 1) (.vr 0) (.vr 5)))
        (.chk (.bn (.ia 1) (.vr 1) (.vr 5))
        (.chk (.ld (.bn (.ia 1) (.vr 1) (.vr 5)))
        (.chk (.bn (.cm .neq .i64) (.ld (.bn (.ia 1) (.vr 0) (.vr 5))) (.ld (.bn (.ia 1) (.vr 1) (.vr 5))))
        (.set 25 (.bn (.cm .neq .i64) (.ld (.bn (.ia 1) (.vr 0) (.vr 5))) (.ld (.bn (.ia 1) (.vr 1) (.vr 5))))
        (.ite (.vr 25)
          (.set 4 (.cn (.bool false))
          .ret)
          .nil
        .nil))))))))
      (.chk (.bn (.ar .add .i64) (.vr 5) (.cn (.int .i64 1)))
      (.set 5 (.bn (.ar .add .i64) (.vr 5) (.cn (.int .i64 1)))
      .nil))))))))
  (.set 4 (.cn (.bool true))
  .ret))))))))
def fc9 : Fc := ⟨26, s9, [(.vr 4)]⟩
theorem c9 : compF Try.prog 9 = some fc9 := by kernel_rfl

/-- kinora/scan.Order · parameters 3 · 0:w 1:h 2:kind 7:l 9:pass -/
def s10 : S :=
  (.set 6 (.cn (.slice none 0 0))
  (.call (some 12) 24 [(.vr 0), (.vr 1)] []
  (.chk (.un .not (.vr 12))
  (.set 13 (.un .not (.vr 12))
  (.ite (.vr 13)
    (.set 6 (.cn (.slice none 0 0))
    .ret)
    .nil
  (.set 14 (.vr 2)
  (.blk 0
    (.chk (.bn (.cm .eql .i64) (.vr 14) (.cn (.int .i64 0)))
    (.set 15 (.bn (.cm .eql .i64) (.vr 14) (.cn (.int .i64 0)))
    (.ite (.vr 15)
      (.call (some 19) 25 [(.vr 0), (.vr 1), (.cn (.bool false))] []
      (.set 6 (.vr 19)
      .ret))
      (.chk (.bn (.cm .eql .i64) (.vr 14) (.cn (.int .i64 1)))
      (.set 20 (.bn (.cm .eql .i64) (.vr 14) (.cn (.int .i64 1)))
      (.ite (.vr 20)
        (.call (some 24) 26 [(.vr 0), (.vr 1)] []
        (.set 6 (.vr 24)
        .ret))
        (.chk (.bn (.cm .eql .i64) (.vr 14) (.cn (.int .i64 2)))
        (.set 25 (.bn (.cm .eql .i64) (.vr 14) (.cn (.int .i64 2)))
        (.ite (.vr 25)
          (.call (some 29) 25 [(.vr 0), (.vr 1), (.cn (.bool true))] []
          (.set 6 (.vr 29)
          .ret))
          (.chk (.bn (.cm .eql .i64) (.vr 14) (.cn (.int .i64 3)))
          (.set 30 (.bn (.cm .eql .i64) (.vr 14) (.cn (.int .i64 3)))
          (.ite (.vr 30)
            (.call (some 34) 27 [(.vr 0), (.vr 1)] []
            (.set 6 (.vr 34)
            .ret))
            (.chk (.bn (.cm .eql .i64) (.vr 14) (.cn (.int .i64 4)))
            (.set 35 (.bn (.cm .eql .i64) (.vr 14) (.cn (.int .i64 4)))
            (.ite (.vr 35)
              (.call (some 39) 28 [(.vr 0), (.vr 1)] []
              (.set 6 (.vr 39)
              .ret))
              (.chk (.bn (.cm .eql .i64) (.vr 14) (.cn (.int .i64 5)))
              (.set 40 (.bn (.cm .eql .i64) (.vr 14) (.cn (.int .i64 5)))
              (.ite (.vr 40)
                (.set 7 (.cn (.slice none 0 0))
                (.call (some 44) 13 [(.vr 0), (.vr 1)] []
                (.chk (.un .ln (.vr 44))
                (.set 45 (.un .ln (.vr 44))
                (.set 46 (.cn (.int .i64 0))
                (.blk 1
                  (.loop
                    (.chk (.bn (.cm .lss .i64) (.vr 46) (.vr 45))
                    (.set 47 (.bn (.cm .lss .i64) (.vr 46) (.vr 45))
                    (.ite (.vr 47)
                      .nil
                      (.exit 1)
                    (.blk 2
                      (.chk (.bn (.ia 1) (.vr 44) (.vr 46))
                      (.chk (.ld (.bn (.ia 1) (.vr 44) (.vr 46)))
                      (.set 9 (.ld (.bn (.ia 1) (.vr 44) (.vr 46)))
                      (.op (some 52) (.call ⟨(.builtin .append), #[(.tmp 50), (.tmp 51)], #[24, 24]⟩) 24 [(50, (.vr 7)), (51, (.vr 9))] []
                      (.set 7 (.vr 52)
                      .nil)))))
                    (.chk (.bn (.ar .add .i64) (.vr 46) (.cn (.int .i64 1)))
                    (.set 46 (.bn (.ar .add .i64) (.vr 46) (.cn (.int .i64 1)))
                    .nil)))))))
                (.set 6 (.vr 7)
                .ret)))))))
                .nil
              .nil)))
            .nil)))
          .nil)))
        .nil)))
      .nil)))
    .nil)))
  (.set 6 (.cn (.slice none 0 0))
  .ret))))))))
def fc10 : Fc := ⟨55, s10, [(.vr 6)]⟩
theorem c10 : compF Try.prog 10 = some fc10 := by kernel_rfl

/-- kinora/kinoraref24.ScanOrder · parameters 3 · 0:w 1:h 2:kind 7:l 8:at 9:at 10:at 11:x 12:s 13:x 15:p -/
def s11 : S :=
  (.set 6 (.cn (.slice none 0 0))
  (.call (some 17) 29 [(.vr 0)] []
  (.chk (.un .not (.vr 17))
  (.set 19 (.un .not (.vr 17))
  (.ifg (.vr 19) false
    (.call (some 21) 29 [(.vr 1)] []
    .nil)
    (.set 21 (.cn undef)
    .nil)
  (.chk (.gd (.vr 19) false (.un .not (.vr 21)))
  (.chk (.or (.vr 19) (.un .not (.vr 21)))
  (.set 23 (.or (.vr 19) (.un .not (.vr 21)))
  (.ite (.vr 23)
    (.set 6 (.cn (.slice none 0 0))
    .ret)
    .nil
  (.set 7 (.cn (.slice none 0 0))
  (.set 24 (.vr 2)
  (.blk 0
    (.chk (.bn (.cm .eql .i64) (.vr 24) (.cn (.int .i64 0)))
    (.set 25 (.bn (.cm .eql .i64) (.vr 24) (.cn (.int .i64 0)))
    (.ite (.vr 25)
      (.set 8 (.cn (.int .i64 0))
      (.blk 1
        (.loop
          (.chk (.bn (.ar .mul .i64) (.vr 0) (.vr 1))
          (.chk (.bn (.cm .lss .i64) (.vr 8) (.bn (.ar .mul .i64) (.vr 0) (.vr 1)))
          (.set 31 (.bn (.cm .lss .i64) (.vr 8) (.bn (.ar .mul .i64) (.vr 0) (.vr 1)))
          (.ite (.vr 31)
            .nil
            (.exit 1)
          (.blk 2
            (.op (some 36) (.buildSlice 24 1 #[(0, (.tmp 35))]) 24 [(35, (.vr 8))] []
            (.op (some 37) (.call ⟨(.builtin .append), #[(.tmp 34), (.tmp 36)], #[24, 24]⟩) 24 [(34, (.vr 7)), (36, (.vr 36))] []
            (.set 7 (.vr 37)
            .nil)))
          (.chk (.bn (.ar .add .i64) (.vr 8) (.cn (.int .i64 1)))
          (.set 8 (.bn (.ar .add .i64) (.vr 8) (.cn (.int .i64 1)))
          .nil))))))))
      .nil))
      (.chk (.bn (.cm .eql .i64) (.vr 24) (.cn (.int .i64 1)))
      (.set 38 (.bn (.cm .eql .i64) (.vr 24) (.cn (.int .i64 1)))
      (.ite (.vr 38)
        (.set 9 (.cn (.int .i64 0))
        (.blk 3
          (.loop
            (.chk (.bn (.ar .mul .i64) (.vr 0) (.vr 1))
            (.chk (.bn (.cm .lss .i64) (.vr 9) (.bn (.ar .mul .i64) (.vr 0) (.vr 1)))
            (.set 44 (.bn (.cm .lss .i64) (.vr 9) (.bn (.ar .mul .i64) (.vr 0) (.vr 1)))
            (.ite (.vr 44)
              .nil
              (.exit 3)
            (.blk 4
              (.draw
              (.chk (.bn (.dv true .i64) (.vr 9) (.vr 1))
              (.chk (.bn (.ar .mul .i64) (.bn (.dv true .i64) (.vr 9) (.vr 1)) (.vr 0))
              (.chk (.bn (.dv false .i64) (.vr 9) (.vr 1))
              (.op (some 57) (.buildSlice 24 1 #[(0, (.tmp 56))]) 24 [(56, (.bn (.ar .add .i64) (.bn (.ar .mul .i64) (.bn (.dv true .i64) (.vr 9) (.vr 1)) (.vr 0)) (.bn (.dv false .i64) (.vr 9) (.vr 1))))] []
              (.op (some 58) (.call ⟨(.builtin .append), #[(.tmp 47), (.tmp 57)], #[24, 24]⟩) 24 [(47, (.vr 7)), (57, (.vr 57))] []
              (.set 7 (.vr 58)
              .nil)))))))
            (.chk (.bn (.ar .add .i64) (.vr 9) (.cn (.int .i64 1)))
            (.set 9 (.bn (.ar .add .i64) (.vr 9) (.cn (.int .i64 1)))
            .nil))))))))
        .nil))
        (.chk (.bn (.cm .eql .i64) (.vr 24) (.cn (.int .i64 2)))
        (.set 59 (.bn (.cm .eql .i64) (.vr 24) (.cn (.int .i64 2)))
        (.ite (.vr 59)
          (.set 10 (.cn (.int .i64 0))
          (.blk 5
            (.loop
              (.chk (.bn (.ar .mul .i64) (.vr 0) (.vr 1))
              (.chk (.bn (.cm .lss .i64) (.vr 10) (.bn (.ar .mul .i64) (.vr 0) (.vr 1)))
              (.set 65 (.bn (.cm .lss .i64) (.vr 10) (.bn (.ar .mul .i64) (.vr 0) (.vr 1)))
              (.ite (.vr 65)
                .nil
                (.exit 5)
              (.blk 6
                (.chk (.bn (.dv true .i64) (.vr 10) (.vr 0))
                (.set 11 (.bn (.dv true .i64) (.vr 10) (.vr 0))
                (.chk (.bn (.dv false .i64) (.vr 10) (.vr 0))
                (.set 75 (.bn (.cm .eql .i64) (.bn (.dv true .i64) (.bn (.dv false .i64) (.vr 10) (.vr 0)) (.cn (.int .i64 2))) (.cn (.int .i64 1)))
                (.ite (.vr 75)
                  (.chk (.bn (.ar .sub .i64) (.vr 0) (.cn (.int .i64 1)))
                  (.chk (.bn (.ar .sub .i64) (.bn (.ar .sub .i64) (.vr 0) (.cn (.int .i64 1))) (.vr 11))
                  (.set 11 (.bn (.ar .sub .i64) (.bn (.ar .sub .i64) (.vr 0) (.cn (.int .i64 1))) (.vr 11))
                  .nil)))
                  .nil
                (.chk (.bn (.dv false .i64) (.vr 10) (.vr 0))
                (.chk (.bn (.ar .mul .i64) (.bn (.dv false .i64) (.vr 10) (.vr 0)) (.vr 0))
                (.chk (.bn (.ar .add .i64) (.bn (.ar .mul .i64) (.bn (.dv false .i64) (.vr 10) (.vr 0)) (.vr 0)) (.vr 11))
                (.op (some 88) (.buildSlice 24 1 #[(0, (.tmp 87))]) 24 [(87, (.bn (.ar .add .i64) (.bn (.ar .mul .i64) (.bn (.dv false .i64) (.vr 10) (.vr 0)) (.vr 0)) (.vr 11)))] []
                (.op (some 89) (.call ⟨(.builtin .append), #[(.tmp 80), (.tmp 88)], #[24, 24]⟩) 24 [(80, (.vr 7)), (88, (.vr 88))] []
                (.set 7 (.vr 89)
                .nil)))))))))))
              (.chk (.bn (.ar .add .i64) (.vr 10) (.cn (.int .i64 1)))
              (.set 10 (.bn (.ar .add .i64) (.vr 10) (.cn (.int .i64 1)))
              .nil))))))))
          .nil))
          (.chk (.bn (.cm .eql .i64) (.vr 24) (.cn (.int .i64 3)))
          (.set 90 (.bn (.cm .eql .i64) (.vr 24) (.cn (.int .i64 3)))
          (.ite (.vr 90)
            (.set 12 (.cn (.int .i64 0))
            (.blk 7
              (.loop
                (.chk (.bn (.ar .add .i64) (.vr 0) (.vr 1))
                (.chk (.bn (.cm .leq .i64) (.vr 12) (.bn (.ar .sub .i64) (.bn (.ar .add .i64) (.vr 0) (.vr 1)) (.cn (.int .i64 2))))
                (.set 97 (.bn (.cm .leq .i64) (.vr 12) (.bn (.ar .sub .i64) (.bn (.ar .add .i64) (.vr 0) (.vr 1)) (.cn (.int .i64 2))))
                (.ite (.vr 97)
                  .nil
                  (.exit 7)
                (.blk 8
                  (.set 13 (.cn (.int .i64 0))
                  (.blk 9
                    (.loop
                      (.chk (.bn (.cm .lss .i64) (.vr 13) (.vr 0))
                      (.set 102 (.bn (.cm .lss .i64) (.vr 13) (.vr 0))
                      (.ite (.vr 102)
                        .nil
                        (.exit 9)
                      (.blk 10
                        (.chk (.bn (.ar .sub .i64) (.vr 12) (.vr 13))
                        (.chk (.gd (.bn (.cm .geq .i64) (.bn (.ar .sub .i64) (.vr 12) (.vr 13)) (.cn (.int .i64 0))) true (.bn (.ar .sub .i64) (.vr 12) (.vr 13)))
                        (.chk (.gd (.bn (.cm .geq .i64) (.bn (.ar .sub .i64) (.vr 12) (.vr 13)) (.cn (.int .i64 0))) true (.bn (.cm .lss .i64) (.bn (.ar .sub .i64) (.vr 12) (.vr 13)) (.vr 1)))
                        (.set 115 (.and (.bn (.cm .geq .i64) (.bn (.ar .sub .i64) (.vr 12) (.vr 13)) (.cn (.int .i64 0))) (.bn (.cm .lss .i64) (.bn (.ar .sub .i64) (.vr 12) (.vr 13)) (.vr 1)))
                        (.ite (.vr 115)
                          (.chk (.bn (.ar .sub .i64) (.vr 12) (.vr 13))
                          (.chk (.bn (.ar .mul .i64) (.bn (.ar .sub .i64) (.vr 12) (.vr 13)) (.vr 0))
                          (.chk (.bn (.ar .add .i64) (.bn (.ar .mul .i64) (.bn (.ar .sub .i64) (.vr 12) (.vr 13)) (.vr 0)) (.vr 13))
                          (.op (some 124) (.buildSlice 24 1 #[(0, (.tmp 123))]) 24 [(123, (.bn (.ar .add .i64) (.bn (.ar .mul .i64) (.bn (.ar .sub .i64) (.vr 12) (.vr 13)) (.vr 0)) (.vr 13)))] []
                          (.op (some 125) (.call ⟨(.builtin .append), #[(.tmp 116), (.tmp 124)], #[24, 24]⟩) 24 [(116, (.vr 7)), (124, (.vr 124))] []
                          (.set 7 (.vr 125)
                          .nil))))))
                          .nil
                        .nil)))))
                      (.chk (.bn (.ar .add .i64) (.vr 13) (.cn (.int .i64 1)))
                      (.set 13 (.bn (.ar .add .i64) (.vr 13) (.cn (.int .i64 1)))
                      .nil)))))))
                  .nil))
                (.chk (.bn (.ar .add .i64) (.vr 12) (.cn (.int .i64 1)))
                (.set 12 (.bn (.ar .add .i64) (.vr 12) (.cn (.int .i64 1)))
                .nil))))))))
            .nil))
            (.chk (.bn (.cm .eql .i64) (.vr 24) (.cn (.int .i64 4)))
            (.set 126 (.bn (.cm .eql .i64) (.vr 24) (.cn (.int .i64 4)))
            (.ite (.vr 126)
              (.call (some 130) 30 [(.vr 0), (.vr 1)] []
              (.set 7 (.vr 130)
              .nil))
              (.chk (.bn (.cm .eql .i64) (.vr 24) (.cn (.int .i64 5)))
              (.set 131 (.bn (.cm .eql .i64) (.vr 24) (.cn (.int .i64 5)))
              (.ite (.vr 131)
                (.call (some 135) 14 [(.vr 0), (.vr 1)] []
                (.chk (.un .ln (.vr 135))
                (.set 136 (.un .ln (.vr 135))
                (.set 137 (.cn (.int .i64 0))
                (.blk 11
                  (.loop
                    (.chk (.bn (.cm .lss .i64) (.vr 137) (.vr 136))
                    (.set 138 (.bn (.cm .lss .i64) (.vr 137) (.vr 136))
                    (.ite (.vr 138)
                      .nil
                      (.exit 11)
                    (.blk 12
                      (.chk (.bn (.ia 1) (.vr 135) (.vr 137))
                      (.chk (.ld (.bn (.ia 1) (.vr 135) (.vr 137)))
                      (.set 15 (.ld (.bn (.ia 1) (.vr 135) (.vr 137)))
                      (.op (some 143) (.call ⟨(.builtin .append), #[(.tmp 141), (.tmp 142)], #[24, 24]⟩) 24 [(141, (.vr 7)), (142, (.vr 15))] []
                      (.set 7 (.vr 143)
                      .nil)))))
                    (.chk (.bn (.ar .add .i64) (.vr 137) (.cn (.int .i64 1)))
                    (.set 137 (.bn (.ar .add .i64) (.vr 137) (.cn (.int .i64 1)))
                    .nil)))))))
                .nil)))))
                .nil
              .nil)))
            .nil)))
          .nil)))
        .nil)))
      .nil)))
    .nil)))
  (.set 6 (.vr 7)
  .ret)))))))))))))
def fc11 : Fc := ⟨146, s11, [(.vr 6)]⟩
theorem c11 : compF Try.prog 11 = some fc11 := by kernel_rfl

/-- kinora/kinoraref24.Rows · parameters 2 · 0:a 1:b 5:i -/
def s12 : S :=
  (.set 4 (.cn (.bool false))
  (.chk (.un .ln (.vr 0))
  (.chk (.un .ln (.vr 1))
  (.set 10 (.bn (.cm .neq .i64) (.un .ln (.vr 0)) (.un .ln (.vr 1)))
  (.ite (.vr 10)
    (.set 4 (.cn (.bool false))
    .ret)
    .nil
  (.set 5 (.cn (.int .i64 0))
  (.blk 0
    (.loop
      (.chk (.un .ln (.vr 0))
      (.chk (.bn (.cm .lss .i64) (.vr 5) (.un .ln (.vr 0)))
      (.set 14 (.bn (.cm .lss .i64) (.vr 5) (.un .ln (.vr 0)))
      (.ite (.vr 14)
        .nil
        (.exit 0)
      (.blk 1
        (.draw
        (.chk (.bn (.ia 1) (.vr 0) (.vr 5))
        (.chk (.ld (.bn (.ia 1) (.vr 0) (.vr 5)))
        (.set 20 (.ld (.bn (.ia 1) (.vr 0) (.vr 5)))
        (.chk (.bn (.ia 1) (.vr 1) (.vr 5))
        (.chk (.ld (.bn (.ia 1) (.vr 1) (.vr 5)))
        (.set 24 (.ld (.bn (.ia 1) (.vr 1) (.vr 5)))
        (.call (some 25) 9 [(.vr 20), (.vr 24)] []
        (.chk (.un .not (.vr 25))
        (.set 26 (.un .not (.vr 25))
        (.ite (.vr 26)
          (.set 4 (.cn (.bool false))
          .ret)
          .nil
        .nil)))))))))))
      (.chk (.bn (.ar .add .i64) (.vr 5) (.cn (.int .i64 1)))
      (.set 5 (.bn (.ar .add .i64) (.vr 5) (.cn (.int .i64 1)))
      .nil))))))))
  (.set 4 (.cn (.bool true))
  .ret))))))))
def fc12 : Fc := ⟨27, s12, [(.vr 4)]⟩
theorem c12 : compF Try.prog 12 = some fc12 := by kernel_rfl

/-- kinora/scan.Passes · parameters 2 · 0:w 1:h 5:table 6:lists 8:t 9:l 10:y 11:x -/
def s13 : S :=
  (.set 4 (.cn (.slice none 0 0))
  (.call (some 14) 24 [(.vr 0), (.vr 1)] []
  (.chk (.un .not (.vr 14))
  (.set 15 (.un .not (.vr 14))
  (.ite (.vr 15)
    (.set 4 (.cn (.slice none 0 0))
    .ret)
    .nil
  (.chk (.bd 3 1 (.cn (.int .i64 0)) (.bd 2 1 (.cn (.int .i64 8)) (.bd 1 1 (.cn (.int .i64 0)) (.bd 0 1 (.cn (.int .i64 8)) (.cn (.agg #[(.int .i64 0), (.int .i64 0), (.int .i64 0), (.int .i64 0)]))))))
  (.chk (.bd 3 1 (.cn (.int .i64 0)) (.bd 2 1 (.cn (.int .i64 8)) (.bd 1 1 (.cn (.int .i64 4)) (.bd 0 1 (.cn (.int .i64 8)) (.cn (.agg #[(.int .i64 0), (.int .i64 0), (.int .i64 0), (.int .i64 0)]))))))
  (.chk (.bd 3 1 (.cn (.int .i64 4)) (.bd 2 1 (.cn (.int .i64 8)) (.bd 1 1 (.cn (.int .i64 0)) (.bd 0 1 (.cn (.int .i64 4)) (.cn (.agg #[(.int .i64 0), (.int .i64 0), (.int .i64 0), (.int .i64 0)]))))))
  (.chk (.bd 3 1 (.cn (.int .i64 0)) (.bd 2 1 (.cn (.int .i64 4)) (.bd 1 1 (.cn (.int .i64 2)) (.bd 0 1 (.cn (.int .i64 4)) (.cn (.agg #[(.int .i64 0), (.int .i64 0), (.int .i64 0), (.int .i64 0)]))))))
  (.chk (.bd 3 1 (.cn (.int .i64 2)) (.bd 2 1 (.cn (.int .i64 4)) (.bd 1 1 (.cn (.int .i64 0)) (.bd 0 1 (.cn (.int .i64 2)) (.cn (.agg #[(.int .i64 0), (.int .i64 0), (.int .i64 0), (.int .i64 0)]))))))
  (.chk (.bd 3 1 (.cn (.int .i64 0)) (.bd 2 1 (.cn (.int .i64 2)) (.bd 1 1 (.cn (.int .i64 1)) (.bd 0 1 (.cn (.int .i64 2)) (.cn (.agg #[(.int .i64 0), (.int .i64 0), (.int .i64 0), (.int .i64 0)]))))))
  (.chk (.bd 3 1 (.cn (.int .i64 1)) (.bd 2 1 (.cn (.int .i64 2)) (.bd 1 1 (.cn (.int .i64 0)) (.bd 0 1 (.cn (.int .i64 1)) (.cn (.agg #[(.int .i64 0), (.int .i64 0), (.int .i64 0), (.int .i64 0)]))))))
  (.chk (.bd 24 4 (.bd 3 1 (.cn (.int .i64 1)) (.bd 2 1 (.cn (.int .i64 2)) (.bd 1 1 (.cn (.int .i64 0)) (.bd 0 1 (.cn (.int .i64 1)) (.cn (.agg #[(.int .i64 0), (.int .i64 0), (.int .i64 0), (.int .i64 0)])))))) (.bd 20 4 (.bd 3 1 (.cn (.int .i64 0)) (.bd 2 1 (.cn (.int .i64 2)) (.bd 1 1 (.cn (.int .i64 1)) (.bd 0 1 (.cn (.int .i64 2)) (.cn (.agg #[(.int .i64 0), (.int .i64 0), (.int .i64 0), (.int .i64 0)])))))) (.bd 16 4 (.bd 3 1 (.cn (.int .i64 2)) (.bd 2 1 (.cn (.int .i64 4)) (.bd 1 1 (.cn (.int .i64 0)) (.bd 0 1 (.cn (.int .i64 2)) (.cn (.agg #[(.int .i64 0), (.int .i64 0), (.int .i64 0), (.int .i64 0)])))))) (.bd 12 4 (.bd 3 1 (.cn (.int .i64 0)) (.bd 2 1 (.cn (.int .i64 4)) (.bd 1 1 (.cn (.int .i64 2)) (.bd 0 1 (.cn (.int .i64 4)) (.cn (.agg #[(.int .i64 0), (.int .i64 0), (.int .i64 0), (.int .i64 0)])))))) (.bd 8 4 (.bd 3 1 (.cn (.int .i64 4)) (.bd 2 1 (.cn (.int .i64 8)) (.bd 1 1 (.cn (.int .i64 0)) (.bd 0 1 (.cn (.int .i64 4)) (.cn (.agg #[(.int .i64 0), (.int .i64 0), (.int .i64 0), (.int .i64 0)])))))) (.bd 4 4 (.bd 3 1 (.cn (.int .i64 0)) (.bd 2 1 (.cn (.int .i64 8)) (.bd 1 1 (.cn (.int .i64 4)) (.bd 0 1 (.cn (.int .i64 8)) (.cn (.agg #[(.int .i64 0), (.int .i64 0), (.int .i64 0), (.int .i64 0)])))))) (.bd 0 4 (.bd 3 1 (.cn (.int .i64 0)) (.bd 2 1 (.cn (.int .i64 8)) (.bd 1 1 (.cn (.int .i64 0)) (.bd 0 1 (.cn (.int .i64 8)) (.cn (.agg #[(.int .i64 0), (.int .i64 0), (.int .i64 0), (.int .i64 0)])))))) (.cn (.agg #[(.int .i64 0), (.int .i64 0), (.int .i64 0), (.int .i64 0), (.int .i64 0), (.int .i64 0), (.int .i64 0), (.int .i64 0), (.int .i64 0), (.int .i64 0), (.int .i64 0), (.int .i64 0), (.int .i64 0), (.int .i64 0), (.int .i64 0), (.int .i64 0), (.int .i64 0), (.int .i64 0), (.int .i64 0), (.int .i64 0), (.int .i64 0), (.int .i64 0), (.int .i64 0), (.int .i64 0), (.int .i64 0), (.int .i64 0), (.int .i64 0), (.int .i64 0)])))))))))
  (.op (some 5) (.alloc 46) 0 [] []
  (.st 28 (.vr 5) (.bd 24 4 (.bd 3 1 (.cn (.int .i64 1)) (.bd 2 1 (.cn (.int .i64 2)) (.bd 1 1 (.cn (.int .i64 0)) (.bd 0 1 (.cn (.int .i64 1)) (.cn (.agg #[(.int .i64 0), (.int .i64 0), (.int .i64 0), (.int .i64 0)])))))) (.bd 20 4 (.bd 3 1 (.cn (.int .i64 0)) (.bd 2 1 (.cn (.int .i64 2)) (.bd 1 1 (.cn (.int .i64 1)) (.bd 0 1 (.cn (.int .i64 2)) (.cn (.agg #[(.int .i64 0), (.int .i64 0), (.int .i64 0), (.int .i64 0)])))))) (.bd 16 4 (.bd 3 1 (.cn (.int .i64 2)) (.bd 2 1 (.cn (.int .i64 4)) (.bd 1 1 (.cn (.int .i64 0)) (.bd 0 1 (.cn (.int .i64 2)) (.cn (.agg #[(.int .i64 0), (.int .i64 0), (.int .i64 0), (.int .i64 0)])))))) (.bd 12 4 (.bd 3 1 (.cn (.int .i64 0)) (.bd 2 1 (.cn (.int .i64 4)) (.bd 1 1 (.cn (.int .i64 2)) (.bd 0 1 (.cn (.int .i64 4)) (.cn (.agg #[(.int .i64 0), (.int .i64 0), (.int .i64 0), (.int .i64 0)])))))) (.bd 8 4 (.bd 3 1 (.cn (.int .i64 4)) (.bd 2 1 (.cn (.int .i64 8)) (.bd 1 1 (.cn (.int .i64 0)) (.bd 0 1 (.cn (.int .i64 4)) (.cn (.agg #[(.int .i64 0), (.int .i64 0), (.int .i64 0), (.int .i64 0)])))))) (.bd 4 4 (.bd 3 1 (.cn (.int .i64 0)) (.bd 2 1 (.cn (.int .i64 8)) (.bd 1 1 (.cn (.int .i64 4)) (.bd 0 1 (.cn (.int .i64 8)) (.cn (.agg #[(.int .i64 0), (.int .i64 0), (.int .i64 0), (.int .i64 0)])))))) (.bd 0 4 (.bd 3 1 (.cn (.int .i64 0)) (.bd 2 1 (.cn (.int .i64 8)) (.bd 1 1 (.cn (.int .i64 0)) (.bd 0 1 (.cn (.int .i64 8)) (.cn (.agg #[(.int .i64 0), (.int .i64 0), (.int .i64 0), (.int .i64 0)])))))) (.cn (.agg #[(.int .i64 0), (.int .i64 0), (.int .i64 0), (.int .i64 0), (.int .i64 0), (.int .i64 0), (.int .i64 0), (.int .i64 0), (.int .i64 0), (.int .i64 0), (.int .i64 0), (.int .i64 0), (.int .i64 0), (.int .i64 0), (.int .i64 0), (.int .i64 0), (.int .i64 0), (.int .i64 0), (.int .i64 0), (.int .i64 0), (.int .i64 0), (.int .i64 0), (.int .i64 0), (.int .i64 0), (.int .i64 0), (.int .i64 0), (.int .i64 0), (.int .i64 0)]))))))))) []
  (.set 6 (.cn (.slice none 0 0))
  (.chk (.ldn 28 (.vr 5))
  (.set 24 (.ldn 28 (.vr 5))
  (.set 25 (.cn (.int .i64 0))
  (.blk 0
    (.loop
      (.chk (.bn (.cm .lss .i64) (.vr 25) (.cn (.int .i64 7)))
      (.set 26 (.bn (.cm .lss .i64) (.vr 25) (.cn (.int .i64 7)))
      (.ite (.vr 26)
        .nil
        (.exit 0)
      (.blk 1
        (.chk (.bn (.ixN 7 4) (.vr 24) (.vr 25))
        (.op (some 8) (.alloc 45) 0 [] []
        (.st 4 (.vr 8) (.bn (.ixN 7 4) (.vr 24) (.vr 25)) []
        (.set 9 (.cn (.slice none 0 0))
        (.chk (.bn (.aa 4 1) (.vr 8) (.cn (.int .i64 3)))
        (.chk (.ld (.bn (.aa 4 1) (.vr 8) (.cn (.int .i64 3))))
        (.set 10 (.ld (.bn (.aa 4 1) (.vr 8) (.cn (.int .i64 3))))
        (.blk 2
          (.loop
            (.chk (.bn (.cm .lss .i64) (.vr 10) (.vr 1))
            (.set 32 (.bn (.cm .lss .i64) (.vr 10) (.vr 1))
            (.ite (.vr 32)
              .nil
              (.exit 2)
            (.blk 3
              (.chk (.bn (.aa 4 1) (.vr 8) (.cn (.int .i64 1)))
              (.chk (.ld (.bn (.aa 4 1) (.vr 8) (.cn (.int .i64 1))))
              (.set 11 (.ld (.bn (.aa 4 1) (.vr 8) (.cn (.int .i64 1))))
              (.blk 4
                (.loop
                  (.chk (.bn (.cm .lss .i64) (.vr 11) (.vr 0))
                  (.set 41 (.bn (.cm .lss .i64) (.vr 11) (.vr 0))
                  (.ite (.vr 41)
                    .nil
                    (.exit 4)
                  (.blk 5
                    (.chk (.bn (.ar .mul .i64) (.vr 10) (.vr 0))
                    (.chk (.bn (.ar .add .i64) (.bn (.ar .mul .i64) (.vr 10) (.vr 0)) (.vr 11))
                    (.op (some 52) (.buildSlice 24 1 #[(0, (.tmp 51))]) 24 [(51, (.bn (.ar .add .i64) (.bn (.ar .mul .i64) (.vr 10) (.vr 0)) (.vr 11)))] []
                    (.op (some 53) (.call ⟨(.builtin .append), #[(.tmp 46), (.tmp 52)], #[24, 24]⟩) 24 [(46, (.vr 9)), (52, (.vr 52))] []
                    (.set 9 (.vr 53)
                    .nil)))))
                  (.chk (.bn (.aa 4 1) (.vr 8) (.cn (.int .i64 0)))
                  (.chk (.ld (.bn (.aa 4 1) (.vr 8) (.cn (.int .i64 0))))
                  (.chk (.bn (.ar .add .i64) (.vr 11) (.ld (.bn (.aa 4 1) (.vr 8) (.cn (.int .i64 0)))))
                  (.set 11 (.bn (.ar .add .i64) (.vr 11) (.ld (.bn (.aa 4 1) (.vr 8) (.cn (.int .i64 0)))))
                  .nil)))))))))
              .nil))))
            (.chk (.bn (.aa 4 1) (.vr 8) (.cn (.int .i64 2)))
            (.chk (.ld (.bn (.aa 4 1) (.vr 8) (.cn (.int .i64 2))))
            (.chk (.bn (.ar .add .i64) (.vr 10) (.ld (.bn (.aa 4 1) (.vr 8) (.cn (.int .i64 2)))))
            (.set 10 (.bn (.ar .add .i64) (.vr 10) (.ld (.bn (.aa 4 1) (.vr 8) (.cn (.int .i64 2)))))
            .nil)))))))))
        (.op (some 56) (.buildSlice 27 1 #[(0, (.tmp 55))]) 27 [(55, (.vr 9))] []
        (.op (some 57) (.call ⟨(.builtin .append), #[(.tmp 54), (.tmp 56)], #[27, 27]⟩) 27 [(54, (.vr 6)), (56, (.vr 56))] []
        (.set 6 (.vr 57)
        .nil)))))))))))
      (.chk (.bn (.ar .add .i64) (.vr 25) (.cn (.int .i64 1)))
      (.set 25 (.bn (.ar .add .i64) (.vr 25) (.cn (.int .i64 1)))
      .nil)))))))
  (.set 4 (.vr 6)
  .ret)))))))))))))))))))))
def fc13 : Fc := ⟨60, s13, [(.vr 4)]⟩
theorem c13 : compF Try.prog 13 = some fc13 := by kernel_rfl

/-- kinora/kinoraref24.ScanPasses · parameters 2 · 0:w 1:h 5:out 6:i 7:a 8:b 9:c 10:d 11:l 12:at -/
def s14 : S :=
  (.set 4 (.cn (.slice none 0 0))
  (.call (some 14) 29 [(.vr 0)] []
  (.chk (.un .not (.vr 14))
  (.set 16 (.un .not (.vr 14))
  (.ifg (.vr 16) false
    (.call (some 18) 29 [(.vr 1)] []
    .nil)
    (.set 18 (.cn undef)
    .nil)
  (.chk (.gd (.vr 16) false (.un .not (.vr 18)))
  (.chk (.or (.vr 16) (.un .not (.vr 18)))
  (.set 20 (.or (.vr 16) (.un .not (.vr 18)))
  (.ite (.vr 20)
    (.set 4 (.cn (.slice none 0 0))
    .ret)
    .nil
  (.set 5 (.cn (.slice none 0 0))
  (.set 6 (.cn (.int .i64 0))
  (.blk 0
    (.loop
      (.chk (.bn (.cm .lss .i64) (.vr 6) (.cn (.int .i64 7)))
      (.set 22 (.bn (.cm .lss .i64) (.vr 6) (.cn (.int .i64 7)))
      (.ite (.vr 22)
        .nil
        (.exit 0)
      (.blk 1
        (.call (some 27) 31 [(.vr 6)] []
        (.chk (.un (.ex 0) (.vr 27))
        (.chk (.un (.ex 1) (.vr 27))
        (.chk (.un (.ex 2) (.vr 27))
        (.chk (.un (.ex 3) (.vr 27))
        (.set 7 (.un (.ex 0) (.vr 27))
        (.set 8 (.un (.ex 1) (.vr 27))
        (.set 9 (.un (.ex 2) (.vr 27))
        (.set 10 (.un (.ex 3) (.vr 27))
        (.set 11 (.cn (.slice none 0 0))
        (.set 12 (.cn (.int .i64 0))
        (.blk 2
          (.loop
            (.chk (.bn (.ar .mul .i64) (.vr 0) (.vr 1))
            (.chk (.bn (.cm .lss .i64) (.vr 12) (.bn (.ar .mul .i64) (.vr 0) (.vr 1)))
            (.set 36 (.bn (.cm .lss .i64) (.vr 12) (.bn (.ar .mul .i64) (.vr 0) (.vr 1)))
            (.ite (.vr 36)
              .nil
              (.exit 2)
            (.blk 3
              (.chk (.bn (.dv true .i64) (.vr 12) (.vr 0))
              (.chk (.bn (.dv true .i64) (.bn (.dv true .i64) (.vr 12) (.vr 0)) (.vr 7))
              (.chk (.bn (.cm .eql .i64) (.bn (.dv true .i64) (.bn (.dv true .i64) (.vr 12) (.vr 0)) (.vr 7)) (.vr 8))
              (.chk (.gd (.bn (.cm .eql .i64) (.bn (.dv true .i64) (.bn (.dv true .i64) (.vr 12) (.vr 0)) (.vr 7)) (.vr 8)) true (.bn (.dv false .i64) (.vr 12) (.vr 0)))
              (.chk (.gd (.bn (.cm .eql .i64) (.bn (.dv true .i64) (.bn (.dv true .i64) (.vr 12) (.vr 0)) (.vr 7)) (.vr 8)) true (.bn (.dv true .i64) (.bn (.dv false .i64) (.vr 12) (.vr 0)) (.vr 9)))
              (.chk (.gd (.bn (.cm .eql .i64) (.bn (.dv true .i64) (.bn (.dv true .i64) (.vr 12) (.vr 0)) (.vr 7)) (.vr 8)) true (.bn (.cm .eql .i64) (.bn (.dv true .i64) (.bn (.dv false .i64) (.vr 12) (.vr 0)) (.vr 9)) (.vr 10)))
              (.set 54 (.and (.bn (.cm .eql .i64) (.bn (.dv true .i64) (.bn (.dv true .i64) (.vr 12) (.vr 0)) (.vr 7)) (.vr 8)) (.bn (.cm .eql .i64) (.bn (.dv true .i64) (.bn (.dv false .i64) (.vr 12) (.vr 0)) (.vr 9)) (.vr 10)))
              (.ite (.vr 54)
                (.op (some 57) (.buildSlice 24 1 #[(0, (.tmp 56))]) 24 [(56, (.vr 12))] []
                (.op (some 58) (.call ⟨(.builtin .append), #[(.tmp 55), (.tmp 57)], #[24, 24]⟩) 24 [(55, (.vr 11)), (57, (.vr 57))] []
                (.set 11 (.vr 58)
                .nil)))
                .nil
              .nil))))))))
            (.chk (.bn (.ar .add .i64) (.vr 12) (.cn (.int .i64 1)))
            (.set 12 (.bn (.ar .add .i64) (.vr 12) (.cn (.int .i64 1)))
            .nil))))))))
        (.op (some 61) (.buildSlice 27 1 #[(0, (.tmp 60))]) 27 [(60, (.vr 11))] []
        (.op (some 62) (.call ⟨(.builtin .append), #[(.tmp 59), (.tmp 61)], #[27, 27]⟩) 27 [(59, (.vr 5)), (61, (.vr 61))] []
        (.set 5 (.vr 62)
        .nil)))))))))))))))
      (.chk (.bn (.ar .add .i64) (.vr 6) (.cn (.int .i64 1)))
      (.set 6 (.bn (.ar .add .i64) (.vr 6) (.cn (.int .i64 1)))
      .nil)))))))
  (.set 4 (.vr 5)
  .ret)))))))))))))
def fc14 : Fc := ⟨64, s14, [(.vr 4)]⟩
theorem c14 : compF Try.prog 14 = some fc14 := by kernel_rfl

/-- kinora/kinoralaw22.known · parameters 0 · 1:l 2:ok 4:no -/
def s15 : S :=
  (.set 0 (.cn (.bool false))
  (.op (some 6) (.buildSlice 24 3 #[(0, (.const (.int .i64 5))), (1, (.const (.int .i64 6))), (2, (.const (.int .i64 7)))]) 24 [] []
  (.op (some 7) (.buildSlice 24 3 #[(0, (.const (.int .i64 2))), (1, (.const (.int .i64 0))), (2, (.const (.int .i64 1)))]) 24 [] []
  (.call (some 8) 20 [(.vr 6), (.vr 7)] []
  (.chk (.un (.ex 0) (.vr 8))
  (.chk (.un (.ex 1) (.vr 8))
  (.set 1 (.un (.ex 0) (.vr 8))
  (.set 2 (.un (.ex 1) (.vr 8))
  (.op (some 12) (.buildSlice 24 2 #[(0, (.const (.int .i64 5))), (1, (.const (.int .i64 6)))]) 24 [] []
  (.op (some 13) (.buildSlice 24 2 #[(0, (.const (.int .i64 1))), (1, (.const (.int .i64 1)))]) 24 [] []
  (.call (some 14) 20 [(.vr 12), (.vr 13)] []
  (.chk (.un (.ex 0) (.vr 14))
  (.chk (.un (.ex 1) (.vr 14))
  (.set 4 (.un (.ex 1) (.vr 14))
  (.call (some 17) 10 [(.cn (.int .i64 2)), (.cn (.int .i64 2)), (.cn (.int .i64 1))] []
  (.op (some 18) (.buildSlice 24 4 #[(0, (.const (.int .i64 0))), (1, (.const (.int .i64 2))), (2, (.const (.int .i64 1))), (3, (.const (.int .i64 3)))]) 24 [] []
  (.call (some 19) 9 [(.vr 17), (.vr 18)] []
  (.set 20 (.vr 19)
  (.ifg (.vr 20) true
    (.call (some 21) 10 [(.cn (.int .i64 2)), (.cn (.int .i64 2)), (.cn (.int .i64 2))] []
    .nil)
    (.set 21 (.cn undef)
    .nil)
  (.ifg (.vr 20) true
    (.op (some 22) (.buildSlice 24 4 #[(0, (.const (.int .i64 0))), (1, (.const (.int .i64 1))), (2, (.const (.int .i64 3))), (3, (.const (.int .i64 2)))]) 24 [] []
    .nil)
    (.set 22 (.cn undef)
    .nil)
  (.ifg (.vr 20) true
    (.call (some 23) 9 [(.vr 21), (.vr 22)] []
    .nil)
    (.set 23 (.cn undef)
    .nil)
  (.chk (.pk (.vr 20) (.vr 23) (.cn (.bool false)))
  (.set 25 (.pk (.vr 20) (.vr 23) (.cn (.bool false)))
  (.ifg (.vr 25) true
    (.call (some 26) 10 [(.cn (.int .i64 3)), (.cn (.int .i64 2)), (.cn (.int .i64 3))] []
    .nil)
    (.set 26 (.cn undef)
    .nil)
  (.ifg (.vr 25) true
    (.op (some 27) (.buildSlice 24 6 #[(0, (.const (.int .i64 0))), (1, (.const (.int .i64 3))), (2, (.const (.int .i64 1))), (3, (.const (.int .i64 4))), (4, (.const (.int .i64 2))), (5, (.const (.int .i64 5)))]) 24 [] []
    .nil)
    (.set 27 (.cn undef)
    .nil)
  (.ifg (.vr 25) true
    (.call (some 28) 9 [(.vr 26), (.vr 27)] []
    .nil)
    (.set 28 (.cn undef)
    .nil)
  (.chk (.pk (.vr 25) (.vr 28) (.cn (.bool false)))
  (.set 30 (.pk (.vr 25) (.vr 28) (.cn (.bool false)))
  (.ifg (.vr 30) true
    (.call (some 31) 10 [(.cn (.int .i64 4)), (.cn (.int .i64 1)), (.cn (.int .i64 4))] []
    .nil)
    (.set 31 (.cn undef)
    .nil)
  (.ifg (.vr 30) true
    (.op (some 32) (.buildSlice 24 4 #[(0, (.const (.int .i64 0))), (1, (.const (.int .i64 1))), (2, (.const (.int .i64 2))), (3, (.const (.int .i64 3)))]) 24 [] []
    .nil)
    (.set 32 (.cn undef)
    .nil)
  (.ifg (.vr 30) true
    (.call (some 33) 9 [(.vr 31), (.vr 32)] []
    .nil)
    (.set 33 (.cn undef)
    .nil)
  (.chk (.pk (.vr 30) (.vr 33) (.cn (.bool false)))
  (.set 35 (.pk (.vr 30) (.vr 33) (.cn (.bool false)))
  (.chk (.pk (.vr 35) (.vr 2) (.cn (.bool false)))
  (.set 38 (.pk (.vr 35) (.vr 2) (.cn (.bool false)))
  (.ifg (.vr 38) true
    (.op (some 40) (.buildSlice 24 3 #[(0, (.const (.int .i64 7))), (1, (.const (.int .i64 5))), (2, (.const (.int .i64 6)))]) 24 [] []
    .nil)
    (.set 40 (.cn undef)
    .nil)
  (.ifg (.vr 38) true
    (.call (some 41) 9 [(.vr 1), (.vr 40)] []
    .nil)
    (.set 41 (.cn undef)
    .nil)
  (.chk (.pk (.vr 38) (.vr 41) (.cn (.bool false)))
  (.set 43 (.pk (.vr 38) (.vr 41) (.cn (.bool false)))
  (.chk (.gd (.vr 43) true (.un .not (.vr 4)))
  (.chk (.and (.vr 43) (.un .not (.vr 4)))
  (.set 47 (.and (.vr 43) (.un .not (.vr 4)))
  (.ifg (.vr 47) true
    (.call (some 48) 13 [(.cn (.int .i64 0)), (.cn (.int .i64 1))] []
    .nil)
    (.set 48 (.cn undef)
    .nil)
  (.chk (.gd (.vr 47) true (.un .ln (.vr 48)))
  (.chk (.and (.vr 47) (.bn (.cm .eql .i64) (.un .ln (.vr 48)) (.cn (.int .i64 0))))
  (.set 0 (.and (.vr 47) (.bn (.cm .eql .i64) (.un .ln (.vr 48)) (.cn (.int .i64 0))))
  .ret))))))))))))))))))))))))))))))))))))))))))))))
def fc15 : Fc := ⟨52, s15, [(.vr 0)]⟩
theorem c15 : compF Try.prog 15 = some fc15 := by kernel_rfl

/-- kinora/kinorakeep2.New · parameters 1 · 0:l -/
def s16 : S :=
  (.set 2 (.cn (.pointer none))
  (.chk (.bd 0 1 (.vr 0) (.cn (.agg #[(.slice none 0 0), (.int .i64 0)])))
  (.op (some 5) (.box 50 (.tmp 4)) 31 [(4, (.bd 0 1 (.vr 0) (.cn (.agg #[(.slice none 0 0), (.int .i64 0)]))))] []
  (.set 2 (.vr 5)
  .ret))))
def fc16 : Fc := ⟨6, s16, [(.vr 2)]⟩
theorem c16 : compF Try.prog 16 = some fc16 := by kernel_rfl

/-- (*kinora/kinorakeep2.Tape).Next · parameters 2 · 0:t 1:n -/
def s17 : S :=
  (.set 4 (.cn (.int .i64 0))
  (.draw
  (.chk (.un .nck (.vr 0))
  (.chk (.un (.fa 1) (.un .nck (.vr 0)))
  (.chk (.ld (.un (.fa 1) (.un .nck (.vr 0))))
  (.chk (.un .nck (.vr 0))
  (.chk (.un (.fa 0) (.un .nck (.vr 0)))
  (.chk (.ld (.un (.fa 0) (.un .nck (.vr 0))))
  (.chk (.un .ln (.ld (.un (.fa 0) (.un .nck (.vr 0)))))
  (.chk (.bn (.cm .geq .i64) (.ld (.un (.fa 1) (.un .nck (.vr 0)))) (.un .ln (.ld (.un (.fa 0) (.un .nck (.vr 0))))))
  (.chk (.gd (.bn (.cm .geq .i64) (.ld (.un (.fa 1) (.un .nck (.vr 0)))) (.un .ln (.ld (.un (.fa 0) (.un .nck (.vr 0)))))) false (.bn (.cm .lss .i64) (.vr 1) (.cn (.int .i64 1))))
  (.set 18 (.or (.bn (.cm .geq .i64) (.ld (.un (.fa 1) (.un .nck (.vr 0)))) (.un .ln (.ld (.un (.fa 0) (.un .nck (.vr 0)))))) (.bn (.cm .lss .i64) (.vr 1) (.cn (.int .i64 1))))
  (.ite (.vr 18)
    (.set 4 (.cn (.int .i64 0))
    .ret)
    .nil
  (.chk (.un .nck (.vr 0))
  (.chk (.un (.fa 1) (.un .nck (.vr 0)))
  (.chk (.ld (.un (.fa 1) (.un .nck (.vr 0))))
  (.set 22 (.ld (.un (.fa 1) (.un .nck (.vr 0))))
  (.chk (.bn (.ar .add .i64) (.vr 22) (.cn (.int .i64 1)))
  (.chk (.un .nck (.vr 0))
  (.chk (.un (.fa 1) (.un .nck (.vr 0)))
  (.st 1 (.un (.fa 1) (.un .nck (.vr 0))) (.bn (.ar .add .i64) (.vr 22) (.cn (.int .i64 1))) []
  (.draw
  (.chk (.un .nck (.vr 0))
  (.chk (.un (.fa 0) (.un .nck (.vr 0)))
  (.chk (.ld (.un (.fa 0) (.un .nck (.vr 0))))
  (.set 29 (.ld (.un (.fa 0) (.un .nck (.vr 0))))
  (.chk (.un .nck (.vr 0))
  (.chk (.un (.fa 1) (.un .nck (.vr 0)))
  (.chk (.ld (.un (.fa 1) (.un .nck (.vr 0))))
  (.set 33 (.ld (.un (.fa 1) (.un .nck (.vr 0))))
  (.chk (.bn (.ar .sub .i64) (.vr 33) (.cn (.int .i64 1)))
  (.chk (.bn (.ia 1) (.vr 29) (.bn (.ar .sub .i64) (.vr 33) (.cn (.int .i64 1))))
  (.chk (.ld (.bn (.ia 1) (.vr 29) (.bn (.ar .sub .i64) (.vr 33) (.cn (.int .i64 1)))))
  (.set 36 (.ld (.bn (.ia 1) (.vr 29) (.bn (.ar .sub .i64) (.vr 33) (.cn (.int .i64 1)))))
  (.call (some 37) 8 [(.vr 36), (.cn (.int .i64 0)), (.cn (.int .i64 1073741824))] []
  (.chk (.bn (.dv true .i64) (.vr 37) (.vr 1))
  (.set 4 (.bn (.dv true .i64) (.vr 37) (.vr 1))
  .ret)))))))))))))))))))))))))))))))))))))
def fc17 : Fc := ⟨40, s17, [(.vr 4)]⟩
theorem c17 : compF Try.prog 17 = some fc17 := by kernel_rfl

/-- kinora/kinoralaw22.takes · parameters 2 · 0:l 1:order 5:a 6:ok 7:b 8:is 9:c 10:in 11:d 12:was -/
def s18 : S :=
  (.set 4 (.cn (.bool false))
  (.call (some 16) 20 [(.vr 0), (.vr 1)] []
  (.chk (.un (.ex 0) (.vr 16))
  (.chk (.un (.ex 1) (.vr 16))
  (.set 5 (.un (.ex 0) (.vr 16))
  (.set 6 (.un (.ex 1) (.vr 16))
  (.call (some 22) 32 [(.vr 0), (.vr 1)] []
  (.chk (.un (.ex 0) (.vr 22))
  (.chk (.un (.ex 1) (.vr 22))
  (.set 7 (.un (.ex 0) (.vr 22))
  (.set 8 (.un (.ex 1) (.vr 22))
  (.call (some 28) 21 [(.vr 0), (.vr 1)] []
  (.chk (.un (.ex 0) (.vr 28))
  (.chk (.un (.ex 1) (.vr 28))
  (.set 9 (.un (.ex 0) (.vr 28))
  (.set 10 (.un (.ex 1) (.vr 28))
  (.call (some 34) 33 [(.vr 0), (.vr 1)] []
  (.chk (.un (.ex 0) (.vr 34))
  (.chk (.un (.ex 1) (.vr 34))
  (.set 11 (.un (.ex 0) (.vr 34))
  (.set 12 (.un (.ex 1) (.vr 34))
  (.call (some 39) 9 [(.vr 5), (.vr 7)] []
  (.set 40 (.vr 39)
  (.chk (.gd (.vr 40) true (.bn (.eqb false) (.vr 6) (.vr 8)))
  (.chk (.and (.vr 40) (.bn (.eqb false) (.vr 6) (.vr 8)))
  (.set 45 (.and (.vr 40) (.bn (.eqb false) (.vr 6) (.vr 8)))
  (.ifg (.vr 45) true
    (.call (some 48) 9 [(.vr 9), (.vr 11)] []
    .nil)
    (.set 48 (.cn undef)
    .nil)
  (.chk (.pk (.vr 45) (.vr 48) (.cn (.bool false)))
  (.set 50 (.pk (.vr 45) (.vr 48) (.cn (.bool false)))
  (.chk (.gd (.vr 50) true (.bn (.eqb false) (.vr 10) (.vr 12)))
  (.chk (.and (.vr 50) (.bn (.eqb false) (.vr 10) (.vr 12)))
  (.set 4 (.and (.vr 50) (.bn (.eqb false) (.vr 10) (.vr 12)))
  .ret))))))))))))))))))))))))))))))))
def fc18 : Fc := ⟨55, s18, [(.vr 4)]⟩
theorem c18 : compF Try.prog 18 = some fc18 := by kernel_rfl

/-- (*kinora/kinorakeep2.Tape).Plane · parameters 4 · 0:t 1:w 2:h 3:depth 9:kind 10:seed 11:r 12:most 13:l 14:at 15:x 16:y 17:v -/
def s19 : S :=
  (.set 8 (.cn (.slice none 0 0))
  (.call (some 19) 17 [(.vr 0), (.cn (.int .i64 7))] []
  (.call (some 21) 17 [(.vr 0), (.cn (.int .i64 1048576))] []
  (.set 9 (.vr 19)
  (.set 10 (.vr 21)
  (.chk (.bd 0 1 (.vr 10) (.cn (.agg #[(.int .i64 0)])))
  (.op (some 24) (.box 53 (.tmp 23)) 51 [(23, (.bd 0 1 (.vr 10) (.cn (.agg #[(.int .i64 0)]))))] []
  (.set 11 (.vr 24)
  (.chk (.un (.cv .u64) (.vr 3))
  (.chk (.bn (.sh true .i64) (.cn (.int .i64 1)) (.un (.cv .u64) (.vr 3)))
  (.set 12 (.bn (.sh true .i64) (.cn (.int .i64 1)) (.un (.cv .u64) (.vr 3)))
  (.set 13 (.cn (.slice none 0 0))
  (.set 14 (.cn (.int .i64 0))
  (.blk 0
    (.loop
      (.chk (.bn (.ar .mul .i64) (.vr 1) (.vr 2))
      (.chk (.bn (.cm .lss .i64) (.vr 14) (.bn (.ar .mul .i64) (.vr 1) (.vr 2)))
      (.set 32 (.bn (.cm .lss .i64) (.vr 14) (.bn (.ar .mul .i64) (.vr 1) (.vr 2)))
      (.ite (.vr 32)
        .nil
        (.exit 0)
      (.blk 1
        (.draw
        (.chk (.bn (.dv true .i64) (.vr 14) (.vr 1))
        (.chk (.bn (.dv false .i64) (.vr 14) (.vr 1))
        (.set 15 (.bn (.dv true .i64) (.vr 14) (.vr 1))
        (.set 16 (.bn (.dv false .i64) (.vr 14) (.vr 1))
        (.set 17 (.cn (.int .i64 0))
        (.set 41 (.vr 9)
        (.blk 2
          (.chk (.bn (.cm .eql .i64) (.vr 41) (.cn (.int .i64 0)))
          (.set 50 (.bn (.cm .eql .i64) (.vr 41) (.cn (.int .i64 0)))
          (.ite (.vr 50)
            (.set 17 (.vr 10)
            .nil)
            (.chk (.bn (.cm .eql .i64) (.vr 41) (.cn (.int .i64 1)))
            (.set 53 (.bn (.cm .eql .i64) (.vr 41) (.cn (.int .i64 1)))
            (.ite (.vr 53)
              (.call (some 56) 34 [(.vr 11), (.cn (.int .i64 65536))] []
              (.set 17 (.vr 56)
              .nil))
              (.chk (.bn (.cm .eql .i64) (.vr 41) (.cn (.int .i64 2)))
              (.set 57 (.bn (.cm .eql .i64) (.vr 41) (.cn (.int .i64 2)))
              (.ite (.vr 57)
                (.chk (.bn (.ar .mul .i64) (.cn (.int .i64 3)) (.vr 15))
                (.chk (.bn (.ar .add .i64) (.vr 10) (.bn (.ar .mul .i64) (.cn (.int .i64 3)) (.vr 15)))
                (.chk (.bn (.ar .mul .i64) (.cn (.int .i64 2)) (.vr 16))
                (.call (some 67) 34 [(.vr 11), (.cn (.int .i64 3))] []
                (.chk (.bn (.ar .add .i64) (.bn (.ar .add .i64) (.bn (.ar .add .i64) (.vr 10) (.bn (.ar .mul .i64) (.cn (.int .i64 3)) (.vr 15))) (.bn (.ar .mul .i64) (.cn (.int .i64 2)) (.vr 16))) (.vr 67))
                (.set 17 (.bn (.ar .add .i64) (.bn (.ar .add .i64) (.bn (.ar .add .i64) (.vr 10) (.bn (.ar .mul .i64) (.cn (.int .i64 3)) (.vr 15))) (.bn (.ar .mul .i64) (.cn (.int .i64 2)) (.vr 16))) (.vr 67))
                .nil))))))
                (.chk (.bn (.cm .eql .i64) (.vr 41) (.cn (.int .i64 3)))
                (.set 69 (.bn (.cm .eql .i64) (.vr 41) (.cn (.int .i64 3)))
                (.ite (.vr 69)
                  (.call (some 73) 34 [(.vr 11), (.cn (.int .i64 5))] []
                  (.chk (.bn (.ar .mul .i64) (.vr 73) (.cn (.int .i64 7)))
                  (.chk (.bn (.ar .add .i64) (.vr 10) (.bn (.ar .mul .i64) (.vr 73) (.cn (.int .i64 7))))
                  (.set 17 (.bn (.ar .add .i64) (.vr 10) (.bn (.ar .mul .i64) (.vr 73) (.cn (.int .i64 7))))
                  .nil))))
                  (.chk (.bn (.cm .eql .i64) (.vr 41) (.cn (.int .i64 4)))
                  (.set 76 (.bn (.cm .eql .i64) (.vr 41) (.cn (.int .i64 4)))
                  (.ite (.vr 76)
                    (.chk (.bn (.dv false .i64) (.vr 15) (.cn (.int .i64 3)))
                    (.chk (.bn (.ar .add .i64) (.vr 10) (.bn (.ar .mul .i64) (.bn (.dv false .i64) (.vr 15) (.cn (.int .i64 3))) (.cn (.int .i64 11))))
                    (.chk (.bn (.dv false .i64) (.vr 16) (.cn (.int .i64 4)))
                    (.set 17 (.bn (.ar .add .i64) (.bn (.ar .add .i64) (.vr 10) (.bn (.ar .mul .i64) (.bn (.dv false .i64) (.vr 15) (.cn (.int .i64 3))) (.cn (.int .i64 11)))) (.bn (.dv false .i64) (.vr 16) (.cn (.int .i64 4))))
                    .nil))))
                    (.chk (.bn (.cm .eql .i64) (.vr 41) (.cn (.int .i64 5)))
                    (.set 86 (.bn (.cm .eql .i64) (.vr 41) (.cn (.int .i64 5)))
                    (.ite (.vr 86)
                      (.chk (.bn (.ar .mul .i64) (.vr 15) (.vr 15))
                      (.chk (.bn (.ar .add .i64) (.vr 10) (.bn (.ar .mul .i64) (.vr 15) (.vr 15)))
                      (.chk (.bn (.ar .mul .i64) (.vr 16) (.vr 16))
                      (.set 17 (.bn (.ar .add .i64) (.bn (.ar .add .i64) (.vr 10) (.bn (.ar .mul .i64) (.vr 15) (.vr 15))) (.bn (.dv false .i64) (.bn (.ar .mul .i64) (.vr 16) (.vr 16)) (.cn (.int .i64 2))))
                      .nil))))
                      (.chk (.bn (.ar .mul .i64) (.cn (.int .i64 3)) (.vr 16))
                      (.chk (.bn (.ar .add .i64) (.vr 15) (.bn (.ar .mul .i64) (.cn (.int .i64 3)) (.vr 16)))
                      (.chk (.bn (.ar .add .i64) (.vr 10) (.bn (.ar .mul .i64) (.bn (.dv true .i64) (.bn (.ar .add .i64) (.vr 15) (.bn (.ar .mul .i64) (.cn (.int .i64 3)) (.vr 16))) (.cn (.int .i64 5))) (.cn (.int .i64 9))))
                      (.set 17 (.bn (.ar .add .i64) (.vr 10) (.bn (.ar .mul .i64) (.bn (.dv true .i64) (.bn (.ar .add .i64) (.vr 15) (.bn (.ar .mul .i64) (.cn (.int .i64 3)) (.vr 16))) (.cn (.int .i64 5))) (.cn (.int .i64 9))))
                      .nil))))
                    .nil)))
                  .nil)))
                .nil)))
              .nil)))
            .nil)))
          .nil)))
        (.chk (.bn (.dv true .i64) (.vr 17) (.vr 12))
        (.op (some 102) (.buildSlice 24 1 #[(0, (.tmp 101))]) 24 [(101, (.bn (.dv true .i64) (.vr 17) (.vr 12)))] []
        (.op (some 103) (.call ⟨(.builtin .append), #[(.tmp 98), (.tmp 102)], #[24, 24]⟩) 24 [(98, (.vr 13)), (102, (.vr 102))] []
        (.set 13 (.vr 103)
        .nil))))))))))))
      (.chk (.bn (.ar .add .i64) (.vr 14) (.cn (.int .i64 1)))
      (.set 14 (.bn (.ar .add .i64) (.vr 14) (.cn (.int .i64 1)))
      .nil))))))))
  (.set 8 (.vr 13)
  .ret)))))))))))))))
def fc19 : Fc := ⟨105, s19, [(.vr 8)]⟩
theorem c19 : compF Try.prog 19 = some fc19 := by kernel_rfl

/-- kinora/scan.Take · parameters 2 · 0:l 1:order 6:out 7:i 8:at -/
def s20 : S :=
  (.set 4 (.cn (.slice none 0 0))
  (.set 5 (.cn (.bool false))
  (.chk (.un .ln (.vr 0))
  (.call (some 12) 35 [(.vr 1), (.un .ln (.vr 0))] []
  (.chk (.un .not (.vr 12))
  (.set 13 (.un .not (.vr 12))
  (.ite (.vr 13)
    (.set 4 (.cn (.slice none 0 0))
    (.set 5 (.cn (.bool false))
    .ret))
    .nil
  (.chk (.un .ln (.vr 0))
  (.op (some 16) (.makeSlice 24 (.tmp 15) (.tmp 15)) 24 [(15, (.un .ln (.vr 0))), (15, (.un .ln (.vr 0)))] []
  (.set 6 (.vr 16)
  (.set 17 (.vr 1)
  (.chk (.un .ln (.vr 17))
  (.set 18 (.un .ln (.vr 17))
  (.set 19 (.cn (.int .i64 0))
  (.blk 0
    (.loop
      (.chk (.bn (.cm .lss .i64) (.vr 19) (.vr 18))
      (.set 20 (.bn (.cm .lss .i64) (.vr 19) (.vr 18))
      (.ite (.vr 20)
        .nil
        (.exit 0)
      (.blk 1
        (.chk (.bn (.ia 1) (.vr 17) (.vr 19))
        (.chk (.ld (.bn (.ia 1) (.vr 17) (.vr 19)))
        (.set 7 (.vr 19)
        (.set 8 (.ld (.bn (.ia 1) (.vr 17) (.vr 19)))
        (.chk (.bn (.ia 1) (.vr 0) (.vr 8))
        (.chk (.ld (.bn (.ia 1) (.vr 0) (.vr 8)))
        (.set 29 (.ld (.bn (.ia 1) (.vr 0) (.vr 8)))
        (.chk (.bn (.ia 1) (.vr 6) (.vr 7))
        (.st 1 (.bn (.ia 1) (.vr 6) (.vr 7)) (.vr 29) []
        .nil)))))))))
      (.chk (.bn (.ar .add .i64) (.vr 19) (.cn (.int .i64 1)))
      (.set 19 (.bn (.ar .add .i64) (.vr 19) (.cn (.int .i64 1)))
      .nil)))))))
  (.set 4 (.vr 6)
  (.set 5 (.cn (.bool true))
  .ret)))))))))))))))))
def fc20 : Fc := ⟨33, s20, [(.vr 4), (.vr 5)]⟩
theorem c20 : compF Try.prog 20 = some fc20 := by kernel_rfl

/-- kinora/scan.Lay · parameters 2 · 0:l 1:order 6:out 7:i 8:at -/
def s21 : S :=
  (.set 4 (.cn (.slice none 0 0))
  (.set 5 (.cn (.bool false))
  (.chk (.un .ln (.vr 0))
  (.call (some 12) 35 [(.vr 1), (.un .ln (.vr 0))] []
  (.chk (.un .not (.vr 12))
  (.set 13 (.un .not (.vr 12))
  (.ite (.vr 13)
    (.set 4 (.cn (.slice none 0 0))
    (.set 5 (.cn (.bool false))
    .ret))
    .nil
  (.chk (.un .ln (.vr 0))
  (.op (some 16) (.makeSlice 24 (.tmp 15) (.tmp 15)) 24 [(15, (.un .ln (.vr 0))), (15, (.un .ln (.vr 0)))] []
  (.set 6 (.vr 16)
  (.set 17 (.vr 1)
  (.chk (.un .ln (.vr 17))
  (.set 18 (.un .ln (.vr 17))
  (.set 19 (.cn (.int .i64 0))
  (.blk 0
    (.loop
      (.chk (.bn (.cm .lss .i64) (.vr 19) (.vr 18))
      (.set 20 (.bn (.cm .lss .i64) (.vr 19) (.vr 18))
      (.ite (.vr 20)
        .nil
        (.exit 0)
      (.blk 1
        (.chk (.bn (.ia 1) (.vr 17) (.vr 19))
        (.chk (.ld (.bn (.ia 1) (.vr 17) (.vr 19)))
        (.set 7 (.vr 19)
        (.set 8 (.ld (.bn (.ia 1) (.vr 17) (.vr 19)))
        (.chk (.bn (.ia 1) (.vr 0) (.vr 7))
        (.chk (.ld (.bn (.ia 1) (.vr 0) (.vr 7)))
        (.set 29 (.ld (.bn (.ia 1) (.vr 0) (.vr 7)))
        (.chk (.bn (.ia 1) (.vr 6) (.vr 8))
        (.st 1 (.bn (.ia 1) (.vr 6) (.vr 8)) (.vr 29) []
        .nil)))))))))
      (.chk (.bn (.ar .add .i64) (.vr 19) (.cn (.int .i64 1)))
      (.set 19 (.bn (.ar .add .i64) (.vr 19) (.cn (.int .i64 1)))
      .nil)))))))
  (.set 4 (.vr 6)
  (.set 5 (.cn (.bool true))
  .ret)))))))))))))))))
def fc21 : Fc := ⟨33, s21, [(.vr 4), (.vr 5)]⟩
theorem c21 : compF Try.prog 21 = some fc21 := by kernel_rfl

/-- kinora/scan.Rough · parameters 4 · 0:l 1:w 2:h 3:passes 9:out 10:steps 11:step 12:y 13:x -/
def s22 : S :=
  (.set 8 (.cn (.slice none 0 0))
  (.call (some 16) 24 [(.vr 1), (.vr 2)] []
  (.chk (.un .not (.vr 16))
  (.set 18 (.un .not (.vr 16))
  (.chk (.gd (.vr 18) false (.un .ln (.vr 0)))
  (.chk (.gd (.vr 18) false (.bn (.ar .mul .i64) (.vr 1) (.vr 2)))
  (.chk (.or (.vr 18) (.bn (.cm .neq .i64) (.un .ln (.vr 0)) (.bn (.ar .mul .i64) (.vr 1) (.vr 2))))
  (.set 25 (.or (.vr 18) (.bn (.cm .neq .i64) (.un .ln (.vr 0)) (.bn (.ar .mul .i64) (.vr 1) (.vr 2))))
  (.ite (.vr 25)
    (.set 8 (.cn (.slice none 0 0))
    .ret)
    .nil
  (.chk (.un .ln (.vr 0))
  (.op (some 28) (.makeSlice 24 (.tmp 27) (.tmp 27)) 24 [(27, (.un .ln (.vr 0))), (27, (.un .ln (.vr 0)))] []
  (.set 9 (.vr 28)
  (.chk (.bn (.cm .leq .i64) (.vr 3) (.cn (.int .i64 0)))
  (.set 30 (.bn (.cm .leq .i64) (.vr 3) (.cn (.int .i64 0)))
  (.ite (.vr 30)
    (.set 8 (.vr 9)
    .ret)
    .nil
  (.chk (.bd 1 1 (.cn (.int .i64 8)) (.bd 0 1 (.cn (.int .i64 8)) (.cn (.agg #[(.int .i64 0), (.int .i64 0)]))))
  (.chk (.bd 1 1 (.cn (.int .i64 8)) (.bd 0 1 (.cn (.int .i64 4)) (.cn (.agg #[(.int .i64 0), (.int .i64 0)]))))
  (.chk (.bd 1 1 (.cn (.int .i64 4)) (.bd 0 1 (.cn (.int .i64 4)) (.cn (.agg #[(.int .i64 0), (.int .i64 0)]))))
  (.chk (.bd 1 1 (.cn (.int .i64 4)) (.bd 0 1 (.cn (.int .i64 2)) (.cn (.agg #[(.int .i64 0), (.int .i64 0)]))))
  (.chk (.bd 1 1 (.cn (.int .i64 2)) (.bd 0 1 (.cn (.int .i64 2)) (.cn (.agg #[(.int .i64 0), (.int .i64 0)]))))
  (.chk (.bd 1 1 (.cn (.int .i64 2)) (.bd 0 1 (.cn (.int .i64 1)) (.cn (.agg #[(.int .i64 0), (.int .i64 0)]))))
  (.chk (.bd 1 1 (.cn (.int .i64 1)) (.bd 0 1 (.cn (.int .i64 1)) (.cn (.agg #[(.int .i64 0), (.int .i64 0)]))))
  (.chk (.bd 12 2 (.bd 1 1 (.cn (.int .i64 1)) (.bd 0 1 (.cn (.int .i64 1)) (.cn (.agg #[(.int .i64 0), (.int .i64 0)])))) (.bd 10 2 (.bd 1 1 (.cn (.int .i64 2)) (.bd 0 1 (.cn (.int .i64 1)) (.cn (.agg #[(.int .i64 0), (.int .i64 0)])))) (.bd 8 2 (.bd 1 1 (.cn (.int .i64 2)) (.bd 0 1 (.cn (.int .i64 2)) (.cn (.agg #[(.int .i64 0), (.int .i64 0)])))) (.bd 6 2 (.bd 1 1 (.cn (.int .i64 4)) (.bd 0 1 (.cn (.int .i64 2)) (.cn (.agg #[(.int .i64 0), (.int .i64 0)])))) (.bd 4 2 (.bd 1 1 (.cn (.int .i64 4)) (.bd 0 1 (.cn (.int .i64 4)) (.cn (.agg #[(.int .i64 0), (.int .i64 0)])))) (.bd 2 2 (.bd 1 1 (.cn (.int .i64 8)) (.bd 0 1 (.cn (.int .i64 4)) (.cn (.agg #[(.int .i64 0), (.int .i64 0)])))) (.bd 0 2 (.bd 1 1 (.cn (.int .i64 8)) (.bd 0 1 (.cn (.int .i64 8)) (.cn (.agg #[(.int .i64 0), (.int .i64 0)])))) (.cn (.agg #[(.int .i64 0), (.int .i64 0), (.int .i64 0), (.int .i64 0), (.int .i64 0), (.int .i64 0), (.int .i64 0), (.int .i64 0), (.int .i64 0), (.int .i64 0), (.int .i64 0), (.int .i64 0), (.int .i64 0), (.int .i64 0)])))))))))
  (.op (some 10) (.alloc 57) 0 [] []
  (.st 14 (.vr 10) (.bd 12 2 (.bd 1 1 (.cn (.int .i64 1)) (.bd 0 1 (.cn (.int .i64 1)) (.cn (.agg #[(.int .i64 0), (.int .i64 0)])))) (.bd 10 2 (.bd 1 1 (.cn (.int .i64 2)) (.bd 0 1 (.cn (.int .i64 1)) (.cn (.agg #[(.int .i64 0), (.int .i64 0)])))) (.bd 8 2 (.bd 1 1 (.cn (.int .i64 2)) (.bd 0 1 (.cn (.int .i64 2)) (.cn (.agg #[(.int .i64 0), (.int .i64 0)])))) (.bd 6 2 (.bd 1 1 (.cn (.int .i64 4)) (.bd 0 1 (.cn (.int .i64 2)) (.cn (.agg #[(.int .i64 0), (.int .i64 0)])))) (.bd 4 2 (.bd 1 1 (.cn (.int .i64 4)) (.bd 0 1 (.cn (.int .i64 4)) (.cn (.agg #[(.int .i64 0), (.int .i64 0)])))) (.bd 2 2 (.bd 1 1 (.cn (.int .i64 8)) (.bd 0 1 (.cn (.int .i64 4)) (.cn (.agg #[(.int .i64 0), (.int .i64 0)])))) (.bd 0 2 (.bd 1 1 (.cn (.int .i64 8)) (.bd 0 1 (.cn (.int .i64 8)) (.cn (.agg #[(.int .i64 0), (.int .i64 0)])))) (.cn (.agg #[(.int .i64 0), (.int .i64 0), (.int .i64 0), (.int .i64 0), (.int .i64 0), (.int .i64 0), (.int .i64 0), (.int .i64 0), (.int .i64 0), (.int .i64 0), (.int .i64 0), (.int .i64 0), (.int .i64 0), (.int .i64 0)]))))))))) []
  (.chk (.bn (.mn .i64) (.vr 3) (.cn (.int .i64 7)))
  (.chk (.bn (.aa 7 2) (.vr 10) (.bn (.ar .sub .i64) (.bn (.mn .i64) (.vr 3) (.cn (.int .i64 7))) (.cn (.int .i64 1))))
  (.chk (.ldn 2 (.bn (.aa 7 2) (.vr 10) (.bn (.ar .sub .i64) (.bn (.mn .i64) (.vr 3) (.cn (.int .i64 7))) (.cn (.int .i64 1)))))
  (.set 44 (.ldn 2 (.bn (.aa 7 2) (.vr 10) (.bn (.ar .sub .i64) (.bn (.mn .i64) (.vr 3) (.cn (.int .i64 7))) (.cn (.int .i64 1)))))
  (.op (some 11) (.alloc 56) 0 [] []
  (.st 2 (.vr 11) (.vr 44) []
  (.set 45 (.vr 2)
  (.set 46 (.cn (.int .i64 0))
  (.blk 0
    (.loop
      (.chk (.bn (.cm .lss .i64) (.vr 46) (.vr 45))
      (.set 47 (.bn (.cm .lss .i64) (.vr 46) (.vr 45))
      (.ite (.vr 47)
        .nil
        (.exit 0)
      (.blk 1
        (.set 12 (.vr 46)
        (.set 49 (.vr 1)
        (.set 50 (.cn (.int .i64 0))
        (.blk 2
          (.loop
            (.chk (.bn (.cm .lss .i64) (.vr 50) (.vr 49))
            (.set 51 (.bn (.cm .lss .i64) (.vr 50) (.vr 49))
            (.ite (.vr 51)
              .nil
              (.exit 2)
            (.blk 3
              (.set 13 (.vr 50)
              (.draw
              (.chk (.bn (.ar .mul .i64) (.vr 12) (.vr 1))
              (.chk (.bn (.ar .add .i64) (.bn (.ar .mul .i64) (.vr 12) (.vr 1)) (.vr 13))
              (.chk (.bn (.aa 2 1) (.vr 11) (.cn (.int .i64 1)))
              (.chk (.ld (.bn (.aa 2 1) (.vr 11) (.cn (.int .i64 1))))
              (.set 63 (.ld (.bn (.aa 2 1) (.vr 11) (.cn (.int .i64 1))))
              (.chk (.bn (.dv true .i64) (.vr 12) (.vr 63))
              (.chk (.bn (.ar .sub .i64) (.vr 12) (.bn (.dv true .i64) (.vr 12) (.vr 63)))
              (.chk (.bn (.ar .mul .i64) (.bn (.ar .sub .i64) (.vr 12) (.bn (.dv true .i64) (.vr 12) (.vr 63))) (.vr 1))
              (.chk (.bn (.ar .add .i64) (.bn (.ar .mul .i64) (.bn (.ar .sub .i64) (.vr 12) (.bn (.dv true .i64) (.vr 12) (.vr 63))) (.vr 1)) (.vr 13))
              (.chk (.bn (.aa 2 1) (.vr 11) (.cn (.int .i64 0)))
              (.chk (.ld (.bn (.aa 2 1) (.vr 11) (.cn (.int .i64 0))))
              (.set 72 (.ld (.bn (.aa 2 1) (.vr 11) (.cn (.int .i64 0))))
              (.chk (.bn (.dv true .i64) (.vr 13) (.vr 72))
              (.chk (.bn (.ia 1) (.vr 0) (.bn (.ar .sub .i64) (.bn (.ar .add .i64) (.bn (.ar .mul .i64) (.bn (.ar .sub .i64) (.vr 12) (.bn (.dv true .i64) (.vr 12) (.vr 63))) (.vr 1)) (.vr 13)) (.bn (.dv true .i64) (.vr 13) (.vr 72))))
              (.chk (.ld (.bn (.ia 1) (.vr 0) (.bn (.ar .sub .i64) (.bn (.ar .add .i64) (.bn (.ar .mul .i64) (.bn (.ar .sub .i64) (.vr 12) (.bn (.dv true .i64) (.vr 12) (.vr 63))) (.vr 1)) (.vr 13)) (.bn (.dv true .i64) (.vr 13) (.vr 72)))))
              (.set 76 (.ld (.bn (.ia 1) (.vr 0) (.bn (.ar .sub .i64) (.bn (.ar .add .i64) (.bn (.ar .mul .i64) (.bn (.ar .sub .i64) (.vr 12) (.bn (.dv true .i64) (.vr 12) (.vr 63))) (.vr 1)) (.vr 13)) (.bn (.dv true .i64) (.vr 13) (.vr 72)))))
              (.chk (.bn (.ia 1) (.vr 9) (.bn (.ar .add .i64) (.bn (.ar .mul .i64) (.vr 12) (.vr 1)) (.vr 13)))
              (.st 1 (.bn (.ia 1) (.vr 9) (.bn (.ar .add .i64) (.bn (.ar .mul .i64) (.vr 12) (.vr 1)) (.vr 13))) (.vr 76) []
              .nil))))))))))))))))))))
            (.chk (.bn (.ar .add .i64) (.vr 50) (.cn (.int .i64 1)))
            (.set 50 (.bn (.ar .add .i64) (.vr 50) (.cn (.int .i64 1)))
            .nil)))))))
        .nil))))
      (.chk (.bn (.ar .add .i64) (.vr 46) (.cn (.int .i64 1)))
      (.set 46 (.bn (.ar .add .i64) (.vr 46) (.cn (.int .i64 1)))
      .nil)))))))
  (.set 8 (.vr 9)
  .ret)))))))))))))))))))))))))))))))))))
def fc22 : Fc := ⟨81, s22, [(.vr 8)]⟩
theorem c22 : compF Try.prog 22 = some fc22 := by kernel_rfl

/-- kinora/kinoraref24.ScanRough · parameters 4 · 0:l 1:w 2:h 3:passes 9:n 10:out 11:m 12:at 13:x 14:y -/
def s23 : S :=
  (.set 8 (.cn (.slice none 0 0))
  (.call (some 16) 29 [(.vr 1)] []
  (.chk (.un .not (.vr 16))
  (.set 18 (.un .not (.vr 16))
  (.ifg (.vr 18) false
    (.call (some 20) 29 [(.vr 2)] []
    .nil)
    (.set 20 (.cn undef)
    .nil)
  (.chk (.gd (.vr 18) false (.un .not (.vr 20)))
  (.chk (.or (.vr 18) (.un .not (.vr 20)))
  (.set 23 (.or (.vr 18) (.un .not (.vr 20)))
  (.chk (.gd (.vr 23) false (.un .ln (.vr 0)))
  (.chk (.gd (.vr 23) false (.bn (.ar .mul .i64) (.vr 1) (.vr 2)))
  (.chk (.or (.vr 23) (.bn (.cm .neq .i64) (.un .ln (.vr 0)) (.bn (.ar .mul .i64) (.vr 1) (.vr 2))))
  (.set 30 (.or (.vr 23) (.bn (.cm .neq .i64) (.un .ln (.vr 0)) (.bn (.ar .mul .i64) (.vr 1) (.vr 2))))
  (.ite (.vr 30)
    (.set 8 (.cn (.slice none 0 0))
    .ret)
    .nil
  (.chk (.bn (.mx .i64) (.vr 3) (.cn (.int .i64 0)))
  (.set 9 (.bn (.mn .i64) (.bn (.mx .i64) (.vr 3) (.cn (.int .i64 0))) (.cn (.int .i64 7)))
  (.chk (.un .ln (.vr 0))
  (.op (some 36) (.makeSlice 24 (.tmp 35) (.tmp 35)) 24 [(35, (.un .ln (.vr 0))), (35, (.un .ln (.vr 0)))] []
  (.set 10 (.vr 36)
  (.chk (.bn (.cm .eql .i64) (.vr 9) (.cn (.int .i64 0)))
  (.set 38 (.bn (.cm .eql .i64) (.vr 9) (.cn (.int .i64 0)))
  (.ite (.vr 38)
    (.set 8 (.vr 10)
    .ret)
    .nil
  (.chk (.bd 1 1 (.cn (.int .i64 1)) (.bd 0 1 (.cn (.int .i64 1)) (.cn (.agg #[(.int .i64 0), (.int .i64 0)]))))
  (.chk (.bd 1 1 (.cn (.int .i64 8)) (.bd 0 1 (.cn (.int .i64 8)) (.cn (.agg #[(.int .i64 0), (.int .i64 0)]))))
  (.chk (.bd 1 1 (.cn (.int .i64 8)) (.bd 0 1 (.cn (.int .i64 4)) (.cn (.agg #[(.int .i64 0), (.int .i64 0)]))))
  (.chk (.bd 1 1 (.cn (.int .i64 4)) (.bd 0 1 (.cn (.int .i64 4)) (.cn (.agg #[(.int .i64 0), (.int .i64 0)]))))
  (.chk (.bd 1 1 (.cn (.int .i64 4)) (.bd 0 1 (.cn (.int .i64 2)) (.cn (.agg #[(.int .i64 0), (.int .i64 0)]))))
  (.chk (.bd 1 1 (.cn (.int .i64 2)) (.bd 0 1 (.cn (.int .i64 2)) (.cn (.agg #[(.int .i64 0), (.int .i64 0)]))))
  (.chk (.bd 1 1 (.cn (.int .i64 2)) (.bd 0 1 (.cn (.int .i64 1)) (.cn (.agg #[(.int .i64 0), (.int .i64 0)]))))
  (.chk (.bd 1 1 (.cn (.int .i64 1)) (.bd 0 1 (.cn (.int .i64 1)) (.cn (.agg #[(.int .i64 0), (.int .i64 0)]))))
  (.chk (.bd 14 2 (.bd 1 1 (.cn (.int .i64 1)) (.bd 0 1 (.cn (.int .i64 1)) (.cn (.agg #[(.int .i64 0), (.int .i64 0)])))) (.bd 12 2 (.bd 1 1 (.cn (.int .i64 2)) (.bd 0 1 (.cn (.int .i64 1)) (.cn (.agg #[(.int .i64 0), (.int .i64 0)])))) (.bd 10 2 (.bd 1 1 (.cn (.int .i64 2)) (.bd 0 1 (.cn (.int .i64 2)) (.cn (.agg #[(.int .i64 0), (.int .i64 0)])))) (.bd 8 2 (.bd 1 1 (.cn (.int .i64 4)) (.bd 0 1 (.cn (.int .i64 2)) (.cn (.agg #[(.int .i64 0), (.int .i64 0)])))) (.bd 6 2 (.bd 1 1 (.cn (.int .i64 4)) (.bd 0 1 (.cn (.int .i64 4)) (.cn (.agg #[(.int .i64 0), (.int .i64 0)])))) (.bd 4 2 (.bd 1 1 (.cn (.int .i64 8)) (.bd 0 1 (.cn (.int .i64 4)) (.cn (.agg #[(.int .i64 0), (.int .i64 0)])))) (.bd 2 2 (.bd 1 1 (.cn (.int .i64 8)) (.bd 0 1 (.cn (.int .i64 8)) (.cn (.agg #[(.int .i64 0), (.int .i64 0)])))) (.bd 0 2 (.bd 1 1 (.cn (.int .i64 1)) (.bd 0 1 (.cn (.int .i64 1)) (.cn (.agg #[(.int .i64 0), (.int .i64 0)])))) (.cn (.agg #[(.int .i64 0), (.int .i64 0), (.int .i64 0), (.int .i64 0), (.int .i64 0), (.int .i64 0), (.int .i64 0), (.int .i64 0), (.int .i64 0), (.int .i64 0), (.int .i64 0), (.int .i64 0), (.int .i64 0), (.int .i64 0), (.int .i64 0), (.int .i64 0)]))))))))))
  (.chk (.bn (.ixN 8 2) (.bd 14 2 (.bd 1 1 (.cn (.int .i64 1)) (.bd 0 1 (.cn (.int .i64 1)) (.cn (.agg #[(.int .i64 0), (.int .i64 0)])))) (.bd 12 2 (.bd 1 1 (.cn (.int .i64 2)) (.bd 0 1 (.cn (.int .i64 1)) (.cn (.agg #[(.int .i64 0), (.int .i64 0)])))) (.bd 10 2 (.bd 1 1 (.cn (.int .i64 2)) (.bd 0 1 (.cn (.int .i64 2)) (.cn (.agg #[(.int .i64 0), (.int .i64 0)])))) (.bd 8 2 (.bd 1 1 (.cn (.int .i64 4)) (.bd 0 1 (.cn (.int .i64 2)) (.cn (.agg #[(.int .i64 0), (.int .i64 0)])))) (.bd 6 2 (.bd 1 1 (.cn (.int .i64 4)) (.bd 0 1 (.cn (.int .i64 4)) (.cn (.agg #[(.int .i64 0), (.int .i64 0)])))) (.bd 4 2 (.bd 1 1 (.cn (.int .i64 8)) (.bd 0 1 (.cn (.int .i64 4)) (.cn (.agg #[(.int .i64 0), (.int .i64 0)])))) (.bd 2 2 (.bd 1 1 (.cn (.int .i64 8)) (.bd 0 1 (.cn (.int .i64 8)) (.cn (.agg #[(.int .i64 0), (.int .i64 0)])))) (.bd 0 2 (.bd 1 1 (.cn (.int .i64 1)) (.bd 0 1 (.cn (.int .i64 1)) (.cn (.agg #[(.int .i64 0), (.int .i64 0)])))) (.cn (.agg #[(.int .i64 0), (.int .i64 0), (.int .i64 0), (.int .i64 0), (.int .i64 0), (.int .i64 0), (.int .i64 0), (.int .i64 0), (.int .i64 0), (.int .i64 0), (.int .i64 0), (.int .i64 0), (.int .i64 0), (.int .i64 0), (.int .i64 0), (.int .i64 0)])))))))))) (.vr 9))
  (.op (some 11) (.alloc 56) 0 [] []
  (.st 2 (.vr 11) (.bn (.ixN 8 2) (.bd 14 2 (.bd 1 1 (.cn (.int .i64 1)) (.bd 0 1 (.cn (.int .i64 1)) (.cn (.agg #[(.int .i64 0), (.int .i64 0)])))) (.bd 12 2 (.bd 1 1 (.cn (.int .i64 2)) (.bd 0 1 (.cn (.int .i64 1)) (.cn (.agg #[(.int .i64 0), (.int .i64 0)])))) (.bd 10 2 (.bd 1 1 (.cn (.int .i64 2)) (.bd 0 1 (.cn (.int .i64 2)) (.cn (.agg #[(.int .i64 0), (.int .i64 0)])))) (.bd 8 2 (.bd 1 1 (.cn (.int .i64 4)) (.bd 0 1 (.cn (.int .i64 2)) (.cn (.agg #[(.int .i64 0), (.int .i64 0)])))) (.bd 6 2 (.bd 1 1 (.cn (.int .i64 4)) (.bd 0 1 (.cn (.int .i64 4)) (.cn (.agg #[(.int .i64 0), (.int .i64 0)])))) (.bd 4 2 (.bd 1 1 (.cn (.int .i64 8)) (.bd 0 1 (.cn (.int .i64 4)) (.cn (.agg #[(.int .i64 0), (.int .i64 0)])))) (.bd 2 2 (.bd 1 1 (.cn (.int .i64 8)) (.bd 0 1 (.cn (.int .i64 8)) (.cn (.agg #[(.int .i64 0), (.int .i64 0)])))) (.bd 0 2 (.bd 1 1 (.cn (.int .i64 1)) (.bd 0 1 (.cn (.int .i64 1)) (.cn (.agg #[(.int .i64 0), (.int .i64 0)])))) (.cn (.agg #[(.int .i64 0), (.int .i64 0), (.int .i64 0), (.int .i64 0), (.int .i64 0), (.int .i64 0), (.int .i64 0), (.int .i64 0), (.int .i64 0), (.int .i64 0), (.int .i64 0), (.int .i64 0), (.int .i64 0), (.int .i64 0), (.int .i64 0), (.int .i64 0)])))))))))) (.vr 9)) []
  (.set 12 (.cn (.int .i64 0))
  (.blk 0
    (.loop
      (.chk (.un .ln (.vr 0))
      (.chk (.bn (.cm .lss .i64) (.vr 12) (.un .ln (.vr 0)))
      (.set 54 (.bn (.cm .lss .i64) (.vr 12) (.un .ln (.vr 0)))
      (.ite (.vr 54)
        .nil
        (.exit 0)
      (.blk 1
        (.draw
        (.chk (.bn (.dv true .i64) (.vr 12) (.vr 1))
        (.chk (.bn (.dv false .i64) (.vr 12) (.vr 1))
        (.set 13 (.bn (.dv true .i64) (.vr 12) (.vr 1))
        (.set 14 (.bn (.dv false .i64) (.vr 12) (.vr 1))
        (.draw
        (.chk (.bn (.aa 2 1) (.vr 11) (.cn (.int .i64 1)))
        (.chk (.ld (.bn (.aa 2 1) (.vr 11) (.cn (.int .i64 1))))
        (.set 69 (.ld (.bn (.aa 2 1) (.vr 11) (.cn (.int .i64 1))))
        (.chk (.bn (.dv true .i64) (.vr 14) (.vr 69))
        (.chk (.bn (.ar .sub .i64) (.vr 14) (.bn (.dv true .i64) (.vr 14) (.vr 69)))
        (.chk (.bn (.ar .mul .i64) (.bn (.ar .sub .i64) (.vr 14) (.bn (.dv true .i64) (.vr 14) (.vr 69))) (.vr 1))
        (.chk (.bn (.ar .add .i64) (.bn (.ar .mul .i64) (.bn (.ar .sub .i64) (.vr 14) (.bn (.dv true .i64) (.vr 14) (.vr 69))) (.vr 1)) (.vr 13))
        (.chk (.bn (.aa 2 1) (.vr 11) (.cn (.int .i64 0)))
        (.chk (.ld (.bn (.aa 2 1) (.vr 11) (.cn (.int .i64 0))))
        (.set 78 (.ld (.bn (.aa 2 1) (.vr 11) (.cn (.int .i64 0))))
        (.chk (.bn (.dv true .i64) (.vr 13) (.vr 78))
        (.chk (.bn (.ia 1) (.vr 0) (.bn (.ar .sub .i64) (.bn (.ar .add .i64) (.bn (.ar .mul .i64) (.bn (.ar .sub .i64) (.vr 14) (.bn (.dv true .i64) (.vr 14) (.vr 69))) (.vr 1)) (.vr 13)) (.bn (.dv true .i64) (.vr 13) (.vr 78))))
        (.chk (.ld (.bn (.ia 1) (.vr 0) (.bn (.ar .sub .i64) (.bn (.ar .add .i64) (.bn (.ar .mul .i64) (.bn (.ar .sub .i64) (.vr 14) (.bn (.dv true .i64) (.vr 14) (.vr 69))) (.vr 1)) (.vr 13)) (.bn (.dv true .i64) (.vr 13) (.vr 78)))))
        (.set 82 (.ld (.bn (.ia 1) (.vr 0) (.bn (.ar .sub .i64) (.bn (.ar .add .i64) (.bn (.ar .mul .i64) (.bn (.ar .sub .i64) (.vr 14) (.bn (.dv true .i64) (.vr 14) (.vr 69))) (.vr 1)) (.vr 13)) (.bn (.dv true .i64) (.vr 13) (.vr 78)))))
        (.chk (.bn (.ia 1) (.vr 10) (.vr 12))
        (.st 1 (.bn (.ia 1) (.vr 10) (.vr 12)) (.vr 82) []
        .nil))))))))))))))))))))))
      (.chk (.bn (.ar .add .i64) (.vr 12) (.cn (.int .i64 1)))
      (.set 12 (.bn (.ar .add .i64) (.vr 12) (.cn (.int .i64 1)))
      .nil))))))))
  (.set 8 (.vr 10)
  .ret))))))))))))))))))))))))))))))))))))
def fc23 : Fc := ⟨85, s23, [(.vr 8)]⟩
theorem c23 : compF Try.prog 23 = some fc23 := by kernel_rfl

/-- kinora/scan.may · parameters 2 · 0:w 1:h -/
def s24 : S :=
  (.set 4 (.cn (.bool false))
  (.chk (.bn (.cm .geq .i64) (.vr 0) (.cn (.int .i64 1)))
  (.chk (.gd (.bn (.cm .geq .i64) (.vr 0) (.cn (.int .i64 1))) true (.bn (.cm .leq .i64) (.vr 0) (.cn (.int .i64 64))))
  (.chk (.gd (.and (.bn (.cm .geq .i64) (.vr 0) (.cn (.int .i64 1))) (.bn (.cm .leq .i64) (.vr 0) (.cn (.int .i64 64)))) true (.bn (.cm .geq .i64) (.vr 1) (.cn (.int .i64 1))))
  (.chk (.gd (.and (.and (.bn (.cm .geq .i64) (.vr 0) (.cn (.int .i64 1))) (.bn (.cm .leq .i64) (.vr 0) (.cn (.int .i64 64)))) (.bn (.cm .geq .i64) (.vr 1) (.cn (.int .i64 1)))) true (.bn (.cm .leq .i64) (.vr 1) (.cn (.int .i64 64))))
  (.set 4 (.and (.and (.and (.bn (.cm .geq .i64) (.vr 0) (.cn (.int .i64 1))) (.bn (.cm .leq .i64) (.vr 0) (.cn (.int .i64 64)))) (.bn (.cm .geq .i64) (.vr 1) (.cn (.int .i64 1)))) (.bn (.cm .leq .i64) (.vr 1) (.cn (.int .i64 64))))
  .ret))))))
def fc24 : Fc := ⟨19, s24, [(.vr 4)]⟩
theorem c24 : compF Try.prog 24 = some fc24 := by kernel_rfl

/-- kinora/scan.rows · parameters 3 · 0:w 1:h 2:turned 7:l 8:y 9:i 10:x -/
def s25 : S :=
  (.set 6 (.cn (.slice none 0 0))
  (.set 7 (.cn (.slice none 0 0))
  (.set 11 (.vr 1)
  (.set 12 (.cn (.int .i64 0))
  (.blk 0
    (.loop
      (.chk (.bn (.cm .lss .i64) (.vr 12) (.vr 11))
      (.set 13 (.bn (.cm .lss .i64) (.vr 12) (.vr 11))
      (.ite (.vr 13)
        .nil
        (.exit 0)
      (.blk 1
        (.set 8 (.vr 12)
        (.set 15 (.vr 0)
        (.set 16 (.cn (.int .i64 0))
        (.blk 2
          (.loop
            (.chk (.bn (.cm .lss .i64) (.vr 16) (.vr 15))
            (.set 17 (.bn (.cm .lss .i64) (.vr 16) (.vr 15))
            (.ite (.vr 17)
              .nil
              (.exit 2)
            (.blk 3
              (.set 9 (.vr 16)
              (.set 10 (.vr 9)
              (.chk (.gd (.vr 2) true (.bn (.dv true .i64) (.vr 8) (.cn (.int .i64 2))))
              (.chk (.and (.vr 2) (.bn (.cm .eql .i64) (.bn (.dv true .i64) (.vr 8) (.cn (.int .i64 2))) (.cn (.int .i64 1))))
              (.set 25 (.and (.vr 2) (.bn (.cm .eql .i64) (.bn (.dv true .i64) (.vr 8) (.cn (.int .i64 2))) (.cn (.int .i64 1))))
              (.ite (.vr 25)
                (.chk (.bn (.ar .sub .i64) (.vr 0) (.cn (.int .i64 1)))
                (.chk (.bn (.ar .sub .i64) (.bn (.ar .sub .i64) (.vr 0) (.cn (.int .i64 1))) (.vr 9))
                (.set 10 (.bn (.ar .sub .i64) (.bn (.ar .sub .i64) (.vr 0) (.cn (.int .i64 1))) (.vr 9))
                .nil)))
                .nil
              (.chk (.bn (.ar .mul .i64) (.vr 8) (.vr 0))
              (.chk (.bn (.ar .add .i64) (.bn (.ar .mul .i64) (.vr 8) (.vr 0)) (.vr 10))
              (.op (some 36) (.buildSlice 24 1 #[(0, (.tmp 35))]) 24 [(35, (.bn (.ar .add .i64) (.bn (.ar .mul .i64) (.vr 8) (.vr 0)) (.vr 10)))] []
              (.op (some 37) (.call ⟨(.builtin .append), #[(.tmp 30), (.tmp 36)], #[24, 24]⟩) 24 [(30, (.vr 7)), (36, (.vr 36))] []
              (.set 7 (.vr 37)
              .nil)))))))))))
            (.chk (.bn (.ar .add .i64) (.vr 16) (.cn (.int .i64 1)))
            (.set 16 (.bn (.ar .add .i64) (.vr 16) (.cn (.int .i64 1)))
            .nil)))))))
        .nil))))
      (.chk (.bn (.ar .add .i64) (.vr 12) (.cn (.int .i64 1)))
      (.set 12 (.bn (.ar .add .i64) (.vr 12) (.cn (.int .i64 1)))
      .nil)))))))
  (.set 6 (.vr 7)
  .ret))))))
def fc25 : Fc := ⟨41, s25, [(.vr 6)]⟩
theorem c25 : compF Try.prog 25 = some fc25 := by kernel_rfl

/-- kinora/scan.columns · parameters 2 · 0:w 1:h 5:l 6:x 7:y -/
def s26 : S :=
  (.set 4 (.cn (.slice none 0 0))
  (.set 5 (.cn (.slice none 0 0))
  (.set 8 (.vr 0)
  (.set 9 (.cn (.int .i64 0))
  (.blk 0
    (.loop
      (.chk (.bn (.cm .lss .i64) (.vr 9) (.vr 8))
      (.set 10 (.bn (.cm .lss .i64) (.vr 9) (.vr 8))
      (.ite (.vr 10)
        .nil
        (.exit 0)
      (.blk 1
        (.set 6 (.vr 9)
        (.set 12 (.vr 1)
        (.set 13 (.cn (.int .i64 0))
        (.blk 2
          (.loop
            (.chk (.bn (.cm .lss .i64) (.vr 13) (.vr 12))
            (.set 14 (.bn (.cm .lss .i64) (.vr 13) (.vr 12))
            (.ite (.vr 14)
              .nil
              (.exit 2)
            (.blk 3
              (.set 7 (.vr 13)
              (.chk (.bn (.ar .mul .i64) (.vr 7) (.vr 0))
              (.chk (.bn (.ar .add .i64) (.bn (.ar .mul .i64) (.vr 7) (.vr 0)) (.vr 6))
              (.op (some 22) (.buildSlice 24 1 #[(0, (.tmp 21))]) 24 [(21, (.bn (.ar .add .i64) (.bn (.ar .mul .i64) (.vr 7) (.vr 0)) (.vr 6)))] []
              (.op (some 23) (.call ⟨(.builtin .append), #[(.tmp 16), (.tmp 22)], #[24, 24]⟩) 24 [(16, (.vr 5)), (22, (.vr 22))] []
              (.set 5 (.vr 23)
              .nil))))))
            (.chk (.bn (.ar .add .i64) (.vr 13) (.cn (.int .i64 1)))
            (.set 13 (.bn (.ar .add .i64) (.vr 13) (.cn (.int .i64 1)))
            .nil)))))))
        .nil))))
      (.chk (.bn (.ar .add .i64) (.vr 9) (.cn (.int .i64 1)))
      (.set 9 (.bn (.ar .add .i64) (.vr 9) (.cn (.int .i64 1)))
      .nil)))))))
  (.set 4 (.vr 5)
  .ret))))))
def fc26 : Fc := ⟨27, s26, [(.vr 4)]⟩
theorem c26 : compF Try.prog 26 = some fc26 := by kernel_rfl

/-- kinora/scan.diagonals · parameters 2 · 0:w 1:h 5:l 6:sum 7:x 8:y -/
def s27 : S :=
  (.set 4 (.cn (.slice none 0 0))
  (.set 5 (.cn (.slice none 0 0))
  (.chk (.bn (.ar .add .i64) (.vr 0) (.vr 1))
  (.set 12 (.bn (.ar .sub .i64) (.bn (.ar .add .i64) (.vr 0) (.vr 1)) (.cn (.int .i64 1)))
  (.set 13 (.cn (.int .i64 0))
  (.blk 0
    (.loop
      (.chk (.bn (.cm .lss .i64) (.vr 13) (.vr 12))
      (.set 14 (.bn (.cm .lss .i64) (.vr 13) (.vr 12))
      (.ite (.vr 14)
        .nil
        (.exit 0)
      (.blk 1
        (.set 6 (.vr 13)
        (.set 16 (.vr 0)
        (.set 17 (.cn (.int .i64 0))
        (.blk 2
          (.loop
            (.chk (.bn (.cm .lss .i64) (.vr 17) (.vr 16))
            (.set 18 (.bn (.cm .lss .i64) (.vr 17) (.vr 16))
            (.ite (.vr 18)
              .nil
              (.exit 2)
            (.blk 3
              (.set 7 (.vr 17)
              (.chk (.bn (.ar .sub .i64) (.vr 6) (.vr 7))
              (.set 8 (.bn (.ar .sub .i64) (.vr 6) (.vr 7))
              (.chk (.bn (.cm .geq .i64) (.vr 8) (.cn (.int .i64 0)))
              (.chk (.gd (.bn (.cm .geq .i64) (.vr 8) (.cn (.int .i64 0))) true (.bn (.cm .lss .i64) (.vr 8) (.vr 1)))
              (.set 29 (.and (.bn (.cm .geq .i64) (.vr 8) (.cn (.int .i64 0))) (.bn (.cm .lss .i64) (.vr 8) (.vr 1)))
              (.ite (.vr 29)
                (.chk (.bn (.ar .mul .i64) (.vr 8) (.vr 0))
                (.chk (.bn (.ar .add .i64) (.bn (.ar .mul .i64) (.vr 8) (.vr 0)) (.vr 7))
                (.op (some 36) (.buildSlice 24 1 #[(0, (.tmp 35))]) 24 [(35, (.bn (.ar .add .i64) (.bn (.ar .mul .i64) (.vr 8) (.vr 0)) (.vr 7)))] []
                (.op (some 37) (.call ⟨(.builtin .append), #[(.tmp 30), (.tmp 36)], #[24, 24]⟩) 24 [(30, (.vr 5)), (36, (.vr 36))] []
                (.set 5 (.vr 37)
                .nil)))))
                .nil
              .nil)))))))
            (.chk (.bn (.ar .add .i64) (.vr 17) (.cn (.int .i64 1)))
            (.set 17 (.bn (.ar .add .i64) (.vr 17) (.cn (.int .i64 1)))
            .nil)))))))
        .nil))))
      (.chk (.bn (.ar .add .i64) (.vr 13) (.cn (.int .i64 1)))
      (.set 13 (.bn (.ar .add .i64) (.vr 13) (.cn (.int .i64 1)))
      .nil)))))))
  (.set 4 (.vr 5)
  .ret)))))))
def fc27 : Fc := ⟨41, s27, [(.vr 4)]⟩
theorem c27 : compF Try.prog 27 = some fc27 := by kernel_rfl

/-- kinora/scan.digits · parameters 2 · 0:w 1:h 5:l 6:n 7:x 8:y 9:i -/
def s28 : S :=
  (.set 4 (.cn (.slice none 0 0))
  (.set 5 (.cn (.slice none 0 0))
  (.set 10 (.cn (.int .i64 0))
  (.blk 0
    (.loop
      (.chk (.bn (.cm .lss .i64) (.vr 10) (.cn (.int .i64 4096)))
      (.set 11 (.bn (.cm .lss .i64) (.vr 10) (.cn (.int .i64 4096)))
      (.ite (.vr 11)
        .nil
        (.exit 0)
      (.blk 1
        (.set 6 (.vr 10)
        (.set 7 (.cn (.int .i64 0))
        (.set 8 (.cn (.int .i64 0))
        (.set 13 (.cn (.int .i64 0))
        (.blk 2
          (.loop
            (.chk (.bn (.cm .lss .i64) (.vr 13) (.cn (.int .i64 6)))
            (.set 14 (.bn (.cm .lss .i64) (.vr 13) (.cn (.int .i64 6)))
            (.ite (.vr 14)
              .nil
              (.exit 2)
            (.blk 3
              (.set 9 (.vr 13)
              (.chk (.bn (.ar .mul .i64) (.cn (.int .i64 2)) (.vr 9))
              (.chk (.bn (.sh false .i64) (.vr 6) (.bn (.ar .mul .i64) (.cn (.int .i64 2)) (.vr 9)))
              (.chk (.bn (.sh true .i64) (.bn (.bt .and .i64) (.bn (.sh false .i64) (.vr 6) (.bn (.ar .mul .i64) (.cn (.int .i64 2)) (.vr 9))) (.cn (.int .i64 1))) (.vr 9))
              (.chk (.bn (.bt .or .i64) (.vr 7) (.bn (.sh true .i64) (.bn (.bt .and .i64) (.bn (.sh false .i64) (.vr 6) (.bn (.ar .mul .i64) (.cn (.int .i64 2)) (.vr 9))) (.cn (.int .i64 1))) (.vr 9)))
              (.set 7 (.bn (.bt .or .i64) (.vr 7) (.bn (.sh true .i64) (.bn (.bt .and .i64) (.bn (.sh false .i64) (.vr 6) (.bn (.ar .mul .i64) (.cn (.int .i64 2)) (.vr 9))) (.cn (.int .i64 1))) (.vr 9)))
              (.chk (.bn (.ar .mul .i64) (.cn (.int .i64 2)) (.vr 9))
              (.chk (.bn (.sh false .i64) (.vr 6) (.bn (.ar .add .i64) (.bn (.ar .mul .i64) (.cn (.int .i64 2)) (.vr 9)) (.cn (.int .i64 1))))
              (.chk (.bn (.sh true .i64) (.bn (.bt .and .i64) (.bn (.sh false .i64) (.vr 6) (.bn (.ar .add .i64) (.bn (.ar .mul .i64) (.cn (.int .i64 2)) (.vr 9)) (.cn (.int .i64 1)))) (.cn (.int .i64 1))) (.vr 9))
              (.chk (.bn (.bt .or .i64) (.vr 8) (.bn (.sh true .i64) (.bn (.bt .and .i64) (.bn (.sh false .i64) (.vr 6) (.bn (.ar .add .i64) (.bn (.ar .mul .i64) (.cn (.int .i64 2)) (.vr 9)) (.cn (.int .i64 1)))) (.cn (.int .i64 1))) (.vr 9)))
              (.set 8 (.bn (.bt .or .i64) (.vr 8) (.bn (.sh true .i64) (.bn (.bt .and .i64) (.bn (.sh false .i64) (.vr 6) (.bn (.ar .add .i64) (.bn (.ar .mul .i64) (.cn (.int .i64 2)) (.vr 9)) (.cn (.int .i64 1)))) (.cn (.int .i64 1))) (.vr 9)))
              .nil)))))))))))
            (.chk (.bn (.ar .add .i64) (.vr 13) (.cn (.int .i64 1)))
            (.set 13 (.bn (.ar .add .i64) (.vr 13) (.cn (.int .i64 1)))
            .nil)))))))
        (.chk (.bn (.cm .lss .i64) (.vr 7) (.vr 0))
        (.chk (.gd (.bn (.cm .lss .i64) (.vr 7) (.vr 0)) true (.bn (.cm .lss .i64) (.vr 8) (.vr 1)))
        (.set 43 (.and (.bn (.cm .lss .i64) (.vr 7) (.vr 0)) (.bn (.cm .lss .i64) (.vr 8) (.vr 1)))
        (.ite (.vr 43)
          (.chk (.bn (.ar .mul .i64) (.vr 8) (.vr 0))
          (.chk (.bn (.ar .add .i64) (.bn (.ar .mul .i64) (.vr 8) (.vr 0)) (.vr 7))
          (.op (some 50) (.buildSlice 24 1 #[(0, (.tmp 49))]) 24 [(49, (.bn (.ar .add .i64) (.bn (.ar .mul .i64) (.vr 8) (.vr 0)) (.vr 7)))] []
          (.op (some 51) (.call ⟨(.builtin .append), #[(.tmp 44), (.tmp 50)], #[24, 24]⟩) 24 [(44, (.vr 5)), (50, (.vr 50))] []
          (.set 5 (.vr 51)
          .nil)))))
          .nil
        .nil)))))))))
      (.chk (.bn (.ar .add .i64) (.vr 10) (.cn (.int .i64 1)))
      (.set 10 (.bn (.ar .add .i64) (.vr 10) (.cn (.int .i64 1)))
      .nil)))))))
  (.set 4 (.vr 5)
  .ret)))))
def fc28 : Fc := ⟨54, s28, [(.vr 4)]⟩
theorem c28 : compF Try.prog 28 = some fc28 := by kernel_rfl

/-- kinora/kinoraref24.Side · parameters 1 · 0:n -/
def s29 : S :=
  (.set 2 (.cn (.bool false))
  (.chk (.bn (.cm .geq .i64) (.vr 0) (.cn (.int .i64 1)))
  (.chk (.gd (.bn (.cm .geq .i64) (.vr 0) (.cn (.int .i64 1))) true (.bn (.cm .leq .i64) (.vr 0) (.cn (.int .i64 64))))
  (.set 2 (.and (.bn (.cm .geq .i64) (.vr 0) (.cn (.int .i64 1))) (.bn (.cm .leq .i64) (.vr 0) (.cn (.int .i64 64))))
  .ret))))
def fc29 : Fc := ⟨9, s29, [(.vr 2)]⟩
theorem c29 : compF Try.prog 29 = some fc29 := by kernel_rfl

/-- kinora/kinoraref24.byTurns · parameters 2 · 0:w 1:h 5:where 6:at 7:l 8:i -/
def s30 : S :=
  (.set 4 (.cn (.slice none 0 0))
  (.op (some 9) (.makeSlice 24 (.const (.int .i64 4096)) (.const (.int .i64 4096))) 24 [] []
  (.set 5 (.vr 9)
  (.set 6 (.cn (.int .i64 0))
  (.blk 0
    (.loop
      (.chk (.bn (.ar .mul .i64) (.vr 0) (.vr 1))
      (.chk (.bn (.cm .lss .i64) (.vr 6) (.bn (.ar .mul .i64) (.vr 0) (.vr 1)))
      (.set 14 (.bn (.cm .lss .i64) (.vr 6) (.bn (.ar .mul .i64) (.vr 0) (.vr 1)))
      (.ite (.vr 14)
        .nil
        (.exit 0)
      (.blk 1
        (.draw
        (.chk (.bn (.dv true .i64) (.vr 6) (.vr 0))
        (.chk (.bn (.dv false .i64) (.vr 6) (.vr 0))
        (.chk (.bn (.ar .add .i64) (.vr 6) (.cn (.int .i64 1)))
        (.call (some 24) 36 [(.bn (.dv true .i64) (.vr 6) (.vr 0)), (.bn (.dv false .i64) (.vr 6) (.vr 0))] []
        (.chk (.bn (.ia 1) (.vr 5) (.vr 24))
        (.st 1 (.bn (.ia 1) (.vr 5) (.vr 24)) (.bn (.ar .add .i64) (.vr 6) (.cn (.int .i64 1))) []
        .nil)))))))
      (.chk (.bn (.ar .add .i64) (.vr 6) (.cn (.int .i64 1)))
      (.set 6 (.bn (.ar .add .i64) (.vr 6) (.cn (.int .i64 1)))
      .nil))))))))
  (.set 7 (.cn (.slice none 0 0))
  (.set 8 (.cn (.int .i64 0))
  (.blk 2
    (.loop
      (.chk (.un .ln (.vr 5))
      (.chk (.bn (.cm .lss .i64) (.vr 8) (.un .ln (.vr 5)))
      (.set 31 (.bn (.cm .lss .i64) (.vr 8) (.un .ln (.vr 5)))
      (.ite (.vr 31)
        .nil
        (.exit 2)
      (.blk 3
        (.chk (.bn (.ia 1) (.vr 5) (.vr 8))
        (.chk (.ld (.bn (.ia 1) (.vr 5) (.vr 8)))
        (.chk (.bn (.cm .gtr .i64) (.ld (.bn (.ia 1) (.vr 5) (.vr 8))) (.cn (.int .i64 0)))
        (.set 38 (.bn (.cm .gtr .i64) (.ld (.bn (.ia 1) (.vr 5) (.vr 8))) (.cn (.int .i64 0)))
        (.ite (.vr 38)
          (.chk (.bn (.ia 1) (.vr 5) (.vr 8))
          (.chk (.ld (.bn (.ia 1) (.vr 5) (.vr 8)))
          (.set 43 (.ld (.bn (.ia 1) (.vr 5) (.vr 8)))
          (.chk (.bn (.ar .sub .i64) (.vr 43) (.cn (.int .i64 1)))
          (.op (some 45) (.buildSlice 24 1 #[(0, (.tmp 44))]) 24 [(44, (.bn (.ar .sub .i64) (.vr 43) (.cn (.int .i64 1))))] []
          (.op (some 46) (.call ⟨(.builtin .append), #[(.tmp 39), (.tmp 45)], #[24, 24]⟩) 24 [(39, (.vr 7)), (45, (.vr 45))] []
          (.set 7 (.vr 46)
          .nil)))))))
          .nil
        .nil)))))
      (.chk (.bn (.ar .add .i64) (.vr 8) (.cn (.int .i64 1)))
      (.set 8 (.bn (.ar .add .i64) (.vr 8) (.cn (.int .i64 1)))
      .nil))))))))
  (.set 4 (.vr 7)
  .ret)))))))))
def fc30 : Fc := ⟨48, s30, [(.vr 4)]⟩
theorem c30 : compF Try.prog 30 = some fc30 := by kernel_rfl

/-- kinora/kinoraref24.pass · parameters 1 · 0:i 6:l -/
def s31 : S :=
  (.set 2 (.cn (.int .i64 0))
  (.set 3 (.cn (.int .i64 0))
  (.set 4 (.cn (.int .i64 0))
  (.set 5 (.cn (.int .i64 0))
  (.chk (.bd 3 1 (.cn (.int .i64 0)) (.bd 2 1 (.cn (.int .i64 8)) (.bd 1 1 (.cn (.int .i64 0)) (.bd 0 1 (.cn (.int .i64 8)) (.cn (.agg #[(.int .i64 0), (.int .i64 0), (.int .i64 0), (.int .i64 0)]))))))
  (.chk (.bd 3 1 (.cn (.int .i64 0)) (.bd 2 1 (.cn (.int .i64 8)) (.bd 1 1 (.cn (.int .i64 4)) (.bd 0 1 (.cn (.int .i64 8)) (.cn (.agg #[(.int .i64 0), (.int .i64 0), (.int .i64 0), (.int .i64 0)]))))))
  (.chk (.bd 3 1 (.cn (.int .i64 4)) (.bd 2 1 (.cn (.int .i64 8)) (.bd 1 1 (.cn (.int .i64 0)) (.bd 0 1 (.cn (.int .i64 4)) (.cn (.agg #[(.int .i64 0), (.int .i64 0), (.int .i64 0), (.int .i64 0)]))))))
  (.chk (.bd 3 1 (.cn (.int .i64 0)) (.bd 2 1 (.cn (.int .i64 4)) (.bd 1 1 (.cn (.int .i64 2)) (.bd 0 1 (.cn (.int .i64 4)) (.cn (.agg #[(.int .i64 0), (.int .i64 0), (.int .i64 0), (.int .i64 0)]))))))
  (.chk (.bd 3 1 (.cn (.int .i64 2)) (.bd 2 1 (.cn (.int .i64 4)) (.bd 1 1 (.cn (.int .i64 0)) (.bd 0 1 (.cn (.int .i64 2)) (.cn (.agg #[(.int .i64 0), (.int .i64 0), (.int .i64 0), (.int .i64 0)]))))))
  (.chk (.bd 3 1 (.cn (.int .i64 0)) (.bd 2 1 (.cn (.int .i64 2)) (.bd 1 1 (.cn (.int .i64 1)) (.bd 0 1 (.cn (.int .i64 2)) (.cn (.agg #[(.int .i64 0), (.int .i64 0), (.int .i64 0), (.int .i64 0)]))))))
  (.chk (.bd 3 1 (.cn (.int .i64 1)) (.bd 2 1 (.cn (.int .i64 2)) (.bd 1 1 (.cn (.int .i64 0)) (.bd 0 1 (.cn (.int .i64 1)) (.cn (.agg #[(.int .i64 0), (.int .i64 0), (.int .i64 0), (.int .i64 0)]))))))
  (.chk (.bd 24 4 (.bd 3 1 (.cn (.int .i64 1)) (.bd 2 1 (.cn (.int .i64 2)) (.bd 1 1 (.cn (.int .i64 0)) (.bd 0 1 (.cn (.int .i64 1)) (.cn (.agg #[(.int .i64 0), (.int .i64 0), (.int .i64 0), (.int .i64 0)])))))) (.bd 20 4 (.bd 3 1 (.cn (.int .i64 0)) (.bd 2 1 (.cn (.int .i64 2)) (.bd 1 1 (.cn (.int .i64 1)) (.bd 0 1 (.cn (.int .i64 2)) (.cn (.agg #[(.int .i64 0), (.int .i64 0), (.int .i64 0), (.int .i64 0)])))))) (.bd 16 4 (.bd 3 1 (.cn (.int .i64 2)) (.bd 2 1 (.cn (.int .i64 4)) (.bd 1 1 (.cn (.int .i64 0)) (.bd 0 1 (.cn (.int .i64 2)) (.cn (.agg #[(.int .i64 0), (.int .i64 0), (.int .i64 0), (.int .i64 0)])))))) (.bd 12 4 (.bd 3 1 (.cn (.int .i64 0)) (.bd 2 1 (.cn (.int .i64 4)) (.bd 1 1 (.cn (.int .i64 2)) (.bd 0 1 (.cn (.int .i64 4)) (.cn (.agg #[(.int .i64 0), (.int .i64 0), (.int .i64 0), (.int .i64 0)])))))) (.bd 8 4 (.bd 3 1 (.cn (.int .i64 4)) (.bd 2 1 (.cn (.int .i64 8)) (.bd 1 1 (.cn (.int .i64 0)) (.bd 0 1 (.cn (.int .i64 4)) (.cn (.agg #[(.int .i64 0), (.int .i64 0), (.int .i64 0), (.int .i64 0)])))))) (.bd 4 4 (.bd 3 1 (.cn (.int .i64 0)) (.bd 2 1 (.cn (.int .i64 8)) (.bd 1 1 (.cn (.int .i64 4)) (.bd 0 1 (.cn (.int .i64 8)) (.cn (.agg #[(.int .i64 0), (.int .i64 0), (.int .i64 0), (.int .i64 0)])))))) (.bd 0 4 (.bd 3 1 (.cn (.int .i64 0)) (.bd 2 1 (.cn (.int .i64 8)) (.bd 1 1 (.cn (.int .i64 0)) (.bd 0 1 (.cn (.int .i64 8)) (.cn (.agg #[(.int .i64 0), (.int .i64 0), (.int .i64 0), (.int .i64 0)])))))) (.cn (.agg #[(.int .i64 0), (.int .i64 0), (.int .i64 0), (.int .i64 0), (.int .i64 0), (.int .i64 0), (.int .i64 0), (.int .i64 0), (.int .i64 0), (.int .i64 0), (.int .i64 0), (.int .i64 0), (.int .i64 0), (.int .i64 0), (.int .i64 0), (.int .i64 0), (.int .i64 0), (.int .i64 0), (.int .i64 0), (.int .i64 0), (.int .i64 0), (.int .i64 0), (.int .i64 0), (.int .i64 0), (.int .i64 0), (.int .i64 0), (.int .i64 0), (.int .i64 0)])))))))))
  (.chk (.bn (.ixN 7 4) (.bd 24 4 (.bd 3 1 (.cn (.int .i64 1)) (.bd 2 1 (.cn (.int .i64 2)) (.bd 1 1 (.cn (.int .i64 0)) (.bd 0 1 (.cn (.int .i64 1)) (.cn (.agg #[(.int .i64 0), (.int .i64 0), (.int .i64 0), (.int .i64 0)])))))) (.bd 20 4 (.bd 3 1 (.cn (.int .i64 0)) (.bd 2 1 (.cn (.int .i64 2)) (.bd 1 1 (.cn (.int .i64 1)) (.bd 0 1 (.cn (.int .i64 2)) (.cn (.agg #[(.int .i64 0), (.int .i64 0), (.int .i64 0), (.int .i64 0)])))))) (.bd 16 4 (.bd 3 1 (.cn (.int .i64 2)) (.bd 2 1 (.cn (.int .i64 4)) (.bd 1 1 (.cn (.int .i64 0)) (.bd 0 1 (.cn (.int .i64 2)) (.cn (.agg #[(.int .i64 0), (.int .i64 0), (.int .i64 0), (.int .i64 0)])))))) (.bd 12 4 (.bd 3 1 (.cn (.int .i64 0)) (.bd 2 1 (.cn (.int .i64 4)) (.bd 1 1 (.cn (.int .i64 2)) (.bd 0 1 (.cn (.int .i64 4)) (.cn (.agg #[(.int .i64 0), (.int .i64 0), (.int .i64 0), (.int .i64 0)])))))) (.bd 8 4 (.bd 3 1 (.cn (.int .i64 4)) (.bd 2 1 (.cn (.int .i64 8)) (.bd 1 1 (.cn (.int .i64 0)) (.bd 0 1 (.cn (.int .i64 4)) (.cn (.agg #[(.int .i64 0), (.int .i64 0), (.int .i64 0), (.int .i64 0)])))))) (.bd 4 4 (.bd 3 1 (.cn (.int .i64 0)) (.bd 2 1 (.cn (.int .i64 8)) (.bd 1 1 (.cn (.int .i64 4)) (.bd 0 1 (.cn (.int .i64 8)) (.cn (.agg #[(.int .i64 0), (.int .i64 0), (.int .i64 0), (.int .i64 0)])))))) (.bd 0 4 (.bd 3 1 (.cn (.int .i64 0)) (.bd 2 1 (.cn (.int .i64 8)) (.bd 1 1 (.cn (.int .i64 0)) (.bd 0 1 (.cn (.int .i64 8)) (.cn (.agg #[(.int .i64 0), (.int .i64 0), (.int .i64 0), (.int .i64 0)])))))) (.cn (.agg #[(.int .i64 0), (.int .i64 0), (.int .i64 0), (.int .i64 0), (.int .i64 0), (.int .i64 0), (.int .i64 0), (.int .i64 0), (.int .i64 0), (.int .i64 0), (.int .i64 0), (.int .i64 0), (.int .i64 0), (.int .i64 0), (.int .i64 0), (.int .i64 0), (.int .i64 0), (.int .i64 0), (.int .i64 0), (.int .i64 0), (.int .i64 0), (.int .i64 0), (.int .i64 0), (.int .i64 0), (.int .i64 0), (.int .i64 0), (.int .i64 0), (.int .i64 0)]))))))))) (.vr 0))
  (.op (some 6) (.alloc 45) 0 [] []
  (.st 4 (.vr 6) (.bn (.ixN 7 4) (.bd 24 4 (.bd 3 1 (.cn (.int .i64 1)) (.bd 2 1 (.cn (.int .i64 2)) (.bd 1 1 (.cn (.int .i64 0)) (.bd 0 1 (.cn (.int .i64 1)) (.cn (.agg #[(.int .i64 0), (.int .i64 0), (.int .i64 0), (.int .i64 0)])))))) (.bd 20 4 (.bd 3 1 (.cn (.int .i64 0)) (.bd 2 1 (.cn (.int .i64 2)) (.bd 1 1 (.cn (.int .i64 1)) (.bd 0 1 (.cn (.int .i64 2)) (.cn (.agg #[(.int .i64 0), (.int .i64 0), (.int .i64 0), (.int .i64 0)])))))) (.bd 16 4 (.bd 3 1 (.cn (.int .i64 2)) (.bd 2 1 (.cn (.int .i64 4)) (.bd 1 1 (.cn (.int .i64 0)) (.bd 0 1 (.cn (.int .i64 2)) (.cn (.agg #[(.int .i64 0), (.int .i64 0), (.int .i64 0), (.int .i64 0)])))))) (.bd 12 4 (.bd 3 1 (.cn (.int .i64 0)) (.bd 2 1 (.cn (.int .i64 4)) (.bd 1 1 (.cn (.int .i64 2)) (.bd 0 1 (.cn (.int .i64 4)) (.cn (.agg #[(.int .i64 0), (.int .i64 0), (.int .i64 0), (.int .i64 0)])))))) (.bd 8 4 (.bd 3 1 (.cn (.int .i64 4)) (.bd 2 1 (.cn (.int .i64 8)) (.bd 1 1 (.cn (.int .i64 0)) (.bd 0 1 (.cn (.int .i64 4)) (.cn (.agg #[(.int .i64 0), (.int .i64 0), (.int .i64 0), (.int .i64 0)])))))) (.bd 4 4 (.bd 3 1 (.cn (.int .i64 0)) (.bd 2 1 (.cn (.int .i64 8)) (.bd 1 1 (.cn (.int .i64 4)) (.bd 0 1 (.cn (.int .i64 8)) (.cn (.agg #[(.int .i64 0), (.int .i64 0), (.int .i64 0), (.int .i64 0)])))))) (.bd 0 4 (.bd 3 1 (.cn (.int .i64 0)) (.bd 2 1 (.cn (.int .i64 8)) (.bd 1 1 (.cn (.int .i64 0)) (.bd 0 1 (.cn (.int .i64 8)) (.cn (.agg #[(.int .i64 0), (.int .i64 0), (.int .i64 0), (.int .i64 0)])))))) (.cn (.agg #[(.int .i64 0), (.int .i64 0), (.int .i64 0), (.int .i64 0), (.int .i64 0), (.int .i64 0), (.int .i64 0), (.int .i64 0), (.int .i64 0), (.int .i64 0), (.int .i64 0), (.int .i64 0), (.int .i64 0), (.int .i64 0), (.int .i64 0), (.int .i64 0), (.int .i64 0), (.int .i64 0), (.int .i64 0), (.int .i64 0), (.int .i64 0), (.int .i64 0), (.int .i64 0), (.int .i64 0), (.int .i64 0), (.int .i64 0), (.int .i64 0), (.int .i64 0)]))))))))) (.vr 0)) []
  (.draw
  (.chk (.bn (.aa 4 1) (.vr 6) (.cn (.int .i64 0)))
  (.chk (.ld (.bn (.aa 4 1) (.vr 6) (.cn (.int .i64 0))))
  (.chk (.bn (.aa 4 1) (.vr 6) (.cn (.int .i64 1)))
  (.chk (.ld (.bn (.aa 4 1) (.vr 6) (.cn (.int .i64 1))))
  (.chk (.bn (.aa 4 1) (.vr 6) (.cn (.int .i64 2)))
  (.chk (.ld (.bn (.aa 4 1) (.vr 6) (.cn (.int .i64 2))))
  (.chk (.bn (.aa 4 1) (.vr 6) (.cn (.int .i64 3)))
  (.chk (.ld (.bn (.aa 4 1) (.vr 6) (.cn (.int .i64 3))))
  (.set 2 (.ld (.bn (.aa 4 1) (.vr 6) (.cn (.int .i64 0))))
  (.set 3 (.ld (.bn (.aa 4 1) (.vr 6) (.cn (.int .i64 1))))
  (.set 4 (.ld (.bn (.aa 4 1) (.vr 6) (.cn (.int .i64 2))))
  (.set 5 (.ld (.bn (.aa 4 1) (.vr 6) (.cn (.int .i64 3))))
  .ret))))))))))))))))))))))))))))
def fc31 : Fc := ⟨25, s31, [(.vr 2), (.vr 3), (.vr 4), (.vr 5)]⟩
theorem c31 : compF Try.prog 31 = some fc31 := by kernel_rfl

/-- kinora/kinoraref24.ScanTake · parameters 2 · 0:l 1:order 6:out 7:i -/
def s32 : S :=
  (.set 4 (.cn (.slice none 0 0))
  (.set 5 (.cn (.bool false))
  (.chk (.un .ln (.vr 0))
  (.call (some 11) 37 [(.vr 1), (.un .ln (.vr 0))] []
  (.chk (.un .not (.vr 11))
  (.set 12 (.un .not (.vr 11))
  (.ite (.vr 12)
    (.set 4 (.cn (.slice none 0 0))
    (.set 5 (.cn (.bool false))
    .ret))
    .nil
  (.set 6 (.cn (.slice none 0 0))
  (.set 7 (.cn (.int .i64 0))
  (.blk 0
    (.loop
      (.chk (.un .ln (.vr 1))
      (.chk (.bn (.cm .lss .i64) (.vr 7) (.un .ln (.vr 1)))
      (.set 16 (.bn (.cm .lss .i64) (.vr 7) (.un .ln (.vr 1)))
      (.ite (.vr 16)
        .nil
        (.exit 0)
      (.blk 1
        (.chk (.bn (.ia 1) (.vr 1) (.vr 7))
        (.chk (.ld (.bn (.ia 1) (.vr 1) (.vr 7)))
        (.set 24 (.ld (.bn (.ia 1) (.vr 1) (.vr 7)))
        (.chk (.bn (.ia 1) (.vr 0) (.vr 24))
        (.chk (.ld (.bn (.ia 1) (.vr 0) (.vr 24)))
        (.set 26 (.ld (.bn (.ia 1) (.vr 0) (.vr 24)))
        (.op (some 27) (.buildSlice 24 1 #[(0, (.tmp 26))]) 24 [(26, (.vr 26))] []
        (.op (some 28) (.call ⟨(.builtin .append), #[(.tmp 19), (.tmp 27)], #[24, 24]⟩) 24 [(19, (.vr 6)), (27, (.vr 27))] []
        (.set 6 (.vr 28)
        .nil)))))))))
      (.chk (.bn (.ar .add .i64) (.vr 7) (.cn (.int .i64 1)))
      (.set 7 (.bn (.ar .add .i64) (.vr 7) (.cn (.int .i64 1)))
      .nil))))))))
  (.set 4 (.vr 6)
  (.set 5 (.cn (.bool true))
  .ret))))))))))))
def fc32 : Fc := ⟨30, s32, [(.vr 4), (.vr 5)]⟩
theorem c32 : compF Try.prog 32 = some fc32 := by kernel_rfl

/-- kinora/kinoraref24.ScanLay · parameters 2 · 0:l 1:order 6:out 7:i -/
def s33 : S :=
  (.set 4 (.cn (.slice none 0 0))
  (.set 5 (.cn (.bool false))
  (.chk (.un .ln (.vr 0))
  (.call (some 11) 37 [(.vr 1), (.un .ln (.vr 0))] []
  (.chk (.un .not (.vr 11))
  (.set 12 (.un .not (.vr 11))
  (.ite (.vr 12)
    (.set 4 (.cn (.slice none 0 0))
    (.set 5 (.cn (.bool false))
    .ret))
    .nil
  (.chk (.un .ln (.vr 0))
  (.op (some 15) (.makeSlice 24 (.tmp 14) (.tmp 14)) 24 [(14, (.un .ln (.vr 0))), (14, (.un .ln (.vr 0)))] []
  (.set 6 (.vr 15)
  (.set 7 (.cn (.int .i64 0))
  (.blk 0
    (.loop
      (.chk (.un .ln (.vr 1))
      (.chk (.bn (.cm .lss .i64) (.vr 7) (.un .ln (.vr 1)))
      (.set 19 (.bn (.cm .lss .i64) (.vr 7) (.un .ln (.vr 1)))
      (.ite (.vr 19)
        .nil
        (.exit 0)
      (.blk 1
        (.draw
        (.chk (.bn (.ia 1) (.vr 1) (.vr 7))
        (.chk (.ld (.bn (.ia 1) (.vr 1) (.vr 7)))
        (.set 26 (.ld (.bn (.ia 1) (.vr 1) (.vr 7)))
        (.chk (.bn (.ia 1) (.vr 0) (.vr 7))
        (.chk (.ld (.bn (.ia 1) (.vr 0) (.vr 7)))
        (.set 30 (.ld (.bn (.ia 1) (.vr 0) (.vr 7)))
        (.chk (.bn (.ia 1) (.vr 6) (.vr 26))
        (.st 1 (.bn (.ia 1) (.vr 6) (.vr 26)) (.vr 30) []
        .nil)))))))))
      (.chk (.bn (.ar .add .i64) (.vr 7) (.cn (.int .i64 1)))
      (.set 7 (.bn (.ar .add .i64) (.vr 7) (.cn (.int .i64 1)))
      .nil))))))))
  (.set 4 (.vr 6)
  (.set 5 (.cn (.bool true))
  .ret))))))))))))))
def fc33 : Fc := ⟨33, s33, [(.vr 4), (.vr 5)]⟩
theorem c33 : compF Try.prog 33 = some fc33 := by kernel_rfl

/-- (*kinora/kinorakeep2.row).next · parameters 2 · 0:r 1:n -/
def s34 : S :=
  (.set 4 (.cn (.int .i64 0))
  (.chk (.un .nck (.vr 0))
  (.chk (.un (.fa 0) (.un .nck (.vr 0)))
  (.chk (.ld (.un (.fa 0) (.un .nck (.vr 0))))
  (.set 9 (.ld (.un (.fa 0) (.un .nck (.vr 0))))
  (.chk (.bn (.ar .mul .i64) (.vr 9) (.cn (.int .i64 1103515245)))
  (.chk (.un .nck (.vr 0))
  (.chk (.un (.fa 0) (.un .nck (.vr 0)))
  (.st 1 (.un (.fa 0) (.un .nck (.vr 0))) (.bn (.bt .and .i64) (.bn (.ar .add .i64) (.bn (.ar .mul .i64) (.vr 9) (.cn (.int .i64 1103515245))) (.cn (.int .i64 12345))) (.cn (.int .i64 2147483647))) []
  (.chk (.un .nck (.vr 0))
  (.chk (.un (.fa 0) (.un .nck (.vr 0)))
  (.chk (.ld (.un (.fa 0) (.un .nck (.vr 0))))
  (.chk (.bn (.sh false .i64) (.ld (.un (.fa 0) (.un .nck (.vr 0)))) (.cn (.int .u64 8)))
  (.chk (.bn (.dv true .i64) (.bn (.sh false .i64) (.ld (.un (.fa 0) (.un .nck (.vr 0)))) (.cn (.int .u64 8))) (.vr 1))
  (.set 4 (.bn (.dv true .i64) (.bn (.sh false .i64) (.ld (.un (.fa 0) (.un .nck (.vr 0)))) (.cn (.int .u64 8))) (.vr 1))
  .ret)))))))))))))))
def fc34 : Fc := ⟨22, s34, [(.vr 4)]⟩
theorem c34 : compF Try.prog 34 = some fc34 := by kernel_rfl

/-- kinora/scan.permutes · parameters 2 · 0:order 1:n 5:seen 7:at -/
def s35 : S :=
  (.set 4 (.cn (.bool false))
  (.chk (.un .ln (.vr 0))
  (.chk (.bn (.cm .neq .i64) (.un .ln (.vr 0)) (.vr 1))
  (.set 11 (.bn (.cm .neq .i64) (.un .ln (.vr 0)) (.vr 1))
  (.ite (.vr 11)
    (.set 4 (.cn (.bool false))
    .ret)
    .nil
  (.op (some 13) (.makeSlice 60 (.tmp 12) (.tmp 12)) 60 [(12, (.vr 1)), (12, (.vr 1))] []
  (.set 5 (.vr 13)
  (.set 14 (.vr 0)
  (.chk (.un .ln (.vr 14))
  (.set 15 (.un .ln (.vr 14))
  (.set 16 (.cn (.int .i64 0))
  (.blk 0
    (.loop
      (.chk (.bn (.cm .lss .i64) (.vr 16) (.vr 15))
      (.set 17 (.bn (.cm .lss .i64) (.vr 16) (.vr 15))
      (.ite (.vr 17)
        .nil
        (.exit 0)
      (.blk 1
        (.chk (.bn (.ia 1) (.vr 14) (.vr 16))
        (.chk (.ld (.bn (.ia 1) (.vr 14) (.vr 16)))
        (.set 7 (.ld (.bn (.ia 1) (.vr 14) (.vr 16)))
        (.chk (.bn (.cm .lss .i64) (.vr 7) (.cn (.int .i64 0)))
        (.chk (.gd (.bn (.cm .lss .i64) (.vr 7) (.cn (.int .i64 0))) false (.bn (.cm .geq .i64) (.vr 7) (.vr 1)))
        (.chk (.gd (.or (.bn (.cm .lss .i64) (.vr 7) (.cn (.int .i64 0))) (.bn (.cm .geq .i64) (.vr 7) (.vr 1))) false (.bn (.ia 1) (.vr 5) (.vr 7)))
        (.chk (.gd (.or (.bn (.cm .lss .i64) (.vr 7) (.cn (.int .i64 0))) (.bn (.cm .geq .i64) (.vr 7) (.vr 1))) false (.ld (.bn (.ia 1) (.vr 5) (.vr 7))))
        (.set 32 (.pk (.or (.bn (.cm .lss .i64) (.vr 7) (.cn (.int .i64 0))) (.bn (.cm .geq .i64) (.vr 7) (.vr 1))) (.cn (.bool true)) (.ld (.bn (.ia 1) (.vr 5) (.vr 7))))
        (.ite (.vr 32)
          (.set 4 (.cn (.bool false))
          .ret)
          .nil
        (.chk (.bn (.ia 1) (.vr 5) (.vr 7))
        (.st 1 (.bn (.ia 1) (.vr 5) (.vr 7)) (.cn (.bool true)) []
        .nil)))))))))))
      (.chk (.bn (.ar .add .i64) (.vr 16) (.cn (.int .i64 1)))
      (.set 16 (.bn (.ar .add .i64) (.vr 16) (.cn (.int .i64 1)))
      .nil)))))))
  (.set 4 (.cn (.bool true))
  .ret)))))))))))))
def fc35 : Fc := ⟨37, s35, [(.vr 4)]⟩
theorem c35 : compF Try.prog 35 = some fc35 := by kernel_rfl

/-- kinora/kinoraref24.turns · parameters 2 · 0:x 1:y 5:n 6:i -/
def s36 : S :=
  (.set 4 (.cn (.int .i64 0))
  (.set 5 (.cn (.int .i64 0))
  (.set 6 (.cn (.int .i64 5))
  (.blk 0
    (.loop
      (.chk (.bn (.cm .geq .i64) (.vr 6) (.cn (.int .i64 0)))
      (.set 8 (.bn (.cm .geq .i64) (.vr 6) (.cn (.int .i64 0)))
      (.ite (.vr 8)
        .nil
        (.exit 0)
      (.blk 1
        (.chk (.bn (.sh true .i64) (.vr 5) (.cn (.int .u64 2)))
        (.chk (.un (.cv .u64) (.vr 6))
        (.chk (.bn (.sh false .i64) (.vr 1) (.un (.cv .u64) (.vr 6)))
        (.chk (.un (.cv .u64) (.vr 6))
        (.chk (.bn (.sh false .i64) (.vr 0) (.un (.cv .u64) (.vr 6)))
        (.set 5 (.bn (.bt .or .i64) (.bn (.bt .or .i64) (.bn (.sh true .i64) (.vr 5) (.cn (.int .u64 2))) (.bn (.sh true .i64) (.bn (.bt .and .i64) (.bn (.sh false .i64) (.vr 1) (.un (.cv .u64) (.vr 6))) (.cn (.int .i64 1))) (.cn (.int .u64 1)))) (.bn (.bt .and .i64) (.bn (.sh false .i64) (.vr 0) (.un (.cv .u64) (.vr 6))) (.cn (.int .i64 1))))
        .nil))))))
      (.chk (.bn (.ar .sub .i64) (.vr 6) (.cn (.int .i64 1)))
      (.set 6 (.bn (.ar .sub .i64) (.vr 6) (.cn (.int .i64 1)))
      .nil)))))))
  (.set 4 (.vr 5)
  .ret)))))
def fc36 : Fc := ⟨27, s36, [(.vr 4)]⟩
theorem c36 : compF Try.prog 36 = some fc36 := by kernel_rfl

/-- kinora/kinoraref24.All · parameters 2 · 0:order 1:n 5:seen 6:i -/
def s37 : S :=
  (.set 4 (.cn (.bool false))
  (.chk (.un .ln (.vr 0))
  (.chk (.bn (.cm .neq .i64) (.un .ln (.vr 0)) (.vr 1))
  (.set 10 (.bn (.cm .neq .i64) (.un .ln (.vr 0)) (.vr 1))
  (.ite (.vr 10)
    (.set 4 (.cn (.bool false))
    .ret)
    .nil
  (.op (some 12) (.makeSlice 60 (.tmp 11) (.tmp 11)) 60 [(11, (.vr 1)), (11, (.vr 1))] []
  (.set 5 (.vr 12)
  (.set 6 (.cn (.int .i64 0))
  (.blk 0
    (.loop
      (.chk (.bn (.cm .lss .i64) (.vr 6) (.vr 1))
      (.set 15 (.bn (.cm .lss .i64) (.vr 6) (.vr 1))
      (.ite (.vr 15)
        .nil
        (.exit 0)
      (.blk 1
        (.chk (.bn (.ia 1) (.vr 0) (.vr 6))
        (.chk (.ld (.bn (.ia 1) (.vr 0) (.vr 6)))
        (.chk (.bn (.cm .lss .i64) (.ld (.bn (.ia 1) (.vr 0) (.vr 6))) (.cn (.int .i64 0)))
        (.chk (.gd (.bn (.cm .lss .i64) (.ld (.bn (.ia 1) (.vr 0) (.vr 6))) (.cn (.int .i64 0))) false (.bn (.ia 1) (.vr 0) (.vr 6)))
        (.chk (.gd (.bn (.cm .lss .i64) (.ld (.bn (.ia 1) (.vr 0) (.vr 6))) (.cn (.int .i64 0))) false (.ld (.bn (.ia 1) (.vr 0) (.vr 6))))
        (.chk (.gd (.bn (.cm .lss .i64) (.ld (.bn (.ia 1) (.vr 0) (.vr 6))) (.cn (.int .i64 0))) false (.bn (.cm .geq .i64) (.ld (.bn (.ia 1) (.vr 0) (.vr 6))) (.vr 1)))
        (.chk (.gd (.or (.bn (.cm .lss .i64) (.ld (.bn (.ia 1) (.vr 0) (.vr 6))) (.cn (.int .i64 0))) (.bn (.cm .geq .i64) (.ld (.bn (.ia 1) (.vr 0) (.vr 6))) (.vr 1))) false (.bn (.ia 1) (.vr 0) (.vr 6)))
        (.chk (.gd (.or (.bn (.cm .lss .i64) (.ld (.bn (.ia 1) (.vr 0) (.vr 6))) (.cn (.int .i64 0))) (.bn (.cm .geq .i64) (.ld (.bn (.ia 1) (.vr 0) (.vr 6))) (.vr 1))) false (.ld (.bn (.ia 1) (.vr 0) (.vr 6))))
        (.chk (.gd (.or (.bn (.cm .lss .i64) (.ld (.bn (.ia 1) (.vr 0) (.vr 6))) (.cn (.int .i64 0))) (.bn (.cm .geq .i64) (.ld (.bn (.ia 1) (.vr 0) (.vr 6))) (.vr 1))) false (.bn (.ia 1) (.vr 5) (.ld (.bn (.ia 1) (.vr 0) (.vr 6)))))
        (.chk (.gd (.or (.bn (.cm .lss .i64) (.ld (.bn (.ia 1) (.vr 0) (.vr 6))) (.cn (.int .i64 0))) (.bn (.cm .geq .i64) (.ld (.bn (.ia 1) (.vr 0) (.vr 6))) (.vr 1))) false (.ld (.bn (.ia 1) (.vr 5) (.ld (.bn (.ia 1) (.vr 0) (.vr 6))))))
        (.set 39 (.pk (.or (.bn (.cm .lss .i64) (.ld (.bn (.ia 1) (.vr 0) (.vr 6))) (.cn (.int .i64 0))) (.bn (.cm .geq .i64) (.ld (.bn (.ia 1) (.vr 0) (.vr 6))) (.vr 1))) (.cn (.bool true)) (.ld (.bn (.ia 1) (.vr 5) (.ld (.bn (.ia 1) (.vr 0) (.vr 6))))))
        (.ite (.vr 39)
          (.set 4 (.cn (.bool false))
          .ret)
          .nil
        (.chk (.bn (.ia 1) (.vr 0) (.vr 6))
        (.chk (.ld (.bn (.ia 1) (.vr 0) (.vr 6)))
        (.set 44 (.ld (.bn (.ia 1) (.vr 0) (.vr 6)))
        (.chk (.bn (.ia 1) (.vr 5) (.vr 44))
        (.st 1 (.bn (.ia 1) (.vr 5) (.vr 44)) (.cn (.bool true)) []
        .nil)))))))))))))))))
      (.chk (.bn (.ar .add .i64) (.vr 6) (.cn (.int .i64 1)))
      (.set 6 (.bn (.ar .add .i64) (.vr 6) (.cn (.int .i64 1)))
      .nil)))))))
  (.set 4 (.cn (.bool true))
  .ret))))))))))
def fc37 : Fc := ⟨46, s37, [(.vr 4)]⟩
theorem c37 : compF Try.prog 37 = some fc37 := by kernel_rfl

end Go.Proofs.Ytbncppklmhfnmaa.VG
