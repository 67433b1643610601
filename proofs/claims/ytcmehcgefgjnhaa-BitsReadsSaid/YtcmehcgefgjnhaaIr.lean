/-
  The translations of the functions, printed by program (wip/vg/Print.lean); each is checked against the program by the kernel.
-/
import Derived.Test.YtcmehcgefgjnhaaChecked
import Derived.Test.YtcmehcgefgjnhaaVgH
namespace Go.Proofs.Ytcmehcgefgjnhaa.VG
open Go
set_option maxRecDepth 100000

/-- kinora/kinoralaw2.BitsSplit · parameters 3 · 0:v 1:n 2:cut 7:k 8:a 9:b -/
def s3 : S :=
  (.set 6 (.cn (.bool false))
  (.call (some 10) 10 [] []
  (.chk (.un .not (.vr 10))
  (.set 11 (.un .not (.vr 10))
  (.ite (.vr 11)
    (.set 6 (.cn (.bool false))
    .ret)
    .nil
  (.chk (.bn (.bt .and .i64) (.vr 1) (.cn (.int .i64 63)))
  (.set 1 (.bn (.bt .and .i64) (.vr 1) (.cn (.int .i64 63)))
  (.chk (.bn (.bt .and .i64) (.vr 2) (.cn (.int .i64 63)))
  (.chk (.bn (.ar .add .i64) (.vr 1) (.cn (.int .i64 1)))
  (.chk (.bn (.dv true .i64) (.bn (.bt .and .i64) (.vr 2) (.cn (.int .i64 63))) (.bn (.ar .add .i64) (.vr 1) (.cn (.int .i64 1))))
  (.set 7 (.bn (.dv true .i64) (.bn (.bt .and .i64) (.vr 2) (.cn (.int .i64 63))) (.bn (.ar .add .i64) (.vr 1) (.cn (.int .i64 1))))
  (.op (some 20) (.box 27 (.tmp 19)) 24 [(19, (.cn (.agg #[(.slice none 0 0), (.int .i64 0)])))] []
  (.op (some 22) (.box 27 (.tmp 21)) 24 [(21, (.cn (.agg #[(.slice none 0 0), (.int .i64 0)])))] []
  (.set 8 (.vr 20)
  (.set 9 (.vr 22)
  (.call (some 26) 12 [(.vr 0), (.vr 1)] []
  (.call (some 28) 11 [(.vr 8), (.vr 26), (.vr 1)] []
  (.call (some 32) 12 [(.vr 0), (.vr 1)] []
  (.chk (.bn (.ar .sub .i64) (.vr 1) (.vr 7))
  (.chk (.bn (.sh false .u64) (.vr 32) (.un (.cv .u64) (.bn (.ar .sub .i64) (.vr 1) (.vr 7))))
  (.call (some 39) 11 [(.vr 9), (.bn (.sh false .u64) (.vr 32) (.un (.cv .u64) (.bn (.ar .sub .i64) (.vr 1) (.vr 7)))), (.vr 7)] []
  (.chk (.bn (.ar .sub .i64) (.vr 1) (.vr 7))
  (.call (some 45) 12 [(.vr 0), (.bn (.ar .sub .i64) (.vr 1) (.vr 7))] []
  (.chk (.bn (.ar .sub .i64) (.vr 1) (.vr 7))
  (.call (some 49) 11 [(.vr 9), (.vr 45), (.bn (.ar .sub .i64) (.vr 1) (.vr 7))] []
  (.call (some 51) 13 [(.vr 8)] []
  (.chk (.bn (.cm .eql .i64) (.vr 51) (.vr 1))
  (.set 54 (.bn (.cm .eql .i64) (.vr 51) (.vr 1))
  (.ifg (.vr 54) true
    (.call (some 56) 13 [(.vr 9)] []
    .nil)
    (.set 56 (.cn undef)
    .nil)
  (.chk (.gd (.vr 54) true (.bn (.cm .eql .i64) (.vr 56) (.vr 1)))
  (.chk (.and (.vr 54) (.bn (.cm .eql .i64) (.vr 56) (.vr 1)))
  (.set 60 (.and (.vr 54) (.bn (.cm .eql .i64) (.vr 56) (.vr 1)))
  (.ifg (.vr 60) true
    (.call (some 62) 15 [(.vr 8)] []
    .nil)
    (.set 62 (.cn undef)
    .nil)
  (.ifg (.vr 60) true
    (.call (some 64) 15 [(.vr 9)] []
    .nil)
    (.set 64 (.cn undef)
    .nil)
  (.ifg (.vr 60) true
    (.call (some 65) 14 [(.vr 62), (.vr 64)] []
    .nil)
    (.set 65 (.cn undef)
    .nil)
  (.chk (.pk (.vr 60) (.vr 65) (.cn (.bool false)))
  (.set 6 (.pk (.vr 60) (.vr 65) (.cn (.bool false)))
  .ret)))))))))))))))))))))))))))))))))))))
def fc3 : Fc := ⟨67, s3, [(.vr 6)]⟩
theorem c3 : compF Try.prog 3 = some fc3 := by kernel_rfl

/-- kinora/kinoralaw2.BitsOctets · parameters 2 · 0:b 1:skip 5:w 6:i 7:r 8:k 9:i 10:x -/
def s4 : S :=
  (.set 4 (.cn (.bool false))
  (.call (some 11) 10 [] []
  (.chk (.un .not (.vr 11))
  (.set 12 (.un .not (.vr 11))
  (.ite (.vr 12)
    (.set 4 (.cn (.bool false))
    .ret)
    .nil
  (.chk (.un .ln (.vr 0))
  (.set 15 (.bn (.cm .gtr .i64) (.un .ln (.vr 0)) (.cn (.int .i64 200)))
  (.ite (.vr 15)
    (.set 4 (.cn (.bool true))
    .ret)
    .nil
  (.op (some 17) (.box 27 (.tmp 16)) 24 [(16, (.cn (.agg #[(.slice none 0 0), (.int .i64 0)])))] []
  (.set 5 (.vr 17)
  (.set 6 (.cn (.int .i64 0))
  (.blk 0
    (.loop
      (.chk (.un .ln (.vr 0))
      (.chk (.bn (.cm .lss .i64) (.vr 6) (.un .ln (.vr 0)))
      (.set 21 (.bn (.cm .lss .i64) (.vr 6) (.un .ln (.vr 0)))
      (.ite (.vr 21)
        .nil
        (.exit 0)
      (.blk 1
        (.chk (.bn (.ia 1) (.vr 0) (.vr 6))
        (.chk (.ld (.bn (.ia 1) (.vr 0) (.vr 6)))
        (.set 28 (.ld (.bn (.ia 1) (.vr 0) (.vr 6)))
        (.chk (.un (.cv .u64) (.vr 28))
        (.call (some 30) 11 [(.vr 5), (.un (.cv .u64) (.vr 28)), (.cn (.int .i64 8))] []
        .nil)))))
      (.chk (.bn (.ar .add .i64) (.vr 6) (.cn (.int .i64 1)))
      (.set 6 (.bn (.ar .add .i64) (.vr 6) (.cn (.int .i64 1)))
      .nil))))))))
  (.call (some 32) 16 [(.vr 0)] []
  (.set 7 (.vr 32)
  (.chk (.un (.pnil false) (.vr 7))
  (.set 35 (.un (.pnil false) (.vr 7))
  (.ifg (.vr 35) false
    (.call (some 37) 15 [(.vr 5)] []
    .nil)
    (.set 37 (.cn undef)
    .nil)
  (.ifg (.vr 35) false
    (.call (some 39) 14 [(.vr 37), (.vr 0)] []
    .nil)
    (.set 39 (.cn undef)
    .nil)
  (.chk (.gd (.vr 35) false (.un .not (.vr 39)))
  (.chk (.or (.vr 35) (.un .not (.vr 39)))
  (.set 41 (.or (.vr 35) (.un .not (.vr 39)))
  (.ite (.vr 41)
    (.set 4 (.cn (.bool false))
    .ret)
    .nil
  (.chk (.bn (.bt .and .i64) (.vr 1) (.cn (.int .i64 4095)))
  (.chk (.un .ln (.vr 0))
  (.chk (.bn (.dv true .i64) (.bn (.bt .and .i64) (.vr 1) (.cn (.int .i64 4095))) (.bn (.ar .add .i64) (.bn (.ar .mul .i64) (.cn (.int .i64 8)) (.un .ln (.vr 0))) (.cn (.int .i64 1))))
  (.set 8 (.bn (.dv true .i64) (.bn (.bt .and .i64) (.vr 1) (.cn (.int .i64 4095))) (.bn (.ar .add .i64) (.bn (.ar .mul .i64) (.cn (.int .i64 8)) (.un .ln (.vr 0))) (.cn (.int .i64 1))))
  (.set 9 (.cn (.int .i64 0))
  (.blk 2
    (.loop
      (.chk (.bn (.cm .lss .i64) (.vr 9) (.vr 8))
      (.set 51 (.bn (.cm .lss .i64) (.vr 9) (.vr 8))
      (.ite (.vr 51)
        .nil
        (.exit 2)
      (.blk 3
        (.call (some 55) 17 [(.vr 7), (.cn (.int .i64 1))] []
        .nil)
      (.chk (.bn (.ar .add .i64) (.vr 9) (.cn (.int .i64 1)))
      (.set 9 (.bn (.ar .add .i64) (.vr 9) (.cn (.int .i64 1)))
      .nil)))))))
  (.call (some 57) 18 [(.vr 7)] []
  (.chk (.bn (.cm .neq .i64) (.vr 57) (.vr 8))
  (.set 60 (.bn (.cm .neq .i64) (.vr 57) (.vr 8))
  (.ifg (.vr 60) false
    (.call (some 62) 19 [(.vr 7)] []
    .nil)
    (.set 62 (.cn undef)
    .nil)
  (.chk (.gd (.vr 60) false (.un .ln (.vr 0)))
  (.chk (.gd (.vr 60) false (.bn (.ar .sub .i64) (.bn (.ar .mul .i64) (.cn (.int .i64 8)) (.un .ln (.vr 0))) (.vr 8)))
  (.chk (.gd (.vr 60) false (.bn (.cm .neq .i64) (.vr 62) (.bn (.ar .sub .i64) (.bn (.ar .mul .i64) (.cn (.int .i64 8)) (.un .ln (.vr 0))) (.vr 8))))
  (.chk (.or (.vr 60) (.bn (.cm .neq .i64) (.vr 62) (.bn (.ar .sub .i64) (.bn (.ar .mul .i64) (.cn (.int .i64 8)) (.un .ln (.vr 0))) (.vr 8))))
  (.set 69 (.or (.vr 60) (.bn (.cm .neq .i64) (.vr 62) (.bn (.ar .sub .i64) (.bn (.ar .mul .i64) (.cn (.int .i64 8)) (.un .ln (.vr 0))) (.vr 8))))
  (.ite (.vr 69)
    (.set 4 (.cn (.bool false))
    .ret)
    .nil
  (.call (some 71) 17 [(.vr 7), (.cn (.int .i64 64))] []
  (.set 10 (.vr 71)
  (.chk (.un .ln (.vr 0))
  (.chk (.bn (.cm .gtr .i64) (.vr 8) (.bn (.ar .sub .i64) (.bn (.ar .mul .i64) (.cn (.int .i64 8)) (.un .ln (.vr 0))) (.cn (.int .i64 64))))
  (.set 77 (.bn (.cm .gtr .i64) (.vr 8) (.bn (.ar .sub .i64) (.bn (.ar .mul .i64) (.cn (.int .i64 8)) (.un .ln (.vr 0))) (.cn (.int .i64 64))))
  (.ite (.vr 77)
    (.chk (.bn (.cm .eql .u64) (.vr 10) (.cn (.int .u64 0)))
    (.set 80 (.bn (.cm .eql .u64) (.vr 10) (.cn (.int .u64 0)))
    (.ifg (.vr 80) true
      (.call (some 82) 20 [(.vr 7)] []
      .nil)
      (.set 82 (.cn undef)
      .nil)
    (.chk (.gd (.vr 80) true (.bn (.cm .eql .i64) (.vr 82) (.cn (.int .i64 3))))
    (.chk (.and (.vr 80) (.bn (.cm .eql .i64) (.vr 82) (.cn (.int .i64 3))))
    (.set 85 (.and (.vr 80) (.bn (.cm .eql .i64) (.vr 82) (.cn (.int .i64 3))))
    (.ifg (.vr 85) true
      (.call (some 87) 18 [(.vr 7)] []
      .nil)
      (.set 87 (.cn undef)
      .nil)
    (.chk (.gd (.vr 85) true (.bn (.cm .eql .i64) (.vr 87) (.vr 8)))
    (.chk (.and (.vr 85) (.bn (.cm .eql .i64) (.vr 87) (.vr 8)))
    (.set 4 (.and (.vr 85) (.bn (.cm .eql .i64) (.vr 87) (.vr 8)))
    .ret))))))))))
    .nil
  (.call (some 92) 20 [(.vr 7)] []
  (.chk (.bn (.cm .eql .i64) (.vr 92) (.cn (.int .i64 0)))
  (.set 94 (.bn (.cm .eql .i64) (.vr 92) (.cn (.int .i64 0)))
  (.ifg (.vr 94) true
    (.call (some 96) 18 [(.vr 7)] []
    .nil)
    (.set 96 (.cn undef)
    .nil)
  (.chk (.gd (.vr 94) true (.bn (.ar .add .i64) (.vr 8) (.cn (.int .i64 64))))
  (.chk (.gd (.vr 94) true (.bn (.cm .eql .i64) (.vr 96) (.bn (.ar .add .i64) (.vr 8) (.cn (.int .i64 64)))))
  (.chk (.and (.vr 94) (.bn (.cm .eql .i64) (.vr 96) (.bn (.ar .add .i64) (.vr 8) (.cn (.int .i64 64)))))
  (.set 4 (.and (.vr 94) (.bn (.cm .eql .i64) (.vr 96) (.bn (.ar .add .i64) (.vr 8) (.cn (.int .i64 64)))))
  .ret))))))))))))))))))))))))))))))))))))))))))))))))))))
def fc4 : Fc := ⟨101, s4, [(.vr 4)]⟩
theorem c4 : compF Try.prog 4 = some fc4 := by kernel_rfl

/-- kinora/kinoralaw2.BitsZeros · parameters 2 · 0:n 1:most 5:k 6:w 7:r 8:x -/
def s5 : S :=
  (.set 4 (.cn (.bool false))
  (.call (some 9) 10 [] []
  (.chk (.un .not (.vr 9))
  (.set 10 (.un .not (.vr 9))
  (.ite (.vr 10)
    (.set 4 (.cn (.bool false))
    .ret)
    .nil
  (.chk (.bn (.cm .gtr .i64) (.vr 1) (.cn (.int .i64 1073741824)))
  (.chk (.gd (.bn (.cm .gtr .i64) (.vr 1) (.cn (.int .i64 1073741824))) false (.bn (.cm .lss .i64) (.vr 1) (.cn (.int .i64 (-1073741824)))))
  (.set 16 (.or (.bn (.cm .gtr .i64) (.vr 1) (.cn (.int .i64 1073741824))) (.bn (.cm .lss .i64) (.vr 1) (.cn (.int .i64 (-1073741824)))))
  (.ite (.vr 16)
    (.set 4 (.cn (.bool true))
    .ret)
    .nil
  (.chk (.bn (.bt .and .i64) (.vr 0) (.cn (.int .i64 511)))
  (.set 5 (.bn (.bt .and .i64) (.vr 0) (.cn (.int .i64 511)))
  (.op (some 20) (.box 27 (.tmp 19)) 24 [(19, (.cn (.agg #[(.slice none 0 0), (.int .i64 0)])))] []
  (.set 6 (.vr 20)
  (.call (some 23) 21 [(.vr 6), (.vr 5)] []
  (.chk (.bn (.cm .neq .i64) (.vr 23) (.cn (.int .i64 0)))
  (.set 24 (.bn (.cm .neq .i64) (.vr 23) (.cn (.int .i64 0)))
  (.ite (.vr 24)
    (.set 4 (.cn (.bool false))
    .ret)
    .nil
  (.call (some 26) 15 [(.vr 6)] []
  (.call (some 27) 16 [(.vr 26)] []
  (.set 7 (.vr 27)
  (.chk (.un (.pnil false) (.vr 7))
  (.set 29 (.un (.pnil false) (.vr 7))
  (.ite (.vr 29)
    (.set 4 (.cn (.bool false))
    .ret)
    .nil
  (.call (some 32) 22 [(.vr 7), (.vr 1)] []
  (.set 8 (.vr 32)
  (.chk (.bn (.mx .i64) (.vr 1) (.cn (.int .i64 0)))
  (.chk (.bn (.cm .leq .i64) (.vr 5) (.bn (.mx .i64) (.vr 1) (.cn (.int .i64 0))))
  (.set 36 (.bn (.cm .leq .i64) (.vr 5) (.bn (.mx .i64) (.vr 1) (.cn (.int .i64 0))))
  (.ite (.vr 36)
    (.chk (.bn (.cm .eql .i64) (.vr 8) (.vr 5))
    (.set 40 (.bn (.cm .eql .i64) (.vr 8) (.vr 5))
    (.ifg (.vr 40) true
      (.call (some 42) 20 [(.vr 7)] []
      .nil)
      (.set 42 (.cn undef)
      .nil)
    (.chk (.gd (.vr 40) true (.bn (.cm .eql .i64) (.vr 42) (.cn (.int .i64 0))))
    (.chk (.and (.vr 40) (.bn (.cm .eql .i64) (.vr 42) (.cn (.int .i64 0))))
    (.set 45 (.and (.vr 40) (.bn (.cm .eql .i64) (.vr 42) (.cn (.int .i64 0))))
    (.ifg (.vr 45) true
      (.call (some 47) 18 [(.vr 7)] []
      .nil)
      (.set 47 (.cn undef)
      .nil)
    (.chk (.gd (.vr 45) true (.bn (.ar .add .i64) (.vr 5) (.cn (.int .i64 1))))
    (.chk (.gd (.vr 45) true (.bn (.cm .eql .i64) (.vr 47) (.bn (.ar .add .i64) (.vr 5) (.cn (.int .i64 1)))))
    (.chk (.and (.vr 45) (.bn (.cm .eql .i64) (.vr 47) (.bn (.ar .add .i64) (.vr 5) (.cn (.int .i64 1)))))
    (.set 4 (.and (.vr 45) (.bn (.cm .eql .i64) (.vr 47) (.bn (.ar .add .i64) (.vr 5) (.cn (.int .i64 1)))))
    .ret)))))))))))
    .nil
  (.chk (.bn (.cm .eql .i64) (.vr 8) (.cn (.int .i64 0)))
  (.set 54 (.bn (.cm .eql .i64) (.vr 8) (.cn (.int .i64 0)))
  (.ifg (.vr 54) true
    (.call (some 56) 20 [(.vr 7)] []
    .nil)
    (.set 56 (.cn undef)
    .nil)
  (.chk (.gd (.vr 54) true (.bn (.cm .eql .i64) (.vr 56) (.cn (.int .i64 2))))
  (.chk (.and (.vr 54) (.bn (.cm .eql .i64) (.vr 56) (.cn (.int .i64 2))))
  (.set 59 (.and (.vr 54) (.bn (.cm .eql .i64) (.vr 56) (.cn (.int .i64 2))))
  (.ifg (.vr 59) true
    (.call (some 61) 18 [(.vr 7)] []
    .nil)
    (.set 61 (.cn undef)
    .nil)
  (.chk (.gd (.vr 59) true (.bn (.cm .eql .i64) (.vr 61) (.cn (.int .i64 0))))
  (.chk (.and (.vr 59) (.bn (.cm .eql .i64) (.vr 61) (.cn (.int .i64 0))))
  (.set 4 (.and (.vr 59) (.bn (.cm .eql .i64) (.vr 61) (.cn (.int .i64 0))))
  .ret)))))))))))))))))))))))))))))))))))))))
def fc5 : Fc := ⟨64, s5, [(.vr 4)]⟩
theorem c5 : compF Try.prog 5 = some fc5 := by kernel_rfl

/-- kinora/kinoralaw2.BitsPlays · parameters 1 · 0:acts 3:w 4:x 5:i 6:a -/
def s6 : S :=
  (.set 2 (.cn (.bool false))
  (.call (some 7) 10 [] []
  (.chk (.un .not (.vr 7))
  (.set 8 (.un .not (.vr 7))
  (.ite (.vr 8)
    (.set 2 (.cn (.bool false))
    .ret)
    .nil
  (.chk (.un .ln (.vr 0))
  (.set 11 (.bn (.cm .gtr .i64) (.un .ln (.vr 0)) (.cn (.int .i64 40)))
  (.ite (.vr 11)
    (.set 2 (.cn (.bool true))
    .ret)
    .nil
  (.op (some 13) (.box 27 (.tmp 12)) 24 [(12, (.cn (.agg #[(.slice none 0 0), (.int .i64 0)])))] []
  (.op (some 15) (.box 47 (.tmp 14)) 45 [(14, (.cn (.agg #[(.slice none 0 0)])))] []
  (.set 3 (.vr 13)
  (.set 4 (.vr 15)
  (.set 5 (.cn (.int .i64 0))
  (.blk 0
    (.loop
      (.chk (.un .ln (.vr 0))
      (.chk (.bn (.cm .lss .i64) (.vr 5) (.un .ln (.vr 0)))
      (.set 19 (.bn (.cm .lss .i64) (.vr 5) (.un .ln (.vr 0)))
      (.ite (.vr 19)
        .nil
        (.exit 0)
      (.blk 1
        (.chk (.bn (.ia 3) (.vr 0) (.vr 5))
        (.chk (.ldn 3 (.bn (.ia 3) (.vr 0) (.vr 5)))
        (.set 25 (.ldn 3 (.bn (.ia 3) (.vr 0) (.vr 5)))
        (.op (some 6) (.alloc 49) 0 [] []
        (.st 3 (.vr 6) (.vr 25) []
        (.chk (.un (.fa 0) (.vr 6))
        (.chk (.ld (.un (.fa 0) (.vr 6)))
        (.set 27 (.ld (.un (.fa 0) (.vr 6)))
        (.blk 2
          (.chk (.bn (.cm .eql .i64) (.vr 27) (.cn (.int .i64 0)))
          (.set 32 (.bn (.cm .eql .i64) (.vr 27) (.cn (.int .i64 0)))
          (.ite (.vr 32)
            (.draw
            (.chk (.un (.fa 1) (.vr 6))
            (.chk (.ld (.un (.fa 1) (.vr 6)))
            (.set 36 (.ld (.un (.fa 1) (.vr 6)))
            (.chk (.un (.fa 2) (.vr 6))
            (.chk (.ld (.un (.fa 2) (.vr 6)))
            (.set 38 (.ld (.un (.fa 2) (.vr 6)))
            (.chk (.un (.fa 1) (.vr 6))
            (.chk (.ld (.un (.fa 1) (.vr 6)))
            (.set 42 (.ld (.un (.fa 1) (.vr 6)))
            (.chk (.un (.fa 2) (.vr 6))
            (.chk (.ld (.un (.fa 2) (.vr 6)))
            (.set 44 (.ld (.un (.fa 2) (.vr 6)))
            (.call (some 39) 11 [(.vr 3), (.vr 36), (.vr 38)] [⟨10, (.un (.fa 2) (.vr 6)), 1, none⟩, ⟨8, (.un (.fa 1) (.vr 6)), 1, none⟩]
            (.call (some 45) 23 [(.vr 4), (.vr 42), (.vr 44)] []
            (.chk (.bn (.cm .neq .i64) (.vr 39) (.vr 45))
            (.set 46 (.bn (.cm .neq .i64) (.vr 39) (.vr 45))
            (.ite (.vr 46)
              (.set 2 (.cn (.bool false))
              .ret)
              .nil
            .nil))))))))))))))))))
            (.chk (.bn (.cm .eql .i64) (.vr 27) (.cn (.int .i64 1)))
            (.set 47 (.bn (.cm .eql .i64) (.vr 27) (.cn (.int .i64 1)))
            (.ite (.vr 47)
              (.draw
              (.chk (.un (.fa 2) (.vr 6))
              (.chk (.ld (.un (.fa 2) (.vr 6)))
              (.set 51 (.ld (.un (.fa 2) (.vr 6)))
              (.chk (.un (.fa 2) (.vr 6))
              (.chk (.ld (.un (.fa 2) (.vr 6)))
              (.set 55 (.ld (.un (.fa 2) (.vr 6)))
              (.call (some 52) 21 [(.vr 3), (.vr 51)] [⟨6, (.un (.fa 2) (.vr 6)), 1, none⟩]
              (.call (some 56) 24 [(.vr 4), (.vr 55)] []
              (.chk (.bn (.cm .neq .i64) (.vr 52) (.vr 56))
              (.set 57 (.bn (.cm .neq .i64) (.vr 52) (.vr 56))
              (.ite (.vr 57)
                (.set 2 (.cn (.bool false))
                .ret)
                .nil
              .nil))))))))))))
              (.call (some 29) 25 [(.vr 3)] []
              (.call (some 31) 26 [(.vr 4)] []
              .nil))
            .nil)))
          .nil)))
        (.call (some 59) 13 [(.vr 3)] []
        (.call (some 61) 27 [(.vr 4)] []
        (.chk (.bn (.cm .neq .i64) (.vr 59) (.vr 61))
        (.set 62 (.bn (.cm .neq .i64) (.vr 59) (.vr 61))
        (.ite (.vr 62)
          (.set 2 (.cn (.bool false))
          .ret)
          .nil
        .nil))))))))))))))
      (.chk (.bn (.ar .add .i64) (.vr 5) (.cn (.int .i64 1)))
      (.set 5 (.bn (.ar .add .i64) (.vr 5) (.cn (.int .i64 1)))
      .nil))))))))
  (.call (some 64) 15 [(.vr 3)] []
  (.call (some 66) 28 [(.vr 4)] []
  (.call (some 67) 14 [(.vr 64), (.vr 66)] []
  (.set 2 (.vr 67)
  .ret))))))))))))))))))
def fc6 : Fc := ⟨68, s6, [(.vr 2)]⟩
theorem c6 : compF Try.prog 6 = some fc6 := by kernel_rfl

/-- kinora/kinoralaw2.BitsSigned · parameters 2 · 0:x 1:n 5:y 6:w 7:r -/
def s7 : S :=
  (.set 4 (.cn (.bool false))
  (.call (some 8) 10 [] []
  (.chk (.un .not (.vr 8))
  (.set 9 (.un .not (.vr 8))
  (.ite (.vr 9)
    (.set 4 (.cn (.bool false))
    .ret)
    .nil
  (.chk (.bn (.bt .and .i64) (.vr 1) (.cn (.int .i64 63)))
  (.set 1 (.bn (.ar .add .i64) (.bn (.bt .and .i64) (.vr 1) (.cn (.int .i64 63))) (.cn (.int .i64 1)))
  (.chk (.bn (.ar .sub .i64) (.cn (.int .i64 64)) (.vr 1))
  (.chk (.bn (.sh true .i64) (.vr 0) (.un (.cv .u64) (.bn (.ar .sub .i64) (.cn (.int .i64 64)) (.vr 1))))
  (.chk (.bn (.ar .sub .i64) (.cn (.int .i64 64)) (.vr 1))
  (.chk (.bn (.sh false .i64) (.bn (.sh true .i64) (.vr 0) (.un (.cv .u64) (.bn (.ar .sub .i64) (.cn (.int .i64 64)) (.vr 1)))) (.un (.cv .u64) (.bn (.ar .sub .i64) (.cn (.int .i64 64)) (.vr 1))))
  (.set 5 (.bn (.sh false .i64) (.bn (.sh true .i64) (.vr 0) (.un (.cv .u64) (.bn (.ar .sub .i64) (.cn (.int .i64 64)) (.vr 1)))) (.un (.cv .u64) (.bn (.ar .sub .i64) (.cn (.int .i64 64)) (.vr 1))))
  (.op (some 23) (.box 27 (.tmp 22)) 24 [(22, (.cn (.agg #[(.slice none 0 0), (.int .i64 0)])))] []
  (.set 6 (.vr 23)
  (.chk (.un (.cv .u64) (.vr 5))
  (.call (some 28) 12 [(.un (.cv .u64) (.vr 5)), (.vr 1)] []
  (.call (some 30) 11 [(.vr 6), (.vr 28), (.vr 1)] []
  (.call (some 32) 15 [(.vr 6)] []
  (.call (some 33) 16 [(.vr 32)] []
  (.set 7 (.vr 33)
  (.chk (.un (.pnil true) (.vr 7))
  (.set 36 (.un (.pnil true) (.vr 7))
  (.ifg (.vr 36) true
    (.call (some 39) 29 [(.vr 7), (.vr 1)] []
    .nil)
    (.set 39 (.cn undef)
    .nil)
  (.chk (.gd (.vr 36) true (.bn (.cm .eql .i64) (.vr 39) (.vr 5)))
  (.chk (.and (.vr 36) (.bn (.cm .eql .i64) (.vr 39) (.vr 5)))
  (.set 43 (.and (.vr 36) (.bn (.cm .eql .i64) (.vr 39) (.vr 5)))
  (.ifg (.vr 43) true
    (.call (some 45) 18 [(.vr 7)] []
    .nil)
    (.set 45 (.cn undef)
    .nil)
  (.chk (.gd (.vr 43) true (.bn (.cm .eql .i64) (.vr 45) (.vr 1)))
  (.chk (.and (.vr 43) (.bn (.cm .eql .i64) (.vr 45) (.vr 1)))
  (.set 4 (.and (.vr 43) (.bn (.cm .eql .i64) (.vr 45) (.vr 1)))
  .ret))))))))))))))))))))))))))))))
def fc7 : Fc := ⟨49, s7, [(.vr 4)]⟩
theorem c7 : compF Try.prog 7 = some fc7 := by kernel_rfl

/-- kinora/kinoralaw2.BitsBack · parameters 1 · 0:l 3:w 4:n 5:i 6:k 7:r 8:i 9:k -/
def s8 : S :=
  (.set 2 (.cn (.bool false))
  (.call (some 10) 10 [] []
  (.chk (.un .not (.vr 10))
  (.set 11 (.un .not (.vr 10))
  (.ite (.vr 11)
    (.set 2 (.cn (.bool false))
    .ret)
    .nil
  (.chk (.un .ln (.vr 0))
  (.set 14 (.bn (.cm .gtr .i64) (.un .ln (.vr 0)) (.cn (.int .i64 40)))
  (.ite (.vr 14)
    (.set 2 (.cn (.bool true))
    .ret)
    .nil
  (.op (some 16) (.box 27 (.tmp 15)) 24 [(15, (.cn (.agg #[(.slice none 0 0), (.int .i64 0)])))] []
  (.set 3 (.vr 16)
  (.set 4 (.cn (.int .i64 0))
  (.set 5 (.cn (.int .i64 0))
  (.blk 0
    (.loop
      (.chk (.un .ln (.vr 0))
      (.chk (.bn (.cm .lss .i64) (.vr 5) (.un .ln (.vr 0)))
      (.set 20 (.bn (.cm .lss .i64) (.vr 5) (.un .ln (.vr 0)))
      (.ite (.vr 20)
        .nil
        (.exit 0)
      (.blk 1
        (.chk (.bn (.ia 3) (.vr 0) (.vr 5))
        (.chk (.un (.fa 2) (.bn (.ia 3) (.vr 0) (.vr 5)))
        (.chk (.ld (.un (.fa 2) (.bn (.ia 3) (.vr 0) (.vr 5))))
        (.chk (.bn (.bt .and .i64) (.ld (.un (.fa 2) (.bn (.ia 3) (.vr 0) (.vr 5)))) (.cn (.int .i64 63)))
        (.set 6 (.bn (.bt .and .i64) (.ld (.un (.fa 2) (.bn (.ia 3) (.vr 0) (.vr 5)))) (.cn (.int .i64 63)))
        (.chk (.bn (.ia 3) (.vr 0) (.vr 5))
        (.chk (.un (.fa 0) (.bn (.ia 3) (.vr 0) (.vr 5)))
        (.chk (.ld (.un (.fa 0) (.bn (.ia 3) (.vr 0) (.vr 5))))
        (.chk (.bn (.cm .eql .i64) (.ld (.un (.fa 0) (.bn (.ia 3) (.vr 0) (.vr 5)))) (.cn (.int .i64 1)))
        (.set 34 (.bn (.cm .eql .i64) (.ld (.un (.fa 0) (.bn (.ia 3) (.vr 0) (.vr 5)))) (.cn (.int .i64 1)))
        (.ite (.vr 34)
          (.call (some 37) 21 [(.vr 3), (.vr 6)] []
          (.chk (.bn (.ar .add .i64) (.vr 4) (.vr 6))
          (.set 4 (.bn (.ar .add .i64) (.bn (.ar .add .i64) (.vr 4) (.vr 6)) (.cn (.int .i64 1)))
          .nil)))
          (.chk (.bn (.ia 3) (.vr 0) (.vr 5))
          (.chk (.un (.fa 1) (.bn (.ia 3) (.vr 0) (.vr 5)))
          (.chk (.ld (.un (.fa 1) (.bn (.ia 3) (.vr 0) (.vr 5))))
          (.set 47 (.ld (.un (.fa 1) (.bn (.ia 3) (.vr 0) (.vr 5))))
          (.call (some 49) 12 [(.vr 47), (.vr 6)] []
          (.call (some 51) 11 [(.vr 3), (.vr 49), (.vr 6)] []
          (.chk (.bn (.ar .add .i64) (.vr 4) (.vr 6))
          (.set 4 (.bn (.ar .add .i64) (.vr 4) (.vr 6))
          .nil))))))))
        .nil)))))))))))
      (.chk (.bn (.ar .add .i64) (.vr 5) (.cn (.int .i64 1)))
      (.set 5 (.bn (.ar .add .i64) (.vr 5) (.cn (.int .i64 1)))
      .nil))))))))
  (.call (some 56) 13 [(.vr 3)] []
  (.chk (.bn (.cm .neq .i64) (.vr 56) (.vr 4))
  (.set 59 (.bn (.cm .neq .i64) (.vr 56) (.vr 4))
  (.ifg (.vr 59) false
    (.call (some 61) 15 [(.vr 3)] []
    .nil)
    (.set 61 (.cn undef)
    .nil)
  (.chk (.gd (.vr 59) false (.un .ln (.vr 61)))
  (.chk (.gd (.vr 59) false (.bn (.ar .add .i64) (.vr 4) (.cn (.int .i64 7))))
  (.chk (.or (.vr 59) (.bn (.cm .neq .i64) (.un .ln (.vr 61)) (.bn (.dv false .i64) (.bn (.ar .add .i64) (.vr 4) (.cn (.int .i64 7))) (.cn (.int .i64 8)))))
  (.set 67 (.or (.vr 59) (.bn (.cm .neq .i64) (.un .ln (.vr 61)) (.bn (.dv false .i64) (.bn (.ar .add .i64) (.vr 4) (.cn (.int .i64 7))) (.cn (.int .i64 8)))))
  (.ite (.vr 67)
    (.set 2 (.cn (.bool false))
    .ret)
    .nil
  (.call (some 69) 15 [(.vr 3)] []
  (.call (some 70) 16 [(.vr 69)] []
  (.set 7 (.vr 70)
  (.chk (.un (.pnil false) (.vr 7))
  (.set 72 (.un (.pnil false) (.vr 7))
  (.ite (.vr 72)
    (.set 2 (.cn (.bool false))
    .ret)
    .nil
  (.set 8 (.cn (.int .i64 0))
  (.blk 2
    (.loop
      (.chk (.un .ln (.vr 0))
      (.chk (.bn (.cm .lss .i64) (.vr 8) (.un .ln (.vr 0)))
      (.set 76 (.bn (.cm .lss .i64) (.vr 8) (.un .ln (.vr 0)))
      (.ite (.vr 76)
        .nil
        (.exit 2)
      (.blk 3
        (.chk (.bn (.ia 3) (.vr 0) (.vr 8))
        (.chk (.un (.fa 2) (.bn (.ia 3) (.vr 0) (.vr 8)))
        (.chk (.ld (.un (.fa 2) (.bn (.ia 3) (.vr 0) (.vr 8))))
        (.chk (.bn (.bt .and .i64) (.ld (.un (.fa 2) (.bn (.ia 3) (.vr 0) (.vr 8)))) (.cn (.int .i64 63)))
        (.set 9 (.bn (.bt .and .i64) (.ld (.un (.fa 2) (.bn (.ia 3) (.vr 0) (.vr 8)))) (.cn (.int .i64 63)))
        (.chk (.bn (.ia 3) (.vr 0) (.vr 8))
        (.chk (.un (.fa 0) (.bn (.ia 3) (.vr 0) (.vr 8)))
        (.chk (.ld (.un (.fa 0) (.bn (.ia 3) (.vr 0) (.vr 8))))
        (.chk (.bn (.cm .eql .i64) (.ld (.un (.fa 0) (.bn (.ia 3) (.vr 0) (.vr 8)))) (.cn (.int .i64 1)))
        (.set 90 (.bn (.cm .eql .i64) (.ld (.un (.fa 0) (.bn (.ia 3) (.vr 0) (.vr 8)))) (.cn (.int .i64 1)))
        (.ite (.vr 90)
          (.call (some 92) 22 [(.vr 7), (.cn (.int .i64 63))] []
          (.chk (.bn (.cm .neq .i64) (.vr 92) (.vr 9))
          (.set 94 (.bn (.cm .neq .i64) (.vr 92) (.vr 9))
          (.ite (.vr 94)
            (.set 2 (.cn (.bool false))
            .ret)
            .nil
          .nil))))
          (.draw
          (.chk (.bn (.ia 3) (.vr 0) (.vr 8))
          (.chk (.un (.fa 1) (.bn (.ia 3) (.vr 0) (.vr 8)))
          (.chk (.ld (.un (.fa 1) (.bn (.ia 3) (.vr 0) (.vr 8))))
          (.set 102 (.ld (.un (.fa 1) (.bn (.ia 3) (.vr 0) (.vr 8))))
          (.call (some 97) 17 [(.vr 7), (.vr 9)] [⟨7, (.un (.fa 1) (.bn (.ia 3) (.vr 0) (.vr 8))), 1, none⟩]
          (.call (some 104) 12 [(.vr 102), (.vr 9)] []
          (.chk (.bn (.cm .neq .u64) (.vr 97) (.vr 104))
          (.set 105 (.bn (.cm .neq .u64) (.vr 97) (.vr 104))
          (.ite (.vr 105)
            (.set 2 (.cn (.bool false))
            .ret)
            .nil
          .nil))))))))))
        .nil)))))))))))
      (.chk (.bn (.ar .add .i64) (.vr 8) (.cn (.int .i64 1)))
      (.set 8 (.bn (.ar .add .i64) (.vr 8) (.cn (.int .i64 1)))
      .nil))))))))
  (.call (some 107) 30 [(.vr 7)] []
  (.call (some 109) 20 [(.vr 7)] []
  (.chk (.bn (.cm .eql .i64) (.vr 109) (.cn (.int .i64 0)))
  (.set 111 (.bn (.cm .eql .i64) (.vr 109) (.cn (.int .i64 0)))
  (.ifg (.vr 111) true
    (.call (some 113) 19 [(.vr 7)] []
    .nil)
    (.set 113 (.cn undef)
    .nil)
  (.chk (.gd (.vr 111) true (.bn (.cm .eql .i64) (.vr 113) (.cn (.int .i64 0))))
  (.chk (.and (.vr 111) (.bn (.cm .eql .i64) (.vr 113) (.cn (.int .i64 0))))
  (.set 2 (.and (.vr 111) (.bn (.cm .eql .i64) (.vr 113) (.cn (.int .i64 0))))
  .ret))))))))))))))))))))))))))))))))))))))
def fc8 : Fc := ⟨116, s8, [(.vr 2)]⟩
theorem c8 : compF Try.prog 8 = some fc8 := by kernel_rfl

/-- kinora/kinoralaw2.BitsReads · parameters 2 · 0:b 1:acts 5:r 6:w 7:i 8:a 9:ok -/
def s9 : S :=
  (.set 4 (.cn (.bool false))
  (.call (some 10) 10 [] []
  (.chk (.un .not (.vr 10))
  (.set 11 (.un .not (.vr 10))
  (.ite (.vr 11)
    (.set 4 (.cn (.bool false))
    .ret)
    .nil
  (.chk (.un .ln (.vr 0))
  (.chk (.gd (.bn (.cm .gtr .i64) (.un .ln (.vr 0)) (.cn (.int .i64 300))) false (.un .ln (.vr 1)))
  (.set 19 (.or (.bn (.cm .gtr .i64) (.un .ln (.vr 0)) (.cn (.int .i64 300))) (.bn (.cm .gtr .i64) (.un .ln (.vr 1)) (.cn (.int .i64 60))))
  (.ite (.vr 19)
    (.set 4 (.cn (.bool true))
    .ret)
    .nil
  (.call (some 21) 16 [(.vr 0)] []
  (.call (some 23) 31 [(.vr 0)] []
  (.set 5 (.vr 21)
  (.set 6 (.vr 23)
  (.chk (.un (.pnil false) (.vr 5))
  (.set 25 (.un (.pnil false) (.vr 5))
  (.ite (.vr 25)
    (.set 4 (.cn (.bool false))
    .ret)
    .nil
  (.set 7 (.cn (.int .i64 0))
  (.blk 0
    (.loop
      (.chk (.un .ln (.vr 1))
      (.chk (.bn (.cm .lss .i64) (.vr 7) (.un .ln (.vr 1)))
      (.set 29 (.bn (.cm .lss .i64) (.vr 7) (.un .ln (.vr 1)))
      (.ite (.vr 29)
        .nil
        (.exit 0)
      (.blk 1
        (.chk (.bn (.ia 3) (.vr 1) (.vr 7))
        (.chk (.ldn 3 (.bn (.ia 3) (.vr 1) (.vr 7)))
        (.set 35 (.ldn 3 (.bn (.ia 3) (.vr 1) (.vr 7)))
        (.op (some 8) (.alloc 49) 0 [] []
        (.st 3 (.vr 8) (.vr 35) []
        (.set 9 (.cn (.bool true))
        (.chk (.un (.fa 0) (.vr 8))
        (.chk (.ld (.un (.fa 0) (.vr 8)))
        (.set 37 (.ld (.un (.fa 0) (.vr 8)))
        (.blk 2
          (.chk (.bn (.cm .eql .i64) (.vr 37) (.cn (.int .i64 0)))
          (.set 47 (.bn (.cm .eql .i64) (.vr 37) (.cn (.int .i64 0)))
          (.ite (.vr 47)
            (.draw
            (.chk (.un (.fa 2) (.vr 8))
            (.chk (.ld (.un (.fa 2) (.vr 8)))
            (.set 51 (.ld (.un (.fa 2) (.vr 8)))
            (.chk (.un (.fa 2) (.vr 8))
            (.chk (.ld (.un (.fa 2) (.vr 8)))
            (.set 55 (.ld (.un (.fa 2) (.vr 8)))
            (.call (some 52) 17 [(.vr 5), (.vr 51)] [⟨6, (.un (.fa 2) (.vr 8)), 1, none⟩]
            (.call (some 56) 32 [(.vr 6), (.vr 55)] []
            (.chk (.bn (.cm .eql .u64) (.vr 52) (.vr 56))
            (.set 9 (.bn (.cm .eql .u64) (.vr 52) (.vr 56))
            .nil)))))))))))
            (.chk (.bn (.cm .eql .i64) (.vr 37) (.cn (.int .i64 1)))
            (.set 58 (.bn (.cm .eql .i64) (.vr 37) (.cn (.int .i64 1)))
            (.ite (.vr 58)
              (.draw
              (.chk (.un (.fa 2) (.vr 8))
              (.chk (.ld (.un (.fa 2) (.vr 8)))
              (.set 62 (.ld (.un (.fa 2) (.vr 8)))
              (.chk (.un (.fa 2) (.vr 8))
              (.chk (.ld (.un (.fa 2) (.vr 8)))
              (.set 66 (.ld (.un (.fa 2) (.vr 8)))
              (.call (some 63) 22 [(.vr 5), (.vr 62)] [⟨6, (.un (.fa 2) (.vr 8)), 1, none⟩]
              (.call (some 67) 33 [(.vr 6), (.vr 66)] []
              (.chk (.bn (.cm .eql .i64) (.vr 63) (.vr 67))
              (.set 9 (.bn (.cm .eql .i64) (.vr 63) (.vr 67))
              .nil)))))))))))
              (.chk (.bn (.cm .eql .i64) (.vr 37) (.cn (.int .i64 2)))
              (.set 69 (.bn (.cm .eql .i64) (.vr 37) (.cn (.int .i64 2)))
              (.ite (.vr 69)
                (.call (some 72) 30 [(.vr 5)] []
                (.call (some 74) 34 [(.vr 6)] []
                .nil))
                (.draw
                (.chk (.un (.fa 2) (.vr 8))
                (.chk (.ld (.un (.fa 2) (.vr 8)))
                (.set 40 (.ld (.un (.fa 2) (.vr 8)))
                (.chk (.un (.fa 2) (.vr 8))
                (.chk (.ld (.un (.fa 2) (.vr 8)))
                (.set 44 (.ld (.un (.fa 2) (.vr 8)))
                (.call (some 41) 29 [(.vr 5), (.vr 40)] [⟨6, (.un (.fa 2) (.vr 8)), 1, none⟩]
                (.call (some 45) 35 [(.vr 6), (.vr 44)] []
                (.chk (.bn (.cm .eql .i64) (.vr 41) (.vr 45))
                (.set 9 (.bn (.cm .eql .i64) (.vr 41) (.vr 45))
                .nil)))))))))))
              .nil)))
            .nil)))
          .nil)))
        (.draw
        (.chk (.un .not (.vr 9))
        (.set 77 (.un .not (.vr 9))
        (.chk (.gd (.vr 77) false (.un .nck (.vr 6)))
        (.chk (.gd (.vr 77) false (.un (.fa 1) (.un .nck (.vr 6))))
        (.chk (.gd (.vr 77) false (.ld (.un (.fa 1) (.un .nck (.vr 6)))))
        (.set 83 (.gd (.vr 77) false (.ld (.un (.fa 1) (.un .nck (.vr 6)))))
        (.ifg (.vr 77) false
          (.call (some 79) 18 [(.vr 5)] [⟨8, (.un (.fa 1) (.un .nck (.vr 6))), 1, (some ((.vr 77), false))⟩]
          .nil)
          (.set 79 (.cn undef)
          .nil)
        (.chk (.gd (.vr 77) false (.bn (.cm .neq .i64) (.vr 79) (.vr 83)))
        (.chk (.or (.vr 77) (.bn (.cm .neq .i64) (.vr 79) (.vr 83)))
        (.set 86 (.or (.vr 77) (.bn (.cm .neq .i64) (.vr 79) (.vr 83)))
        (.ifg (.vr 86) false
          (.call (some 88) 19 [(.vr 5)] []
          .nil)
          (.set 88 (.cn undef)
          .nil)
        (.ifg (.vr 86) false
          (.call (some 90) 36 [(.vr 6)] []
          .nil)
          (.set 90 (.cn undef)
          .nil)
        (.chk (.gd (.vr 86) false (.bn (.cm .neq .i64) (.vr 88) (.vr 90)))
        (.chk (.or (.vr 86) (.bn (.cm .neq .i64) (.vr 88) (.vr 90)))
        (.set 93 (.or (.vr 86) (.bn (.cm .neq .i64) (.vr 88) (.vr 90)))
        (.chk (.gd (.vr 93) false (.un .nck (.vr 6)))
        (.chk (.gd (.vr 93) false (.un (.fa 2) (.un .nck (.vr 6))))
        (.chk (.gd (.vr 93) false (.ld (.un (.fa 2) (.un .nck (.vr 6)))))
        (.set 99 (.gd (.vr 93) false (.ld (.un (.fa 2) (.un .nck (.vr 6)))))
        (.ifg (.vr 93) false
          (.call (some 95) 20 [(.vr 5)] [⟨24, (.un (.fa 2) (.un .nck (.vr 6))), 1, (some ((.vr 93), false))⟩]
          .nil)
          (.set 95 (.cn undef)
          .nil)
        (.chk (.gd (.vr 93) false (.bn (.cm .neq .i64) (.vr 95) (.vr 99)))
        (.chk (.or (.vr 93) (.bn (.cm .neq .i64) (.vr 95) (.vr 99)))
        (.set 101 (.or (.vr 93) (.bn (.cm .neq .i64) (.vr 95) (.vr 99)))
        (.ite (.vr 101)
          (.set 4 (.cn (.bool false))
          .ret)
          .nil
        .nil)))))))))))))))))))))))))))))))))))
      (.chk (.bn (.ar .add .i64) (.vr 7) (.cn (.int .i64 1)))
      (.set 7 (.bn (.ar .add .i64) (.vr 7) (.cn (.int .i64 1)))
      .nil))))))))
  (.set 4 (.cn (.bool true))
  .ret)))))))))))))))))))
def fc9 : Fc := ⟨102, s9, [(.vr 4)]⟩
theorem c9 : compF Try.prog 9 = some fc9 := by kernel_rfl

/-- kinora/kinoralaw2.known · parameters 0 · 1:w 2:e 3:f 4:b 5:r 6:x 7:y -/
def s10 : S :=
  (.set 0 (.cn (.bool false))
  (.op (some 9) (.box 27 (.tmp 8)) 24 [(8, (.cn (.agg #[(.slice none 0 0), (.int .i64 0)])))] []
  (.set 1 (.vr 9)
  (.call (some 11) 11 [(.vr 1), (.cn (.int .u64 5)), (.cn (.int .i64 3))] []
  (.call (some 13) 21 [(.vr 1), (.cn (.int .i64 2))] []
  (.set 2 (.vr 11)
  (.set 3 (.vr 13)
  (.call (some 15) 15 [(.vr 1)] []
  (.set 4 (.vr 15)
  (.call (some 17) 16 [(.vr 4)] []
  (.set 5 (.vr 17)
  (.chk (.un (.pnil false) (.vr 5))
  (.set 19 (.un (.pnil false) (.vr 5))
  (.ite (.vr 19)
    (.set 0 (.cn (.bool false))
    .ret)
    .nil
  (.call (some 21) 17 [(.vr 5), (.cn (.int .i64 3))] []
  (.call (some 23) 22 [(.vr 5), (.cn (.int .i64 9))] []
  (.set 6 (.vr 21)
  (.set 7 (.vr 23)
  (.chk (.bn (.cm .eql .i64) (.vr 2) (.cn (.int .i64 0)))
  (.set 26 (.bn (.cm .eql .i64) (.vr 2) (.cn (.int .i64 0)))
  (.chk (.gd (.vr 26) true (.bn (.cm .eql .i64) (.vr 3) (.cn (.int .i64 0))))
  (.chk (.and (.vr 26) (.bn (.cm .eql .i64) (.vr 3) (.cn (.int .i64 0))))
  (.set 30 (.and (.vr 26) (.bn (.cm .eql .i64) (.vr 3) (.cn (.int .i64 0))))
  (.ifg (.vr 30) true
    (.call (some 32) 13 [(.vr 1)] []
    .nil)
    (.set 32 (.cn undef)
    .nil)
  (.chk (.gd (.vr 30) true (.bn (.cm .eql .i64) (.vr 32) (.cn (.int .i64 6))))
  (.chk (.and (.vr 30) (.bn (.cm .eql .i64) (.vr 32) (.cn (.int .i64 6))))
  (.set 35 (.and (.vr 30) (.bn (.cm .eql .i64) (.vr 32) (.cn (.int .i64 6))))
  (.ifg (.vr 35) true
    (.op (some 37) (.convert 25 9 (.tmp 36)) 9 [(36, (.vr 4))] []
    .nil)
    (.set 37 (.cn undef)
    .nil)
  (.chk (.gd (.vr 35) true (.bn (.eqs false) (.vr 37) (.cn (.string ⟨#[164]⟩))))
  (.chk (.and (.vr 35) (.bn (.eqs false) (.vr 37) (.cn (.string ⟨#[164]⟩))))
  (.set 40 (.and (.vr 35) (.bn (.eqs false) (.vr 37) (.cn (.string ⟨#[164]⟩))))
  (.chk (.gd (.vr 40) true (.bn (.cm .eql .u64) (.vr 6) (.cn (.int .u64 5))))
  (.chk (.and (.vr 40) (.bn (.cm .eql .u64) (.vr 6) (.cn (.int .u64 5))))
  (.set 44 (.and (.vr 40) (.bn (.cm .eql .u64) (.vr 6) (.cn (.int .u64 5))))
  (.chk (.gd (.vr 44) true (.bn (.cm .eql .i64) (.vr 7) (.cn (.int .i64 2))))
  (.chk (.and (.vr 44) (.bn (.cm .eql .i64) (.vr 7) (.cn (.int .i64 2))))
  (.set 48 (.and (.vr 44) (.bn (.cm .eql .i64) (.vr 7) (.cn (.int .i64 2))))
  (.ifg (.vr 48) true
    (.call (some 50) 18 [(.vr 5)] []
    .nil)
    (.set 50 (.cn undef)
    .nil)
  (.chk (.gd (.vr 48) true (.bn (.cm .eql .i64) (.vr 50) (.cn (.int .i64 6))))
  (.chk (.and (.vr 48) (.bn (.cm .eql .i64) (.vr 50) (.cn (.int .i64 6))))
  (.set 53 (.and (.vr 48) (.bn (.cm .eql .i64) (.vr 50) (.cn (.int .i64 6))))
  (.ifg (.vr 53) true
    (.call (some 55) 19 [(.vr 5)] []
    .nil)
    (.set 55 (.cn undef)
    .nil)
  (.chk (.gd (.vr 53) true (.bn (.cm .eql .i64) (.vr 55) (.cn (.int .i64 2))))
  (.chk (.and (.vr 53) (.bn (.cm .eql .i64) (.vr 55) (.cn (.int .i64 2))))
  (.set 0 (.and (.vr 53) (.bn (.cm .eql .i64) (.vr 55) (.cn (.int .i64 2))))
  .ret)))))))))))))))))))))))))))))))))))))))))))))
def fc10 : Fc := ⟨58, s10, [(.vr 0)]⟩
theorem c10 : compF Try.prog 10 = some fc10 := by kernel_rfl

/-- (*kinora/bits.Writer).Put · parameters 3 · 0:w 1:v 2:n 7:i -/
def s11 : S :=
  (.set 6 (.cn (.int .i64 0))
  (.chk (.bn (.cm .lss .i64) (.vr 2) (.cn (.int .i64 0)))
  (.chk (.gd (.bn (.cm .lss .i64) (.vr 2) (.cn (.int .i64 0))) false (.bn (.cm .gtr .i64) (.vr 2) (.cn (.int .i64 64))))
  (.chk (.gd (.or (.bn (.cm .lss .i64) (.vr 2) (.cn (.int .i64 0))) (.bn (.cm .gtr .i64) (.vr 2) (.cn (.int .i64 64)))) false (.bn (.sh false .u64) (.vr 1) (.vr 2)))
  (.set 19 (.or (.or (.bn (.cm .lss .i64) (.vr 2) (.cn (.int .i64 0))) (.bn (.cm .gtr .i64) (.vr 2) (.cn (.int .i64 64)))) (.bn (.cm .neq .u64) (.bn (.sh false .u64) (.vr 1) (.vr 2)) (.cn (.int .u64 0))))
  (.ite (.vr 19)
    (.set 6 (.cn (.int .i64 1))
    .ret)
    .nil
  (.chk (.bn (.ar .sub .i64) (.vr 2) (.cn (.int .i64 1)))
  (.set 7 (.bn (.ar .sub .i64) (.vr 2) (.cn (.int .i64 1)))
  (.blk 0
    (.loop
      (.chk (.bn (.cm .geq .i64) (.vr 7) (.cn (.int .i64 0)))
      (.set 23 (.bn (.cm .geq .i64) (.vr 7) (.cn (.int .i64 0)))
      (.ite (.vr 23)
        .nil
        (.exit 0)
      (.blk 1
        (.chk (.bn (.sh false .u64) (.vr 1) (.vr 7))
        (.call (some 32) 37 [(.vr 0), (.un (.cv .u8) (.bn (.bt .and .u64) (.bn (.sh false .u64) (.vr 1) (.vr 7)) (.cn (.int .u64 1))))] []
        .nil))
      (.chk (.bn (.ar .sub .i64) (.vr 7) (.cn (.int .i64 1)))
      (.set 7 (.bn (.ar .sub .i64) (.vr 7) (.cn (.int .i64 1)))
      .nil)))))))
  (.set 6 (.cn (.int .i64 0))
  .ret))))))))))
def fc11 : Fc := ⟨33, s11, [(.vr 6)]⟩
theorem c11 : compF Try.prog 11 = some fc11 := by kernel_rfl

/-- kinora/kinoralaw2.low · parameters 2 · 0:v 1:n -/
def s12 : S :=
  (.set 4 (.cn (.int .u64 0))
  (.chk (.bn (.cm .geq .i64) (.vr 1) (.cn (.int .i64 64)))
  (.set 6 (.bn (.cm .geq .i64) (.vr 1) (.cn (.int .i64 64)))
  (.ite (.vr 6)
    (.set 4 (.vr 0)
    .ret)
    .nil
  (.chk (.un (.cv .u64) (.vr 1))
  (.chk (.bn (.sh true .u64) (.cn (.int .u64 1)) (.un (.cv .u64) (.vr 1)))
  (.chk (.bn (.bt .and .u64) (.vr 0) (.bn (.ar .sub .u64) (.bn (.sh true .u64) (.cn (.int .u64 1)) (.un (.cv .u64) (.vr 1))) (.cn (.int .u64 1))))
  (.set 4 (.bn (.bt .and .u64) (.vr 0) (.bn (.ar .sub .u64) (.bn (.sh true .u64) (.cn (.int .u64 1)) (.un (.cv .u64) (.vr 1))) (.cn (.int .u64 1))))
  .ret))))))))
def fc12 : Fc := ⟨14, s12, [(.vr 4)]⟩
theorem c12 : compF Try.prog 12 = some fc12 := by kernel_rfl

/-- (*kinora/bits.Writer).Len · parameters 1 · 0:w -/
def s13 : S :=
  (.set 2 (.cn (.int .i64 0))
  (.chk (.un .nck (.vr 0))
  (.chk (.un (.fa 1) (.un .nck (.vr 0)))
  (.chk (.ld (.un (.fa 1) (.un .nck (.vr 0))))
  (.set 2 (.ld (.un (.fa 1) (.un .nck (.vr 0))))
  .ret)))))
def fc13 : Fc := ⟨7, s13, [(.vr 2)]⟩
theorem c13 : compF Try.prog 13 = some fc13 := by kernel_rfl

/-- kinora/kinoraref2.Same · parameters 2 · 0:a 1:b -/
def s14 : S :=
  (.set 4 (.cn (.bool false))
  (.op (some 6) (.convert 25 9 (.tmp 5)) 9 [(5, (.vr 0))] []
  (.op (some 8) (.convert 25 9 (.tmp 7)) 9 [(7, (.vr 1))] []
  (.chk (.bn (.eqs false) (.vr 6) (.vr 8))
  (.set 4 (.bn (.eqs false) (.vr 6) (.vr 8))
  .ret)))))
def fc14 : Fc := ⟨10, s14, [(.vr 4)]⟩
theorem c14 : compF Try.prog 14 = some fc14 := by kernel_rfl

/-- (*kinora/bits.Writer).Bytes · parameters 1 · 0:w -/
def s15 : S :=
  (.set 2 (.cn (.slice none 0 0))
  (.chk (.un .nck (.vr 0))
  (.chk (.un (.fa 0) (.un .nck (.vr 0)))
  (.chk (.ld (.un (.fa 0) (.un .nck (.vr 0))))
  (.set 6 (.ld (.un (.fa 0) (.un .nck (.vr 0))))
  (.op (some 7) (.call ⟨(.builtin .append), #[(.const (.slice none 0 0)), (.tmp 6)], #[25, 25]⟩) 25 [(6, (.vr 6))] []
  (.set 2 (.vr 7)
  .ret)))))))
def fc15 : Fc := ⟨8, s15, [(.vr 2)]⟩
theorem c15 : compF Try.prog 15 = some fc15 := by kernel_rfl

/-- kinora/bits.New · parameters 1 · 0:b -/
def s16 : S :=
  (.set 2 (.cn (.pointer none))
  (.op (some 4) (.call ⟨(.builtin .append), #[(.const (.slice none 0 0)), (.tmp 3)], #[25, 25]⟩) 25 [(3, (.vr 0))] []
  (.chk (.bd 0 1 (.vr 4) (.cn (.agg #[(.slice none 0 0), (.int .i64 0), (.int .i64 0)])))
  (.op (some 6) (.box 60 (.tmp 5)) 36 [(5, (.bd 0 1 (.vr 4) (.cn (.agg #[(.slice none 0 0), (.int .i64 0), (.int .i64 0)]))))] []
  (.set 2 (.vr 6)
  .ret)))))
def fc16 : Fc := ⟨7, s16, [(.vr 2)]⟩
theorem c16 : compF Try.prog 16 = some fc16 := by kernel_rfl

/-- (*kinora/bits.Reader).Get · parameters 2 · 0:r 1:n 5:v -/
def s17 : S :=
  (.set 4 (.cn (.int .u64 0))
  (.chk (.un .nck (.vr 0))
  (.chk (.un (.fa 2) (.un .nck (.vr 0)))
  (.chk (.ld (.un (.fa 2) (.un .nck (.vr 0))))
  (.chk (.bn (.cm .neq .i64) (.ld (.un (.fa 2) (.un .nck (.vr 0)))) (.cn (.int .i64 0)))
  (.set 10 (.bn (.cm .neq .i64) (.ld (.un (.fa 2) (.un .nck (.vr 0)))) (.cn (.int .i64 0)))
  (.ite (.vr 10)
    (.set 4 (.cn (.int .u64 0))
    .ret)
    .nil
  (.chk (.bn (.cm .lss .i64) (.vr 1) (.cn (.int .i64 0)))
  (.chk (.gd (.bn (.cm .lss .i64) (.vr 1) (.cn (.int .i64 0))) false (.bn (.cm .gtr .i64) (.vr 1) (.cn (.int .i64 64))))
  (.set 16 (.or (.bn (.cm .lss .i64) (.vr 1) (.cn (.int .i64 0))) (.bn (.cm .gtr .i64) (.vr 1) (.cn (.int .i64 64))))
  (.ite (.vr 16)
    (.chk (.un .nck (.vr 0))
    (.chk (.un (.fa 2) (.un .nck (.vr 0)))
    (.st 1 (.un (.fa 2) (.un .nck (.vr 0))) (.cn (.int .i64 1)) []
    (.set 4 (.cn (.int .u64 0))
    .ret))))
    .nil
  (.call (some 22) 19 [(.vr 0)] []
  (.chk (.bn (.cm .gtr .i64) (.vr 1) (.vr 22))
  (.set 23 (.bn (.cm .gtr .i64) (.vr 1) (.vr 22))
  (.ite (.vr 23)
    (.chk (.un .nck (.vr 0))
    (.chk (.un (.fa 2) (.un .nck (.vr 0)))
    (.st 1 (.un (.fa 2) (.un .nck (.vr 0))) (.cn (.int .i64 3)) []
    (.set 4 (.cn (.int .u64 0))
    .ret))))
    .nil
  (.set 5 (.cn (.int .u64 0))
  (.set 27 (.vr 1)
  (.set 28 (.cn (.int .i64 0))
  (.blk 0
    (.loop
      (.chk (.bn (.cm .lss .i64) (.vr 28) (.vr 27))
      (.set 29 (.bn (.cm .lss .i64) (.vr 28) (.vr 27))
      (.ite (.vr 29)
        .nil
        (.exit 0)
      (.blk 1
        (.chk (.bn (.sh true .u64) (.vr 5) (.cn (.int .u64 1)))
        (.chk (.un .nck (.vr 0))
        (.chk (.un (.fa 1) (.un .nck (.vr 0)))
        (.chk (.ld (.un (.fa 1) (.un .nck (.vr 0))))
        (.set 36 (.ld (.un (.fa 1) (.un .nck (.vr 0))))
        (.call (some 37) 38 [(.vr 0), (.vr 36)] []
        (.chk (.un (.cv .u64) (.vr 37))
        (.set 5 (.bn (.bt .or .u64) (.bn (.sh true .u64) (.vr 5) (.cn (.int .u64 1))) (.un (.cv .u64) (.vr 37)))
        (.chk (.un .nck (.vr 0))
        (.chk (.un (.fa 1) (.un .nck (.vr 0)))
        (.chk (.ld (.un (.fa 1) (.un .nck (.vr 0))))
        (.set 43 (.ld (.un (.fa 1) (.un .nck (.vr 0))))
        (.chk (.bn (.ar .add .i64) (.vr 43) (.cn (.int .i64 1)))
        (.chk (.un .nck (.vr 0))
        (.chk (.un (.fa 1) (.un .nck (.vr 0)))
        (.st 1 (.un (.fa 1) (.un .nck (.vr 0))) (.bn (.ar .add .i64) (.vr 43) (.cn (.int .i64 1))) []
        .nil))))))))))))))))
      (.chk (.bn (.ar .add .i64) (.vr 28) (.cn (.int .i64 1)))
      (.set 28 (.bn (.ar .add .i64) (.vr 28) (.cn (.int .i64 1)))
      .nil)))))))
  (.set 4 (.vr 5)
  .ret))))))))))))))))))))
def fc17 : Fc := ⟨49, s17, [(.vr 4)]⟩
theorem c17 : compF Try.prog 17 = some fc17 := by kernel_rfl

/-- (*kinora/bits.Reader).At · parameters 1 · 0:r -/
def s18 : S :=
  (.set 2 (.cn (.int .i64 0))
  (.chk (.un .nck (.vr 0))
  (.chk (.un (.fa 1) (.un .nck (.vr 0)))
  (.chk (.ld (.un (.fa 1) (.un .nck (.vr 0))))
  (.set 2 (.ld (.un (.fa 1) (.un .nck (.vr 0))))
  .ret)))))
def fc18 : Fc := ⟨7, s18, [(.vr 2)]⟩
theorem c18 : compF Try.prog 18 = some fc18 := by kernel_rfl

/-- (*kinora/bits.Reader).Left · parameters 1 · 0:r -/
def s19 : S :=
  (.set 2 (.cn (.int .i64 0))
  (.draw
  (.chk (.un .nck (.vr 0))
  (.chk (.un (.fa 0) (.un .nck (.vr 0)))
  (.chk (.ld (.un (.fa 0) (.un .nck (.vr 0))))
  (.chk (.un .ln (.ld (.un (.fa 0) (.un .nck (.vr 0)))))
  (.chk (.un .nck (.vr 0))
  (.chk (.un (.fa 1) (.un .nck (.vr 0)))
  (.chk (.ld (.un (.fa 1) (.un .nck (.vr 0))))
  (.chk (.bn (.ar .sub .i64) (.bn (.ar .mul .i64) (.cn (.int .i64 8)) (.un .ln (.ld (.un (.fa 0) (.un .nck (.vr 0)))))) (.ld (.un (.fa 1) (.un .nck (.vr 0)))))
  (.set 2 (.bn (.ar .sub .i64) (.bn (.ar .mul .i64) (.cn (.int .i64 8)) (.un .ln (.ld (.un (.fa 0) (.un .nck (.vr 0)))))) (.ld (.un (.fa 1) (.un .nck (.vr 0)))))
  .ret)))))))))))
def fc19 : Fc := ⟨14, s19, [(.vr 2)]⟩
theorem c19 : compF Try.prog 19 = some fc19 := by kernel_rfl

/-- (*kinora/bits.Reader).Err · parameters 1 · 0:r -/
def s20 : S :=
  (.set 2 (.cn (.int .i64 0))
  (.chk (.un .nck (.vr 0))
  (.chk (.un (.fa 2) (.un .nck (.vr 0)))
  (.chk (.ld (.un (.fa 2) (.un .nck (.vr 0))))
  (.set 2 (.ld (.un (.fa 2) (.un .nck (.vr 0))))
  .ret)))))
def fc20 : Fc := ⟨7, s20, [(.vr 2)]⟩
theorem c20 : compF Try.prog 20 = some fc20 := by kernel_rfl

/-- (*kinora/bits.Writer).Unary · parameters 2 · 0:w 1:n -/
def s21 : S :=
  (.set 4 (.cn (.int .i64 0))
  (.chk (.bn (.cm .lss .i64) (.vr 1) (.cn (.int .i64 0)))
  (.chk (.gd (.bn (.cm .lss .i64) (.vr 1) (.cn (.int .i64 0))) false (.bn (.cm .gtr .i64) (.vr 1) (.cn (.int .i64 4096))))
  (.set 10 (.or (.bn (.cm .lss .i64) (.vr 1) (.cn (.int .i64 0))) (.bn (.cm .gtr .i64) (.vr 1) (.cn (.int .i64 4096))))
  (.ite (.vr 10)
    (.set 4 (.cn (.int .i64 1))
    .ret)
    .nil
  (.set 11 (.vr 1)
  (.set 12 (.cn (.int .i64 0))
  (.blk 0
    (.loop
      (.chk (.bn (.cm .lss .i64) (.vr 12) (.vr 11))
      (.set 13 (.bn (.cm .lss .i64) (.vr 12) (.vr 11))
      (.ite (.vr 13)
        .nil
        (.exit 0)
      (.blk 1
        (.call (some 15) 37 [(.vr 0), (.cn (.int .u8 0))] []
        .nil)
      (.chk (.bn (.ar .add .i64) (.vr 12) (.cn (.int .i64 1)))
      (.set 12 (.bn (.ar .add .i64) (.vr 12) (.cn (.int .i64 1)))
      .nil)))))))
  (.call (some 18) 37 [(.vr 0), (.cn (.int .u8 1))] []
  (.set 4 (.cn (.int .i64 0))
  .ret))))))))))
def fc21 : Fc := ⟨19, s21, [(.vr 4)]⟩
theorem c21 : compF Try.prog 21 = some fc21 := by kernel_rfl

/-- (*kinora/bits.Reader).Unary · parameters 2 · 0:r 1:most 5:zeros 6:i -/
def s22 : S :=
  (.set 4 (.cn (.int .i64 0))
  (.chk (.un .nck (.vr 0))
  (.chk (.un (.fa 2) (.un .nck (.vr 0)))
  (.chk (.ld (.un (.fa 2) (.un .nck (.vr 0))))
  (.chk (.bn (.cm .neq .i64) (.ld (.un (.fa 2) (.un .nck (.vr 0)))) (.cn (.int .i64 0)))
  (.set 11 (.bn (.cm .neq .i64) (.ld (.un (.fa 2) (.un .nck (.vr 0)))) (.cn (.int .i64 0)))
  (.ite (.vr 11)
    (.set 4 (.cn (.int .i64 0))
    .ret)
    .nil
  (.chk (.bn (.mx .i64) (.vr 1) (.cn (.int .i64 0)))
  (.set 1 (.bn (.mx .i64) (.vr 1) (.cn (.int .i64 0)))
  (.draw
  (.chk (.un .nck (.vr 0))
  (.chk (.un (.fa 1) (.un .nck (.vr 0)))
  (.chk (.ld (.un (.fa 1) (.un .nck (.vr 0))))
  (.set 5 (.cn (.int .i64 0))
  (.set 6 (.ld (.un (.fa 1) (.un .nck (.vr 0))))
  (.blk 0
    (.loop
      (.blk 1
        (.chk (.un .nck (.vr 0))
        (.chk (.un (.fa 0) (.un .nck (.vr 0)))
        (.chk (.ld (.un (.fa 0) (.un .nck (.vr 0))))
        (.chk (.un .ln (.ld (.un (.fa 0) (.un .nck (.vr 0)))))
        (.chk (.bn (.cm .eql .i64) (.vr 6) (.bn (.ar .mul .i64) (.cn (.int .i64 8)) (.un .ln (.ld (.un (.fa 0) (.un .nck (.vr 0)))))))
        (.set 29 (.bn (.cm .eql .i64) (.vr 6) (.bn (.ar .mul .i64) (.cn (.int .i64 8)) (.un .ln (.ld (.un (.fa 0) (.un .nck (.vr 0)))))))
        (.ite (.vr 29)
          (.chk (.un .nck (.vr 0))
          (.chk (.un (.fa 2) (.un .nck (.vr 0)))
          (.st 1 (.un (.fa 2) (.un .nck (.vr 0))) (.cn (.int .i64 3)) []
          (.set 4 (.cn (.int .i64 0))
          .ret))))
          .nil
        (.call (some 35) 38 [(.vr 0), (.vr 6)] []
        (.chk (.bn (.cm .eql .u8) (.vr 35) (.cn (.int .u8 1)))
        (.set 36 (.bn (.cm .eql .u8) (.vr 35) (.cn (.int .u8 1)))
        (.ite (.vr 36)
          (.chk (.bn (.ar .add .i64) (.vr 6) (.cn (.int .i64 1)))
          (.chk (.un .nck (.vr 0))
          (.chk (.un (.fa 1) (.un .nck (.vr 0)))
          (.st 1 (.un (.fa 1) (.un .nck (.vr 0))) (.bn (.ar .add .i64) (.vr 6) (.cn (.int .i64 1))) []
          (.set 4 (.vr 5)
          .ret)))))
          .nil
        (.chk (.bn (.cm .eql .i64) (.vr 5) (.vr 1))
        (.set 45 (.bn (.cm .eql .i64) (.vr 5) (.vr 1))
        (.ite (.vr 45)
          (.chk (.un .nck (.vr 0))
          (.chk (.un (.fa 2) (.un .nck (.vr 0)))
          (.st 1 (.un (.fa 2) (.un .nck (.vr 0))) (.cn (.int .i64 2)) []
          (.set 4 (.cn (.int .i64 0))
          .ret))))
          .nil
        .nil))))))))))))))
      (.chk (.bn (.ar .add .i64) (.vr 5) (.cn (.int .i64 1)))
      (.chk (.bn (.ar .add .i64) (.vr 6) (.cn (.int .i64 1)))
      (.set 5 (.bn (.ar .add .i64) (.vr 5) (.cn (.int .i64 1)))
      (.set 6 (.bn (.ar .add .i64) (.vr 6) (.cn (.int .i64 1)))
      .nil))))))
  .nil))))))))))))))))
def fc22 : Fc := ⟨49, s22, [(.vr 4)]⟩
theorem c22 : compF Try.prog 22 = some fc22 := by kernel_rfl

/-- (*kinora/kinoraref2.Writer).Put · parameters 3 · 0:w 1:v 2:n 7:i -/
def s23 : S :=
  (.set 6 (.cn (.int .i64 0))
  (.chk (.bn (.cm .lss .i64) (.vr 2) (.cn (.int .i64 0)))
  (.chk (.gd (.bn (.cm .lss .i64) (.vr 2) (.cn (.int .i64 0))) false (.bn (.cm .gtr .i64) (.vr 2) (.cn (.int .i64 64))))
  (.chk (.gd (.or (.bn (.cm .lss .i64) (.vr 2) (.cn (.int .i64 0))) (.bn (.cm .gtr .i64) (.vr 2) (.cn (.int .i64 64)))) false (.bn (.cm .lss .i64) (.vr 2) (.cn (.int .i64 64))))
  (.chk (.gd (.gd (.or (.bn (.cm .lss .i64) (.vr 2) (.cn (.int .i64 0))) (.bn (.cm .gtr .i64) (.vr 2) (.cn (.int .i64 64)))) false (.bn (.cm .lss .i64) (.vr 2) (.cn (.int .i64 64)))) true (.un (.cv .u64) (.vr 2)))
  (.chk (.gd (.gd (.or (.bn (.cm .lss .i64) (.vr 2) (.cn (.int .i64 0))) (.bn (.cm .gtr .i64) (.vr 2) (.cn (.int .i64 64)))) false (.bn (.cm .lss .i64) (.vr 2) (.cn (.int .i64 64)))) true (.bn (.sh false .u64) (.vr 1) (.un (.cv .u64) (.vr 2))))
  (.set 24 (.or (.or (.bn (.cm .lss .i64) (.vr 2) (.cn (.int .i64 0))) (.bn (.cm .gtr .i64) (.vr 2) (.cn (.int .i64 64)))) (.and (.bn (.cm .lss .i64) (.vr 2) (.cn (.int .i64 64))) (.bn (.cm .neq .u64) (.bn (.sh false .u64) (.vr 1) (.un (.cv .u64) (.vr 2))) (.cn (.int .u64 0)))))
  (.ite (.vr 24)
    (.set 6 (.cn (.int .i64 1))
    .ret)
    .nil
  (.chk (.bn (.ar .sub .i64) (.vr 2) (.cn (.int .i64 1)))
  (.set 7 (.bn (.ar .sub .i64) (.vr 2) (.cn (.int .i64 1)))
  (.blk 0
    (.loop
      (.chk (.bn (.cm .geq .i64) (.vr 7) (.cn (.int .i64 0)))
      (.set 28 (.bn (.cm .geq .i64) (.vr 7) (.cn (.int .i64 0)))
      (.ite (.vr 28)
        .nil
        (.exit 0)
      (.blk 1
        (.chk (.un .nck (.vr 0))
        (.chk (.un (.fa 0) (.un .nck (.vr 0)))
        (.chk (.ld (.un (.fa 0) (.un .nck (.vr 0))))
        (.set 35 (.ld (.un (.fa 0) (.un .nck (.vr 0))))
        (.chk (.un (.cv .u64) (.vr 7))
        (.chk (.bn (.sh false .u64) (.vr 1) (.un (.cv .u64) (.vr 7)))
        (.op (some 42) (.buildSlice 25 1 #[(0, (.tmp 41))]) 25 [(41, (.un (.cv .u8) (.bn (.bt .and .u64) (.bn (.sh false .u64) (.vr 1) (.un (.cv .u64) (.vr 7))) (.cn (.int .u64 1)))))] []
        (.op (some 43) (.call ⟨(.builtin .append), #[(.tmp 35), (.tmp 42)], #[25, 25]⟩) 25 [(35, (.vr 35)), (42, (.vr 42))] []
        (.chk (.un .nck (.vr 0))
        (.chk (.un (.fa 0) (.un .nck (.vr 0)))
        (.st 1 (.un (.fa 0) (.un .nck (.vr 0))) (.vr 43) []
        .nil)))))))))))
      (.chk (.bn (.ar .sub .i64) (.vr 7) (.cn (.int .i64 1)))
      (.set 7 (.bn (.ar .sub .i64) (.vr 7) (.cn (.int .i64 1)))
      .nil)))))))
  (.set 6 (.cn (.int .i64 0))
  .ret))))))))))))
def fc23 : Fc := ⟨46, s23, [(.vr 6)]⟩
theorem c23 : compF Try.prog 23 = some fc23 := by kernel_rfl

/-- (*kinora/kinoraref2.Writer).Unary · parameters 2 · 0:w 1:n 5:i -/
def s24 : S :=
  (.set 4 (.cn (.int .i64 0))
  (.chk (.bn (.cm .lss .i64) (.vr 1) (.cn (.int .i64 0)))
  (.chk (.gd (.bn (.cm .lss .i64) (.vr 1) (.cn (.int .i64 0))) false (.bn (.cm .gtr .i64) (.vr 1) (.cn (.int .i64 4096))))
  (.set 11 (.or (.bn (.cm .lss .i64) (.vr 1) (.cn (.int .i64 0))) (.bn (.cm .gtr .i64) (.vr 1) (.cn (.int .i64 4096))))
  (.ite (.vr 11)
    (.set 4 (.cn (.int .i64 1))
    .ret)
    .nil
  (.set 5 (.cn (.int .i64 0))
  (.blk 0
    (.loop
      (.chk (.bn (.cm .lss .i64) (.vr 5) (.vr 1))
      (.set 14 (.bn (.cm .lss .i64) (.vr 5) (.vr 1))
      (.ite (.vr 14)
        .nil
        (.exit 0)
      (.blk 1
        (.chk (.un .nck (.vr 0))
        (.chk (.un (.fa 0) (.un .nck (.vr 0)))
        (.chk (.ld (.un (.fa 0) (.un .nck (.vr 0))))
        (.set 21 (.ld (.un (.fa 0) (.un .nck (.vr 0))))
        (.op (some 22) (.buildSlice 25 1 #[(0, (.const (.int .u8 0)))]) 25 [] []
        (.op (some 23) (.call ⟨(.builtin .append), #[(.tmp 21), (.tmp 22)], #[25, 25]⟩) 25 [(21, (.vr 21)), (22, (.vr 22))] []
        (.chk (.un .nck (.vr 0))
        (.chk (.un (.fa 0) (.un .nck (.vr 0)))
        (.st 1 (.un (.fa 0) (.un .nck (.vr 0))) (.vr 23) []
        .nil)))))))))
      (.chk (.bn (.ar .add .i64) (.vr 5) (.cn (.int .i64 1)))
      (.set 5 (.bn (.ar .add .i64) (.vr 5) (.cn (.int .i64 1)))
      .nil)))))))
  (.chk (.un .nck (.vr 0))
  (.chk (.un (.fa 0) (.un .nck (.vr 0)))
  (.chk (.ld (.un (.fa 0) (.un .nck (.vr 0))))
  (.set 30 (.ld (.un (.fa 0) (.un .nck (.vr 0))))
  (.op (some 31) (.buildSlice 25 1 #[(0, (.const (.int .u8 1)))]) 25 [] []
  (.op (some 32) (.call ⟨(.builtin .append), #[(.tmp 30), (.tmp 31)], #[25, 25]⟩) 25 [(30, (.vr 30)), (31, (.vr 31))] []
  (.chk (.un .nck (.vr 0))
  (.chk (.un (.fa 0) (.un .nck (.vr 0)))
  (.st 1 (.un (.fa 0) (.un .nck (.vr 0))) (.vr 32) []
  (.set 4 (.cn (.int .i64 0))
  .ret)))))))))))))))))
def fc24 : Fc := ⟨35, s24, [(.vr 4)]⟩
theorem c24 : compF Try.prog 24 = some fc24 := by kernel_rfl

/-- (*kinora/bits.Writer).Align · parameters 1 · 0:w -/
def s25 : S :=
  (.blk 0
    (.loop
      (.chk (.un .nck (.vr 0))
      (.chk (.un (.fa 1) (.un .nck (.vr 0)))
      (.chk (.ld (.un (.fa 1) (.un .nck (.vr 0))))
      (.chk (.bn (.dv true .i64) (.ld (.un (.fa 1) (.un .nck (.vr 0)))) (.cn (.int .i64 8)))
      (.set 7 (.bn (.cm .neq .i64) (.bn (.dv true .i64) (.ld (.un (.fa 1) (.un .nck (.vr 0)))) (.cn (.int .i64 8))) (.cn (.int .i64 0)))
      (.ite (.vr 7)
        .nil
        (.exit 0)
      (.blk 1
        (.call (some 9) 37 [(.vr 0), (.cn (.int .u8 0))] []
        .nil)
      .nil))))))))
  .nil)
def fc25 : Fc := ⟨10, s25, []⟩
theorem c25 : compF Try.prog 25 = some fc25 := by kernel_rfl

/-- (*kinora/kinoraref2.Writer).Align · parameters 1 · 0:w -/
def s26 : S :=
  (.blk 0
    (.loop
      (.chk (.un .nck (.vr 0))
      (.chk (.un (.fa 0) (.un .nck (.vr 0)))
      (.chk (.ld (.un (.fa 0) (.un .nck (.vr 0))))
      (.chk (.un .ln (.ld (.un (.fa 0) (.un .nck (.vr 0)))))
      (.set 8 (.bn (.cm .neq .i64) (.bn (.dv true .i64) (.un .ln (.ld (.un (.fa 0) (.un .nck (.vr 0))))) (.cn (.int .i64 8))) (.cn (.int .i64 0)))
      (.ite (.vr 8)
        .nil
        (.exit 0)
      (.blk 1
        (.chk (.un .nck (.vr 0))
        (.chk (.un (.fa 0) (.un .nck (.vr 0)))
        (.chk (.ld (.un (.fa 0) (.un .nck (.vr 0))))
        (.set 13 (.ld (.un (.fa 0) (.un .nck (.vr 0))))
        (.op (some 14) (.buildSlice 25 1 #[(0, (.const (.int .u8 0)))]) 25 [] []
        (.op (some 15) (.call ⟨(.builtin .append), #[(.tmp 13), (.tmp 14)], #[25, 25]⟩) 25 [(13, (.vr 13)), (14, (.vr 14))] []
        (.chk (.un .nck (.vr 0))
        (.chk (.un (.fa 0) (.un .nck (.vr 0)))
        (.st 1 (.un (.fa 0) (.un .nck (.vr 0))) (.vr 15) []
        .nil)))))))))
      .nil))))))))
  .nil)
def fc26 : Fc := ⟨18, s26, []⟩
theorem c26 : compF Try.prog 26 = some fc26 := by kernel_rfl

/-- (*kinora/kinoraref2.Writer).Len · parameters 1 · 0:w -/
def s27 : S :=
  (.set 2 (.cn (.int .i64 0))
  (.chk (.un .nck (.vr 0))
  (.chk (.un (.fa 0) (.un .nck (.vr 0)))
  (.chk (.ld (.un (.fa 0) (.un .nck (.vr 0))))
  (.chk (.un .ln (.ld (.un (.fa 0) (.un .nck (.vr 0)))))
  (.set 2 (.un .ln (.ld (.un (.fa 0) (.un .nck (.vr 0)))))
  .ret))))))
def fc27 : Fc := ⟨8, s27, [(.vr 2)]⟩
theorem c27 : compF Try.prog 27 = some fc27 := by kernel_rfl

/-- (*kinora/kinoraref2.Writer).Bytes · parameters 1 · 0:w 3:out 4:i -/
def s28 : S :=
  (.set 2 (.cn (.slice none 0 0))
  (.chk (.un .nck (.vr 0))
  (.chk (.un (.fa 0) (.un .nck (.vr 0)))
  (.chk (.ld (.un (.fa 0) (.un .nck (.vr 0))))
  (.set 8 (.ld (.un (.fa 0) (.un .nck (.vr 0))))
  (.chk (.un .ln (.vr 8))
  (.op (some 12) (.makeSlice 25 (.tmp 11) (.tmp 11)) 25 [(11, (.bn (.dv false .i64) (.bn (.ar .add .i64) (.un .ln (.vr 8)) (.cn (.int .i64 7))) (.cn (.int .i64 8)))), (11, (.bn (.dv false .i64) (.bn (.ar .add .i64) (.un .ln (.vr 8)) (.cn (.int .i64 7))) (.cn (.int .i64 8))))] []
  (.set 3 (.vr 12)
  (.set 4 (.cn (.int .i64 0))
  (.blk 0
    (.loop
      (.chk (.un .nck (.vr 0))
      (.chk (.un (.fa 0) (.un .nck (.vr 0)))
      (.chk (.ld (.un (.fa 0) (.un .nck (.vr 0))))
      (.chk (.un .ln (.ld (.un (.fa 0) (.un .nck (.vr 0)))))
      (.chk (.bn (.cm .lss .i64) (.vr 4) (.un .ln (.ld (.un (.fa 0) (.un .nck (.vr 0))))))
      (.set 19 (.bn (.cm .lss .i64) (.vr 4) (.un .ln (.ld (.un (.fa 0) (.un .nck (.vr 0))))))
      (.ite (.vr 19)
        .nil
        (.exit 0)
      (.blk 1
        (.draw
        (.chk (.bn (.dv false .i64) (.vr 4) (.cn (.int .i64 8)))
        (.chk (.bn (.dv false .i64) (.vr 4) (.cn (.int .i64 8)))
        (.chk (.bn (.ia 1) (.vr 3) (.bn (.dv false .i64) (.vr 4) (.cn (.int .i64 8))))
        (.chk (.ld (.bn (.ia 1) (.vr 3) (.bn (.dv false .i64) (.vr 4) (.cn (.int .i64 8)))))
        (.set 29 (.ld (.bn (.ia 1) (.vr 3) (.bn (.dv false .i64) (.vr 4) (.cn (.int .i64 8)))))
        (.chk (.un .nck (.vr 0))
        (.chk (.un (.fa 0) (.un .nck (.vr 0)))
        (.chk (.ld (.un (.fa 0) (.un .nck (.vr 0))))
        (.set 33 (.ld (.un (.fa 0) (.un .nck (.vr 0))))
        (.chk (.bn (.ia 1) (.vr 33) (.vr 4))
        (.chk (.ld (.bn (.ia 1) (.vr 33) (.vr 4)))
        (.set 36 (.ld (.bn (.ia 1) (.vr 33) (.vr 4)))
        (.chk (.bn (.dv true .i64) (.vr 4) (.cn (.int .i64 8)))
        (.chk (.bn (.sh true .u8) (.vr 36) (.un (.cv .u64) (.bn (.ar .sub .i64) (.cn (.int .i64 7)) (.bn (.dv true .i64) (.vr 4) (.cn (.int .i64 8))))))
        (.chk (.bn (.bt .or .u8) (.vr 29) (.bn (.sh true .u8) (.vr 36) (.un (.cv .u64) (.bn (.ar .sub .i64) (.cn (.int .i64 7)) (.bn (.dv true .i64) (.vr 4) (.cn (.int .i64 8)))))))
        (.chk (.bn (.ia 1) (.vr 3) (.bn (.dv false .i64) (.vr 4) (.cn (.int .i64 8))))
        (.st 1 (.bn (.ia 1) (.vr 3) (.bn (.dv false .i64) (.vr 4) (.cn (.int .i64 8)))) (.bn (.bt .or .u8) (.vr 29) (.bn (.sh true .u8) (.vr 36) (.un (.cv .u64) (.bn (.ar .sub .i64) (.cn (.int .i64 7)) (.bn (.dv true .i64) (.vr 4) (.cn (.int .i64 8))))))) []
        .nil))))))))))))))))))
      (.chk (.bn (.ar .add .i64) (.vr 4) (.cn (.int .i64 1)))
      (.set 4 (.bn (.ar .add .i64) (.vr 4) (.cn (.int .i64 1)))
      .nil)))))))))))
  (.set 2 (.vr 3)
  .ret)))))))))))
def fc28 : Fc := ⟨45, s28, [(.vr 2)]⟩
theorem c28 : compF Try.prog 28 = some fc28 := by kernel_rfl

/-- (*kinora/bits.Reader).Signed · parameters 2 · 0:r 1:n 5:v -/
def s29 : S :=
  (.set 4 (.cn (.int .i64 0))
  (.call (some 8) 17 [(.vr 0), (.vr 1)] []
  (.set 5 (.vr 8)
  (.chk (.un .nck (.vr 0))
  (.chk (.un (.fa 2) (.un .nck (.vr 0)))
  (.chk (.ld (.un (.fa 2) (.un .nck (.vr 0))))
  (.chk (.bn (.cm .neq .i64) (.ld (.un (.fa 2) (.un .nck (.vr 0)))) (.cn (.int .i64 0)))
  (.chk (.gd (.bn (.cm .neq .i64) (.ld (.un (.fa 2) (.un .nck (.vr 0)))) (.cn (.int .i64 0))) false (.bn (.cm .eql .i64) (.vr 1) (.cn (.int .i64 0))))
  (.set 17 (.or (.bn (.cm .neq .i64) (.ld (.un (.fa 2) (.un .nck (.vr 0)))) (.cn (.int .i64 0))) (.bn (.cm .eql .i64) (.vr 1) (.cn (.int .i64 0))))
  (.ite (.vr 17)
    (.set 4 (.cn (.int .i64 0))
    .ret)
    .nil
  (.chk (.bn (.ar .sub .i64) (.cn (.int .i64 64)) (.vr 1))
  (.chk (.bn (.sh true .u64) (.vr 5) (.bn (.ar .sub .i64) (.cn (.int .i64 64)) (.vr 1)))
  (.chk (.bn (.ar .sub .i64) (.cn (.int .i64 64)) (.vr 1))
  (.chk (.bn (.sh false .i64) (.un (.cv .i64) (.bn (.sh true .u64) (.vr 5) (.bn (.ar .sub .i64) (.cn (.int .i64 64)) (.vr 1)))) (.bn (.ar .sub .i64) (.cn (.int .i64 64)) (.vr 1)))
  (.set 4 (.bn (.sh false .i64) (.un (.cv .i64) (.bn (.sh true .u64) (.vr 5) (.bn (.ar .sub .i64) (.cn (.int .i64 64)) (.vr 1)))) (.bn (.ar .sub .i64) (.cn (.int .i64 64)) (.vr 1)))
  .ret)))))))))))))))
def fc29 : Fc := ⟨26, s29, [(.vr 4)]⟩
theorem c29 : compF Try.prog 29 = some fc29 := by kernel_rfl

/-- (*kinora/bits.Reader).Align · parameters 1 · 0:r 2:end 3:i -/
def s30 : S :=
  (.chk (.un .nck (.vr 0))
  (.chk (.un (.fa 2) (.un .nck (.vr 0)))
  (.chk (.ld (.un (.fa 2) (.un .nck (.vr 0))))
  (.chk (.bn (.cm .neq .i64) (.ld (.un (.fa 2) (.un .nck (.vr 0)))) (.cn (.int .i64 0)))
  (.set 8 (.bn (.cm .neq .i64) (.ld (.un (.fa 2) (.un .nck (.vr 0)))) (.cn (.int .i64 0)))
  (.ite (.vr 8)
    .ret
    .nil
  (.chk (.un .nck (.vr 0))
  (.chk (.un (.fa 1) (.un .nck (.vr 0)))
  (.chk (.ld (.un (.fa 1) (.un .nck (.vr 0))))
  (.chk (.bn (.ar .add .i64) (.ld (.un (.fa 1) (.un .nck (.vr 0)))) (.cn (.int .i64 7)))
  (.set 2 (.bn (.ar .mul .i64) (.bn (.dv false .i64) (.bn (.ar .add .i64) (.ld (.un (.fa 1) (.un .nck (.vr 0)))) (.cn (.int .i64 7))) (.cn (.int .i64 8))) (.cn (.int .i64 8)))
  (.chk (.un .nck (.vr 0))
  (.chk (.un (.fa 1) (.un .nck (.vr 0)))
  (.chk (.ld (.un (.fa 1) (.un .nck (.vr 0))))
  (.set 3 (.ld (.un (.fa 1) (.un .nck (.vr 0))))
  (.blk 0
    (.loop
      (.chk (.bn (.cm .lss .i64) (.vr 3) (.vr 2))
      (.set 22 (.bn (.cm .lss .i64) (.vr 3) (.vr 2))
      (.ite (.vr 22)
        .nil
        (.exit 0)
      (.blk 1
        (.call (some 27) 38 [(.vr 0), (.vr 3)] []
        (.chk (.bn (.cm .eql .u8) (.vr 27) (.cn (.int .u8 1)))
        (.set 28 (.bn (.cm .eql .u8) (.vr 27) (.cn (.int .u8 1)))
        (.ite (.vr 28)
          (.chk (.un .nck (.vr 0))
          (.chk (.un (.fa 2) (.un .nck (.vr 0)))
          (.st 1 (.un (.fa 2) (.un .nck (.vr 0))) (.cn (.int .i64 2)) []
          .ret)))
          .nil
        .nil))))
      (.chk (.bn (.ar .add .i64) (.vr 3) (.cn (.int .i64 1)))
      (.set 3 (.bn (.ar .add .i64) (.vr 3) (.cn (.int .i64 1)))
      .nil)))))))
  (.chk (.un .nck (.vr 0))
  (.chk (.un (.fa 1) (.un .nck (.vr 0)))
  (.st 1 (.un (.fa 1) (.un .nck (.vr 0))) (.vr 2) []
  .nil)))))))))))))))))))
def fc30 : Fc := ⟨36, s30, []⟩
theorem c30 : compF Try.prog 30 = some fc30 := by kernel_rfl

/-- kinora/kinoraref2.NewReader · parameters 1 · 0:b -/
def s31 : S :=
  (.set 2 (.cn (.pointer none))
  (.chk (.bd 0 1 (.vr 0) (.cn (.agg #[(.slice none 0 0), (.int .i64 0), (.int .i64 0)])))
  (.op (some 5) (.box 56 (.tmp 4)) 53 [(4, (.bd 0 1 (.vr 0) (.cn (.agg #[(.slice none 0 0), (.int .i64 0), (.int .i64 0)]))))] []
  (.set 2 (.vr 5)
  .ret))))
def fc31 : Fc := ⟨6, s31, [(.vr 2)]⟩
theorem c31 : compF Try.prog 31 = some fc31 := by kernel_rfl

/-- (*kinora/kinoraref2.Reader).Get · parameters 2 · 0:r 1:n 5:v 6:i -/
def s32 : S :=
  (.set 4 (.cn (.int .u64 0))
  (.chk (.un .nck (.vr 0))
  (.chk (.un (.fa 2) (.un .nck (.vr 0)))
  (.chk (.ld (.un (.fa 2) (.un .nck (.vr 0))))
  (.chk (.bn (.cm .neq .i64) (.ld (.un (.fa 2) (.un .nck (.vr 0)))) (.cn (.int .i64 0)))
  (.set 11 (.bn (.cm .neq .i64) (.ld (.un (.fa 2) (.un .nck (.vr 0)))) (.cn (.int .i64 0)))
  (.ite (.vr 11)
    (.set 4 (.cn (.int .u64 0))
    .ret)
    .nil
  (.chk (.bn (.cm .lss .i64) (.vr 1) (.cn (.int .i64 0)))
  (.chk (.gd (.bn (.cm .lss .i64) (.vr 1) (.cn (.int .i64 0))) false (.bn (.cm .gtr .i64) (.vr 1) (.cn (.int .i64 64))))
  (.set 17 (.or (.bn (.cm .lss .i64) (.vr 1) (.cn (.int .i64 0))) (.bn (.cm .gtr .i64) (.vr 1) (.cn (.int .i64 64))))
  (.ite (.vr 17)
    (.chk (.un .nck (.vr 0))
    (.chk (.un (.fa 2) (.un .nck (.vr 0)))
    (.st 1 (.un (.fa 2) (.un .nck (.vr 0))) (.cn (.int .i64 1)) []
    (.set 4 (.cn (.int .u64 0))
    .ret))))
    .nil
  (.call (some 23) 36 [(.vr 0)] []
  (.chk (.bn (.cm .gtr .i64) (.vr 1) (.vr 23))
  (.set 24 (.bn (.cm .gtr .i64) (.vr 1) (.vr 23))
  (.ite (.vr 24)
    (.chk (.un .nck (.vr 0))
    (.chk (.un (.fa 2) (.un .nck (.vr 0)))
    (.st 1 (.un (.fa 2) (.un .nck (.vr 0))) (.cn (.int .i64 3)) []
    (.set 4 (.cn (.int .u64 0))
    .ret))))
    .nil
  (.set 5 (.cn (.int .u64 0))
  (.set 6 (.cn (.int .i64 0))
  (.blk 0
    (.loop
      (.chk (.bn (.cm .lss .i64) (.vr 6) (.vr 1))
      (.set 30 (.bn (.cm .lss .i64) (.vr 6) (.vr 1))
      (.ite (.vr 30)
        .nil
        (.exit 0)
      (.blk 1
        (.chk (.bn (.sh true .u64) (.vr 5) (.cn (.int .u64 1)))
        (.chk (.un .nck (.vr 0))
        (.chk (.un (.fa 1) (.un .nck (.vr 0)))
        (.chk (.ld (.un (.fa 1) (.un .nck (.vr 0))))
        (.set 39 (.ld (.un (.fa 1) (.un .nck (.vr 0))))
        (.chk (.bn (.ar .add .i64) (.vr 39) (.vr 6))
        (.call (some 42) 39 [(.vr 0), (.bn (.ar .add .i64) (.vr 39) (.vr 6))] []
        (.chk (.bn (.bt .or .u64) (.bn (.sh true .u64) (.vr 5) (.cn (.int .u64 1))) (.vr 42))
        (.set 5 (.bn (.bt .or .u64) (.bn (.sh true .u64) (.vr 5) (.cn (.int .u64 1))) (.vr 42))
        .nil)))))))))
      (.chk (.bn (.ar .add .i64) (.vr 6) (.cn (.int .i64 1)))
      (.set 6 (.bn (.ar .add .i64) (.vr 6) (.cn (.int .i64 1)))
      .nil)))))))
  (.chk (.un .nck (.vr 0))
  (.chk (.un (.fa 1) (.un .nck (.vr 0)))
  (.chk (.ld (.un (.fa 1) (.un .nck (.vr 0))))
  (.set 48 (.ld (.un (.fa 1) (.un .nck (.vr 0))))
  (.chk (.bn (.ar .add .i64) (.vr 48) (.vr 1))
  (.chk (.un .nck (.vr 0))
  (.chk (.un (.fa 1) (.un .nck (.vr 0)))
  (.st 1 (.un (.fa 1) (.un .nck (.vr 0))) (.bn (.ar .add .i64) (.vr 48) (.vr 1)) []
  (.set 4 (.vr 5)
  .ret)))))))))))))))))))))))))))
def fc32 : Fc := ⟨54, s32, [(.vr 4)]⟩
theorem c32 : compF Try.prog 32 = some fc32 := by kernel_rfl

/-- (*kinora/kinoraref2.Reader).Unary · parameters 2 · 0:r 1:most 5:i -/
def s33 : S :=
  (.set 4 (.cn (.int .i64 0))
  (.chk (.un .nck (.vr 0))
  (.chk (.un (.fa 2) (.un .nck (.vr 0)))
  (.chk (.ld (.un (.fa 2) (.un .nck (.vr 0))))
  (.chk (.bn (.cm .neq .i64) (.ld (.un (.fa 2) (.un .nck (.vr 0)))) (.cn (.int .i64 0)))
  (.set 10 (.bn (.cm .neq .i64) (.ld (.un (.fa 2) (.un .nck (.vr 0)))) (.cn (.int .i64 0)))
  (.ite (.vr 10)
    (.set 4 (.cn (.int .i64 0))
    .ret)
    .nil
  (.chk (.bn (.mx .i64) (.vr 1) (.cn (.int .i64 0)))
  (.set 1 (.bn (.mx .i64) (.vr 1) (.cn (.int .i64 0)))
  (.set 5 (.cn (.int .i64 0))
  (.blk 0
    (.loop
      (.call (some 15) 36 [(.vr 0)] []
      (.chk (.bn (.cm .lss .i64) (.vr 5) (.vr 15))
      (.set 16 (.bn (.cm .lss .i64) (.vr 5) (.vr 15))
      (.ite (.vr 16)
        .nil
        (.exit 0)
      (.blk 1
        (.chk (.un .nck (.vr 0))
        (.chk (.un (.fa 1) (.un .nck (.vr 0)))
        (.chk (.ld (.un (.fa 1) (.un .nck (.vr 0))))
        (.set 23 (.ld (.un (.fa 1) (.un .nck (.vr 0))))
        (.chk (.bn (.ar .add .i64) (.vr 23) (.vr 5))
        (.call (some 26) 39 [(.vr 0), (.bn (.ar .add .i64) (.vr 23) (.vr 5))] []
        (.chk (.bn (.cm .eql .u64) (.vr 26) (.cn (.int .u64 1)))
        (.set 27 (.bn (.cm .eql .u64) (.vr 26) (.cn (.int .u64 1)))
        (.ite (.vr 27)
          (.chk (.un .nck (.vr 0))
          (.chk (.un (.fa 1) (.un .nck (.vr 0)))
          (.chk (.ld (.un (.fa 1) (.un .nck (.vr 0))))
          (.set 32 (.ld (.un (.fa 1) (.un .nck (.vr 0))))
          (.chk (.bn (.ar .add .i64) (.vr 32) (.vr 5))
          (.chk (.un .nck (.vr 0))
          (.chk (.un (.fa 1) (.un .nck (.vr 0)))
          (.st 1 (.un (.fa 1) (.un .nck (.vr 0))) (.bn (.ar .add .i64) (.bn (.ar .add .i64) (.vr 32) (.vr 5)) (.cn (.int .i64 1))) []
          (.set 4 (.vr 5)
          .ret)))))))))
          .nil
        (.chk (.bn (.cm .geq .i64) (.vr 5) (.vr 1))
        (.set 41 (.bn (.cm .geq .i64) (.vr 5) (.vr 1))
        (.ite (.vr 41)
          (.chk (.un .nck (.vr 0))
          (.chk (.un (.fa 2) (.un .nck (.vr 0)))
          (.st 1 (.un (.fa 2) (.un .nck (.vr 0))) (.cn (.int .i64 2)) []
          (.set 4 (.cn (.int .i64 0))
          .ret))))
          .nil
        .nil))))))))))))
      (.chk (.bn (.ar .add .i64) (.vr 5) (.cn (.int .i64 1)))
      (.set 5 (.bn (.ar .add .i64) (.vr 5) (.cn (.int .i64 1)))
      .nil))))))))
  (.chk (.un .nck (.vr 0))
  (.chk (.un (.fa 2) (.un .nck (.vr 0)))
  (.st 1 (.un (.fa 2) (.un .nck (.vr 0))) (.cn (.int .i64 3)) []
  (.set 4 (.cn (.int .i64 0))
  .ret)))))))))))))))
def fc33 : Fc := ⟨48, s33, [(.vr 4)]⟩
theorem c33 : compF Try.prog 33 = some fc33 := by kernel_rfl

/-- (*kinora/kinoraref2.Reader).Align · parameters 1 · 0:r 2:at -/
def s34 : S :=
  (.chk (.un .nck (.vr 0))
  (.chk (.un (.fa 2) (.un .nck (.vr 0)))
  (.chk (.ld (.un (.fa 2) (.un .nck (.vr 0))))
  (.chk (.bn (.cm .neq .i64) (.ld (.un (.fa 2) (.un .nck (.vr 0)))) (.cn (.int .i64 0)))
  (.set 7 (.bn (.cm .neq .i64) (.ld (.un (.fa 2) (.un .nck (.vr 0)))) (.cn (.int .i64 0)))
  (.ite (.vr 7)
    .ret
    .nil
  (.chk (.un .nck (.vr 0))
  (.chk (.un (.fa 1) (.un .nck (.vr 0)))
  (.chk (.ld (.un (.fa 1) (.un .nck (.vr 0))))
  (.set 2 (.ld (.un (.fa 1) (.un .nck (.vr 0))))
  (.blk 0
    (.loop
      (.chk (.bn (.dv true .i64) (.vr 2) (.cn (.int .i64 8)))
      (.set 14 (.bn (.cm .neq .i64) (.bn (.dv true .i64) (.vr 2) (.cn (.int .i64 8))) (.cn (.int .i64 0)))
      (.ite (.vr 14)
        .nil
        (.exit 0)
      (.blk 1
        (.call (some 17) 39 [(.vr 0), (.vr 2)] []
        (.chk (.bn (.cm .eql .u64) (.vr 17) (.cn (.int .u64 1)))
        (.set 18 (.bn (.cm .eql .u64) (.vr 17) (.cn (.int .u64 1)))
        (.ite (.vr 18)
          (.chk (.un .nck (.vr 0))
          (.chk (.un (.fa 2) (.un .nck (.vr 0)))
          (.st 1 (.un (.fa 2) (.un .nck (.vr 0))) (.cn (.int .i64 2)) []
          .ret)))
          .nil
        (.chk (.bn (.ar .add .i64) (.vr 2) (.cn (.int .i64 1)))
        (.set 2 (.bn (.ar .add .i64) (.vr 2) (.cn (.int .i64 1)))
        .nil))))))
      .nil)))))
  (.chk (.un .nck (.vr 0))
  (.chk (.un (.fa 1) (.un .nck (.vr 0)))
  (.st 1 (.un (.fa 1) (.un .nck (.vr 0))) (.vr 2) []
  .nil))))))))))))))
def fc34 : Fc := ⟨28, s34, []⟩
theorem c34 : compF Try.prog 34 = some fc34 := by kernel_rfl

/-- (*kinora/kinoraref2.Reader).Signed · parameters 2 · 0:r 1:n 5:v -/
def s35 : S :=
  (.set 4 (.cn (.int .i64 0))
  (.call (some 8) 32 [(.vr 0), (.vr 1)] []
  (.set 5 (.vr 8)
  (.chk (.un .nck (.vr 0))
  (.chk (.un (.fa 2) (.un .nck (.vr 0)))
  (.chk (.ld (.un (.fa 2) (.un .nck (.vr 0))))
  (.chk (.bn (.cm .neq .i64) (.ld (.un (.fa 2) (.un .nck (.vr 0)))) (.cn (.int .i64 0)))
  (.chk (.gd (.bn (.cm .neq .i64) (.ld (.un (.fa 2) (.un .nck (.vr 0)))) (.cn (.int .i64 0))) false (.bn (.cm .eql .i64) (.vr 1) (.cn (.int .i64 0))))
  (.set 17 (.or (.bn (.cm .neq .i64) (.ld (.un (.fa 2) (.un .nck (.vr 0)))) (.cn (.int .i64 0))) (.bn (.cm .eql .i64) (.vr 1) (.cn (.int .i64 0))))
  (.ite (.vr 17)
    (.set 4 (.cn (.int .i64 0))
    .ret)
    .nil
  (.chk (.bn (.ar .sub .i64) (.cn (.int .i64 64)) (.vr 1))
  (.chk (.bn (.sh true .u64) (.vr 5) (.un (.cv .u64) (.bn (.ar .sub .i64) (.cn (.int .i64 64)) (.vr 1))))
  (.chk (.bn (.ar .sub .i64) (.cn (.int .i64 64)) (.vr 1))
  (.chk (.bn (.sh false .i64) (.un (.cv .i64) (.bn (.sh true .u64) (.vr 5) (.un (.cv .u64) (.bn (.ar .sub .i64) (.cn (.int .i64 64)) (.vr 1))))) (.un (.cv .u64) (.bn (.ar .sub .i64) (.cn (.int .i64 64)) (.vr 1))))
  (.set 4 (.bn (.sh false .i64) (.un (.cv .i64) (.bn (.sh true .u64) (.vr 5) (.un (.cv .u64) (.bn (.ar .sub .i64) (.cn (.int .i64 64)) (.vr 1))))) (.un (.cv .u64) (.bn (.ar .sub .i64) (.cn (.int .i64 64)) (.vr 1))))
  .ret)))))))))))))))
def fc35 : Fc := ⟨28, s35, [(.vr 4)]⟩
theorem c35 : compF Try.prog 35 = some fc35 := by kernel_rfl

/-- (*kinora/kinoraref2.Reader).Left · parameters 1 · 0:r -/
def s36 : S :=
  (.set 2 (.cn (.int .i64 0))
  (.draw
  (.chk (.un .nck (.vr 0))
  (.chk (.un (.fa 0) (.un .nck (.vr 0)))
  (.chk (.ld (.un (.fa 0) (.un .nck (.vr 0))))
  (.chk (.un .ln (.ld (.un (.fa 0) (.un .nck (.vr 0)))))
  (.chk (.un .nck (.vr 0))
  (.chk (.un (.fa 1) (.un .nck (.vr 0)))
  (.chk (.ld (.un (.fa 1) (.un .nck (.vr 0))))
  (.chk (.bn (.ar .sub .i64) (.bn (.ar .mul .i64) (.cn (.int .i64 8)) (.un .ln (.ld (.un (.fa 0) (.un .nck (.vr 0)))))) (.ld (.un (.fa 1) (.un .nck (.vr 0)))))
  (.set 2 (.bn (.ar .sub .i64) (.bn (.ar .mul .i64) (.cn (.int .i64 8)) (.un .ln (.ld (.un (.fa 0) (.un .nck (.vr 0)))))) (.ld (.un (.fa 1) (.un .nck (.vr 0)))))
  .ret)))))))))))
def fc36 : Fc := ⟨14, s36, [(.vr 2)]⟩
theorem c36 : compF Try.prog 36 = some fc36 := by kernel_rfl

/-- (*kinora/bits.Writer).bit · parameters 2 · 0:w 1:b -/
def s37 : S :=
  (.chk (.un .nck (.vr 0))
  (.chk (.un (.fa 1) (.un .nck (.vr 0)))
  (.chk (.ld (.un (.fa 1) (.un .nck (.vr 0))))
  (.chk (.bn (.dv true .i64) (.ld (.un (.fa 1) (.un .nck (.vr 0)))) (.cn (.int .i64 8)))
  (.set 9 (.bn (.cm .eql .i64) (.bn (.dv true .i64) (.ld (.un (.fa 1) (.un .nck (.vr 0)))) (.cn (.int .i64 8))) (.cn (.int .i64 0)))
  (.ite (.vr 9)
    (.chk (.un .nck (.vr 0))
    (.chk (.un (.fa 0) (.un .nck (.vr 0)))
    (.chk (.ld (.un (.fa 0) (.un .nck (.vr 0))))
    (.set 14 (.ld (.un (.fa 0) (.un .nck (.vr 0))))
    (.op (some 15) (.buildSlice 25 1 #[(0, (.const (.int .u8 0)))]) 25 [] []
    (.op (some 16) (.call ⟨(.builtin .append), #[(.tmp 14), (.tmp 15)], #[25, 25]⟩) 25 [(14, (.vr 14)), (15, (.vr 15))] []
    (.chk (.un .nck (.vr 0))
    (.chk (.un (.fa 0) (.un .nck (.vr 0)))
    (.st 1 (.un (.fa 0) (.un .nck (.vr 0))) (.vr 16) []
    .nil)))))))))
    .nil
  (.draw
  (.chk (.un .nck (.vr 0))
  (.chk (.un (.fa 0) (.un .nck (.vr 0)))
  (.chk (.ld (.un (.fa 0) (.un .nck (.vr 0))))
  (.set 22 (.ld (.un (.fa 0) (.un .nck (.vr 0))))
  (.chk (.un .nck (.vr 0))
  (.chk (.un (.fa 1) (.un .nck (.vr 0)))
  (.chk (.ld (.un (.fa 1) (.un .nck (.vr 0))))
  (.set 26 (.ld (.un (.fa 1) (.un .nck (.vr 0))))
  (.chk (.bn (.dv false .i64) (.vr 26) (.cn (.int .i64 8)))
  (.chk (.bn (.ia 1) (.vr 22) (.bn (.dv false .i64) (.vr 26) (.cn (.int .i64 8))))
  (.chk (.ld (.bn (.ia 1) (.vr 22) (.bn (.dv false .i64) (.vr 26) (.cn (.int .i64 8)))))
  (.set 29 (.ld (.bn (.ia 1) (.vr 22) (.bn (.dv false .i64) (.vr 26) (.cn (.int .i64 8)))))
  (.chk (.un .nck (.vr 0))
  (.chk (.un (.fa 1) (.un .nck (.vr 0)))
  (.chk (.ld (.un (.fa 1) (.un .nck (.vr 0))))
  (.set 34 (.ld (.un (.fa 1) (.un .nck (.vr 0))))
  (.chk (.bn (.dv true .i64) (.vr 34) (.cn (.int .i64 8)))
  (.chk (.bn (.sh true .u8) (.vr 1) (.bn (.ar .sub .i64) (.cn (.int .i64 7)) (.bn (.dv true .i64) (.vr 34) (.cn (.int .i64 8)))))
  (.chk (.bn (.bt .or .u8) (.vr 29) (.bn (.sh true .u8) (.vr 1) (.bn (.ar .sub .i64) (.cn (.int .i64 7)) (.bn (.dv true .i64) (.vr 34) (.cn (.int .i64 8))))))
  (.chk (.bn (.ia 1) (.vr 22) (.bn (.dv false .i64) (.vr 26) (.cn (.int .i64 8))))
  (.st 1 (.bn (.ia 1) (.vr 22) (.bn (.dv false .i64) (.vr 26) (.cn (.int .i64 8)))) (.bn (.bt .or .u8) (.vr 29) (.bn (.sh true .u8) (.vr 1) (.bn (.ar .sub .i64) (.cn (.int .i64 7)) (.bn (.dv true .i64) (.vr 34) (.cn (.int .i64 8)))))) []
  (.chk (.un .nck (.vr 0))
  (.chk (.un (.fa 1) (.un .nck (.vr 0)))
  (.chk (.ld (.un (.fa 1) (.un .nck (.vr 0))))
  (.set 43 (.ld (.un (.fa 1) (.un .nck (.vr 0))))
  (.chk (.bn (.ar .add .i64) (.vr 43) (.cn (.int .i64 1)))
  (.chk (.un .nck (.vr 0))
  (.chk (.un (.fa 1) (.un .nck (.vr 0)))
  (.st 1 (.un (.fa 1) (.un .nck (.vr 0))) (.bn (.ar .add .i64) (.vr 43) (.cn (.int .i64 1))) []
  .nil))))))))))))))))))))))))))))))))))))
def fc37 : Fc := ⟨47, s37, []⟩
theorem c37 : compF Try.prog 37 = some fc37 := by kernel_rfl

/-- (*kinora/bits.Reader).look · parameters 2 · 0:r 1:i -/
def s38 : S :=
  (.set 4 (.cn (.int .u8 0))
  (.chk (.un .nck (.vr 0))
  (.chk (.un (.fa 0) (.un .nck (.vr 0)))
  (.chk (.ld (.un (.fa 0) (.un .nck (.vr 0))))
  (.chk (.bn (.dv false .i64) (.vr 1) (.cn (.int .i64 8)))
  (.chk (.bn (.ia 1) (.ld (.un (.fa 0) (.un .nck (.vr 0)))) (.bn (.dv false .i64) (.vr 1) (.cn (.int .i64 8))))
  (.chk (.ld (.bn (.ia 1) (.ld (.un (.fa 0) (.un .nck (.vr 0)))) (.bn (.dv false .i64) (.vr 1) (.cn (.int .i64 8)))))
  (.chk (.bn (.dv true .i64) (.vr 1) (.cn (.int .i64 8)))
  (.chk (.bn (.sh false .u8) (.ld (.bn (.ia 1) (.ld (.un (.fa 0) (.un .nck (.vr 0)))) (.bn (.dv false .i64) (.vr 1) (.cn (.int .i64 8))))) (.bn (.ar .sub .i64) (.cn (.int .i64 7)) (.bn (.dv true .i64) (.vr 1) (.cn (.int .i64 8)))))
  (.set 4 (.bn (.bt .and .u8) (.bn (.sh false .u8) (.ld (.bn (.ia 1) (.ld (.un (.fa 0) (.un .nck (.vr 0)))) (.bn (.dv false .i64) (.vr 1) (.cn (.int .i64 8))))) (.bn (.ar .sub .i64) (.cn (.int .i64 7)) (.bn (.dv true .i64) (.vr 1) (.cn (.int .i64 8))))) (.cn (.int .u8 1)))
  .ret))))))))))
def fc38 : Fc := ⟨18, s38, [(.vr 4)]⟩
theorem c38 : compF Try.prog 38 = some fc38 := by kernel_rfl

/-- (*kinora/kinoraref2.Reader).bit · parameters 2 · 0:r 1:at -/
def s39 : S :=
  (.set 4 (.cn (.int .u64 0))
  (.chk (.un .nck (.vr 0))
  (.chk (.un (.fa 0) (.un .nck (.vr 0)))
  (.chk (.ld (.un (.fa 0) (.un .nck (.vr 0))))
  (.chk (.bn (.dv false .i64) (.vr 1) (.cn (.int .i64 8)))
  (.chk (.bn (.ia 1) (.ld (.un (.fa 0) (.un .nck (.vr 0)))) (.bn (.dv false .i64) (.vr 1) (.cn (.int .i64 8))))
  (.chk (.ld (.bn (.ia 1) (.ld (.un (.fa 0) (.un .nck (.vr 0)))) (.bn (.dv false .i64) (.vr 1) (.cn (.int .i64 8)))))
  (.chk (.bn (.dv true .i64) (.vr 1) (.cn (.int .i64 8)))
  (.chk (.bn (.sh false .u8) (.ld (.bn (.ia 1) (.ld (.un (.fa 0) (.un .nck (.vr 0)))) (.bn (.dv false .i64) (.vr 1) (.cn (.int .i64 8))))) (.un (.cv .u64) (.bn (.ar .sub .i64) (.cn (.int .i64 7)) (.bn (.dv true .i64) (.vr 1) (.cn (.int .i64 8))))))
  (.set 4 (.un (.cv .u64) (.bn (.bt .and .u8) (.bn (.sh false .u8) (.ld (.bn (.ia 1) (.ld (.un (.fa 0) (.un .nck (.vr 0)))) (.bn (.dv false .i64) (.vr 1) (.cn (.int .i64 8))))) (.un (.cv .u64) (.bn (.ar .sub .i64) (.cn (.int .i64 7)) (.bn (.dv true .i64) (.vr 1) (.cn (.int .i64 8)))))) (.cn (.int .u8 1))))
  .ret))))))))))
def fc39 : Fc := ⟨20, s39, [(.vr 4)]⟩
theorem c39 : compF Try.prog 39 = some fc39 := by kernel_rfl

end Go.Proofs.Ytcmehcgefgjnhaa.VG
