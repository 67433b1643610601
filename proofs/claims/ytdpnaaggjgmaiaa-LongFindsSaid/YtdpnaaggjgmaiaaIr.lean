/-
  The translations of the functions, printed by program (wip/vg/Print.lean); each is checked against the program by the kernel.
-/
import Derived.Test.YtdpnaaggjgmaiaaChecked
import Derived.Test.YtdpnaaggjgmaiaaVgH
namespace Go.Proofs.Ytdpnaaggjgmaiaa.VG
open Go
set_option maxRecDepth 100000

/-- kinora/kinoralaw13.LongRests · parameters 3 · 0:l 1:lag 2:taps 5:taps 7:r 8:e 9:s 10:f -/
def s3 : S :=
  (.op (some 5) (.box 23 (.tmp 2)) 0 [(2, (.vr 2))] []
  (.set 6 (.cn (.bool false))
  (.call (some 11) 10 [] []
  (.chk (.un .not (.vr 11))
  (.set 12 (.un .not (.vr 11))
  (.ite (.vr 12)
    (.set 6 (.cn (.bool false))
    .ret)
    .nil
  (.chk (.un .ln (.vr 0))
  (.set 15 (.bn (.cm .gtr .i64) (.un .ln (.vr 0)) (.cn (.int .i64 300)))
  (.ite (.vr 15)
    (.set 6 (.cn (.bool true))
    .ret)
    .nil
  (.chk (.ldn 3 (.vr 5))
  (.set 19 (.ldn 3 (.vr 5))
  (.call (some 20) 11 [(.vr 0), (.vr 1), (.vr 19)] []
  (.chk (.un (.ex 0) (.vr 20))
  (.chk (.un (.ex 1) (.vr 20))
  (.set 7 (.un (.ex 0) (.vr 20))
  (.set 8 (.un (.ex 1) (.vr 20))
  (.chk (.ldn 3 (.vr 5))
  (.set 26 (.ldn 3 (.vr 5))
  (.call (some 27) 12 [(.vr 0), (.vr 1), (.vr 26)] []
  (.chk (.un (.ex 0) (.vr 27))
  (.chk (.un (.ex 1) (.vr 27))
  (.set 9 (.un (.ex 0) (.vr 27))
  (.set 10 (.un (.ex 1) (.vr 27))
  (.draw
  (.chk (.ldn 3 (.vr 5))
  (.set 31 (.ldn 3 (.vr 5))
  (.chk (.ldn 3 (.vr 5))
  (.set 34 (.ldn 3 (.vr 5))
  (.call (some 32) 13 [(.vr 1), (.vr 31)] [⟨4, (.vr 5), 3, none⟩]
  (.call (some 35) 14 [(.vr 1), (.vr 34)] []
  (.chk (.bn (.eqb false) (.vr 32) (.vr 35))
  (.set 37 (.bn (.eqb false) (.vr 32) (.vr 35))
  (.ifg (.vr 37) true
    (.call (some 40) 15 [(.vr 7), (.vr 9)] []
    .nil)
    (.set 40 (.cn undef)
    .nil)
  (.chk (.pk (.vr 37) (.vr 40) (.cn (.bool false)))
  (.set 42 (.pk (.vr 37) (.vr 40) (.cn (.bool false)))
  (.chk (.gd (.vr 42) true (.bn (.cm .eql .i64) (.vr 8) (.vr 10)))
  (.chk (.and (.vr 42) (.bn (.cm .eql .i64) (.vr 8) (.vr 10)))
  (.set 6 (.and (.vr 42) (.bn (.cm .eql .i64) (.vr 8) (.vr 10)))
  .ret))))))))))))))))))))))))))))))))))))))
def fc3 : Fc := ⟨47, s3, [(.vr 6)]⟩
theorem c3 : compF Try.prog 3 = some fc3 := by kernel_rfl

/-- kinora/kinoralaw13.LongBacks · parameters 3 · 0:rest 1:lag 2:taps 5:taps 7:l 8:e 9:m 10:f -/
def s4 : S :=
  (.op (some 5) (.box 23 (.tmp 2)) 0 [(2, (.vr 2))] []
  (.set 6 (.cn (.bool false))
  (.call (some 11) 10 [] []
  (.chk (.un .not (.vr 11))
  (.set 12 (.un .not (.vr 11))
  (.ite (.vr 12)
    (.set 6 (.cn (.bool false))
    .ret)
    .nil
  (.chk (.un .ln (.vr 0))
  (.set 15 (.bn (.cm .gtr .i64) (.un .ln (.vr 0)) (.cn (.int .i64 300)))
  (.ite (.vr 15)
    (.set 6 (.cn (.bool true))
    .ret)
    .nil
  (.chk (.ldn 3 (.vr 5))
  (.set 19 (.ldn 3 (.vr 5))
  (.call (some 20) 16 [(.vr 0), (.vr 1), (.vr 19)] []
  (.chk (.un (.ex 0) (.vr 20))
  (.chk (.un (.ex 1) (.vr 20))
  (.set 7 (.un (.ex 0) (.vr 20))
  (.set 8 (.un (.ex 1) (.vr 20))
  (.chk (.ldn 3 (.vr 5))
  (.set 26 (.ldn 3 (.vr 5))
  (.call (some 27) 17 [(.vr 0), (.vr 1), (.vr 26)] []
  (.chk (.un (.ex 0) (.vr 27))
  (.chk (.un (.ex 1) (.vr 27))
  (.set 9 (.un (.ex 0) (.vr 27))
  (.set 10 (.un (.ex 1) (.vr 27))
  (.call (some 32) 15 [(.vr 7), (.vr 9)] []
  (.set 33 (.vr 32)
  (.chk (.gd (.vr 33) true (.bn (.cm .eql .i64) (.vr 8) (.vr 10)))
  (.chk (.and (.vr 33) (.bn (.cm .eql .i64) (.vr 8) (.vr 10)))
  (.set 6 (.and (.vr 33) (.bn (.cm .eql .i64) (.vr 8) (.vr 10)))
  .ret))))))))))))))))))))))))))))
def fc4 : Fc := ⟨38, s4, [(.vr 6)]⟩
theorem c4 : compF Try.prog 4 = some fc4 := by kernel_rfl

/-- kinora/kinoralaw13.LongRound · parameters 4 · 0:l 1:rest 2:lag 3:taps 7:taps 9:r 10:e 11:m 12:f 13:m 14:g 15:s 16:h -/
def s5 : S :=
  (.op (some 7) (.box 23 (.tmp 3)) 0 [(3, (.vr 3))] []
  (.set 8 (.cn (.bool false))
  (.call (some 17) 10 [] []
  (.chk (.un .not (.vr 17))
  (.set 18 (.un .not (.vr 17))
  (.ite (.vr 18)
    (.set 8 (.cn (.bool false))
    .ret)
    .nil
  (.chk (.un .ln (.vr 0))
  (.chk (.gd (.bn (.cm .gtr .i64) (.un .ln (.vr 0)) (.cn (.int .i64 300))) false (.un .ln (.vr 1)))
  (.set 26 (.or (.bn (.cm .gtr .i64) (.un .ln (.vr 0)) (.cn (.int .i64 300))) (.bn (.cm .gtr .i64) (.un .ln (.vr 1)) (.cn (.int .i64 300))))
  (.ite (.vr 26)
    (.set 8 (.cn (.bool true))
    .ret)
    .nil
  (.chk (.ldn 3 (.vr 7))
  (.set 30 (.ldn 3 (.vr 7))
  (.call (some 31) 11 [(.vr 0), (.vr 2), (.vr 30)] []
  (.chk (.un (.ex 0) (.vr 31))
  (.chk (.un (.ex 1) (.vr 31))
  (.set 9 (.un (.ex 0) (.vr 31))
  (.set 10 (.un (.ex 1) (.vr 31))
  (.chk (.bn (.cm .eql .i64) (.vr 10) (.cn (.int .i64 0)))
  (.set 35 (.bn (.cm .eql .i64) (.vr 10) (.cn (.int .i64 0)))
  (.ite (.vr 35)
    (.chk (.ldn 3 (.vr 7))
    (.set 39 (.ldn 3 (.vr 7))
    (.call (some 40) 16 [(.vr 9), (.vr 2), (.vr 39)] []
    (.chk (.un (.ex 0) (.vr 40))
    (.chk (.un (.ex 1) (.vr 40))
    (.set 11 (.un (.ex 0) (.vr 40))
    (.set 12 (.un (.ex 1) (.vr 40))
    (.chk (.bn (.cm .neq .i64) (.vr 12) (.cn (.int .i64 0)))
    (.set 45 (.bn (.cm .neq .i64) (.vr 12) (.cn (.int .i64 0)))
    (.ifg (.vr 45) false
      (.call (some 48) 15 [(.vr 0), (.vr 11)] []
      .nil)
      (.set 48 (.cn undef)
      .nil)
    (.chk (.gd (.vr 45) false (.un .not (.vr 48)))
    (.chk (.or (.vr 45) (.un .not (.vr 48)))
    (.set 50 (.or (.vr 45) (.un .not (.vr 48)))
    (.ite (.vr 50)
      (.set 8 (.cn (.bool false))
      .ret)
      .nil
    .nil))))))))))))))
    .nil
  (.chk (.ldn 3 (.vr 7))
  (.set 54 (.ldn 3 (.vr 7))
  (.call (some 55) 16 [(.vr 1), (.vr 2), (.vr 54)] []
  (.chk (.un (.ex 0) (.vr 55))
  (.chk (.un (.ex 1) (.vr 55))
  (.set 13 (.un (.ex 0) (.vr 55))
  (.set 14 (.un (.ex 1) (.vr 55))
  (.chk (.bn (.cm .neq .i64) (.vr 14) (.cn (.int .i64 0)))
  (.set 59 (.bn (.cm .neq .i64) (.vr 14) (.cn (.int .i64 0)))
  (.ite (.vr 59)
    (.chk (.un .ln (.vr 13))
    (.set 8 (.bn (.cm .eql .i64) (.un .ln (.vr 13)) (.cn (.int .i64 0)))
    .ret))
    .nil
  (.chk (.ldn 3 (.vr 7))
  (.set 66 (.ldn 3 (.vr 7))
  (.call (some 67) 11 [(.vr 13), (.vr 2), (.vr 66)] []
  (.chk (.un (.ex 0) (.vr 67))
  (.chk (.un (.ex 1) (.vr 67))
  (.set 15 (.un (.ex 0) (.vr 67))
  (.set 16 (.un (.ex 1) (.vr 67))
  (.chk (.bn (.cm .eql .i64) (.vr 16) (.cn (.int .i64 0)))
  (.set 72 (.bn (.cm .eql .i64) (.vr 16) (.cn (.int .i64 0)))
  (.ifg (.vr 72) true
    (.call (some 75) 15 [(.vr 15), (.vr 1)] []
    .nil)
    (.set 75 (.cn undef)
    .nil)
  (.chk (.pk (.vr 72) (.vr 75) (.cn (.bool false)))
  (.set 8 (.pk (.vr 72) (.vr 75) (.cn (.bool false)))
  .ret))))))))))))))))))))))))))))))))))))))))))
def fc5 : Fc := ⟨77, s5, [(.vr 8)]⟩
theorem c5 : compF Try.prog 5 = some fc5 := by kernel_rfl

/-- kinora/kinoralaw13.LongAgain · parameters 2 · 0:l 1:times 5:n 6:m 7:i 8:r 9:e 10:lag 11:f 12:i -/
def s6 : S :=
  (.set 4 (.cn (.bool false))
  (.call (some 13) 10 [] []
  (.chk (.un .not (.vr 13))
  (.set 14 (.un .not (.vr 13))
  (.ite (.vr 14)
    (.set 4 (.cn (.bool false))
    .ret)
    .nil
  (.chk (.un .ln (.vr 0))
  (.set 5 (.un .ln (.vr 0))
  (.chk (.bn (.cm .lss .i64) (.vr 5) (.cn (.int .i64 2)))
  (.chk (.gd (.bn (.cm .lss .i64) (.vr 5) (.cn (.int .i64 2))) false (.bn (.cm .gtr .i64) (.vr 5) (.cn (.int .i64 40))))
  (.set 22 (.or (.bn (.cm .lss .i64) (.vr 5) (.cn (.int .i64 2))) (.bn (.cm .gtr .i64) (.vr 5) (.cn (.int .i64 40))))
  (.ite (.vr 22)
    (.set 4 (.cn (.bool true))
    .ret)
    .nil
  (.set 6 (.cn (.slice none 0 0))
  (.set 7 (.cn (.int .i64 0))
  (.blk 0
    (.loop
      (.chk (.un (.cv .i64) (.vr 1))
      (.chk (.bn (.ar .mul .i64) (.vr 5) (.bn (.ar .add .i64) (.cn (.int .i64 3)) (.bn (.dv true .i64) (.un (.cv .i64) (.vr 1)) (.cn (.int .i64 4)))))
      (.chk (.bn (.cm .lss .i64) (.vr 7) (.bn (.ar .mul .i64) (.vr 5) (.bn (.ar .add .i64) (.cn (.int .i64 3)) (.bn (.dv true .i64) (.un (.cv .i64) (.vr 1)) (.cn (.int .i64 4))))))
      (.set 30 (.bn (.cm .lss .i64) (.vr 7) (.bn (.ar .mul .i64) (.vr 5) (.bn (.ar .add .i64) (.cn (.int .i64 3)) (.bn (.dv true .i64) (.un (.cv .i64) (.vr 1)) (.cn (.int .i64 4))))))
      (.ite (.vr 30)
        .nil
        (.exit 0)
      (.blk 1
        (.chk (.bn (.dv true .i64) (.vr 7) (.vr 5))
        (.chk (.bn (.ia 1) (.vr 0) (.bn (.dv true .i64) (.vr 7) (.vr 5)))
        (.chk (.ld (.bn (.ia 1) (.vr 0) (.bn (.dv true .i64) (.vr 7) (.vr 5))))
        (.set 39 (.ld (.bn (.ia 1) (.vr 0) (.bn (.dv true .i64) (.vr 7) (.vr 5))))
        (.chk (.un (.cv .i64) (.vr 39))
        (.op (some 42) (.buildSlice 22 1 #[(0, (.tmp 41))]) 22 [(41, (.bn (.sh false .i64) (.un (.cv .i64) (.vr 39)) (.cn (.int .u64 2))))] []
        (.op (some 43) (.call ⟨(.builtin .append), #[(.tmp 33), (.tmp 42)], #[22, 22]⟩) 22 [(33, (.vr 6)), (42, (.vr 42))] []
        (.set 6 (.vr 43)
        .nil))))))))
      (.chk (.bn (.ar .add .i64) (.vr 7) (.cn (.int .i64 1)))
      (.set 7 (.bn (.ar .add .i64) (.vr 7) (.cn (.int .i64 1)))
      .nil)))))))))
  (.chk (.bd 2 1 (.cn (.int .i64 0)) (.bd 1 1 (.cn (.int .i64 64)) (.bd 0 1 (.cn (.int .i64 0)) (.cn (.agg #[(.int .i64 0), (.int .i64 0), (.int .i64 0)])))))
  (.call (some 48) 11 [(.vr 6), (.vr 5), (.bd 2 1 (.cn (.int .i64 0)) (.bd 1 1 (.cn (.int .i64 64)) (.bd 0 1 (.cn (.int .i64 0)) (.cn (.agg #[(.int .i64 0), (.int .i64 0), (.int .i64 0)])))))] []
  (.chk (.un (.ex 0) (.vr 48))
  (.chk (.un (.ex 1) (.vr 48))
  (.set 8 (.un (.ex 0) (.vr 48))
  (.set 9 (.un (.ex 1) (.vr 48))
  (.call (some 54) 18 [(.vr 6), (.cn (.int .i64 2)), (.vr 5)] []
  (.chk (.un (.ex 0) (.vr 54))
  (.chk (.un (.ex 1) (.vr 54))
  (.set 10 (.un (.ex 0) (.vr 54))
  (.set 11 (.un (.ex 1) (.vr 54))
  (.chk (.bn (.cm .neq .i64) (.vr 9) (.cn (.int .i64 0)))
  (.chk (.gd (.bn (.cm .neq .i64) (.vr 9) (.cn (.int .i64 0))) false (.bn (.cm .neq .i64) (.vr 11) (.cn (.int .i64 0))))
  (.chk (.gd (.or (.bn (.cm .neq .i64) (.vr 9) (.cn (.int .i64 0))) (.bn (.cm .neq .i64) (.vr 11) (.cn (.int .i64 0)))) false (.un .ln (.vr 8)))
  (.chk (.gd (.or (.bn (.cm .neq .i64) (.vr 9) (.cn (.int .i64 0))) (.bn (.cm .neq .i64) (.vr 11) (.cn (.int .i64 0)))) false (.un .ln (.vr 6)))
  (.chk (.gd (.or (.or (.bn (.cm .neq .i64) (.vr 9) (.cn (.int .i64 0))) (.bn (.cm .neq .i64) (.vr 11) (.cn (.int .i64 0)))) (.bn (.cm .neq .i64) (.un .ln (.vr 8)) (.un .ln (.vr 6)))) false (.bn (.cm .lss .i64) (.vr 10) (.cn (.int .i64 2))))
  (.chk (.gd (.or (.or (.or (.bn (.cm .neq .i64) (.vr 9) (.cn (.int .i64 0))) (.bn (.cm .neq .i64) (.vr 11) (.cn (.int .i64 0)))) (.bn (.cm .neq .i64) (.un .ln (.vr 8)) (.un .ln (.vr 6)))) (.bn (.cm .lss .i64) (.vr 10) (.cn (.int .i64 2)))) false (.bn (.cm .gtr .i64) (.vr 10) (.vr 5)))
  (.set 78 (.or (.or (.or (.or (.bn (.cm .neq .i64) (.vr 9) (.cn (.int .i64 0))) (.bn (.cm .neq .i64) (.vr 11) (.cn (.int .i64 0)))) (.bn (.cm .neq .i64) (.un .ln (.vr 8)) (.un .ln (.vr 6)))) (.bn (.cm .lss .i64) (.vr 10) (.cn (.int .i64 2)))) (.bn (.cm .gtr .i64) (.vr 10) (.vr 5)))
  (.ite (.vr 78)
    (.set 4 (.cn (.bool false))
    .ret)
    .nil
  (.set 12 (.vr 5)
  (.blk 2
    (.loop
      (.chk (.un .ln (.vr 8))
      (.chk (.bn (.cm .lss .i64) (.vr 12) (.un .ln (.vr 8)))
      (.set 83 (.bn (.cm .lss .i64) (.vr 12) (.un .ln (.vr 8)))
      (.ite (.vr 83)
        .nil
        (.exit 2)
      (.blk 3
        (.draw
        (.chk (.bn (.ia 1) (.vr 8) (.vr 12))
        (.chk (.ld (.bn (.ia 1) (.vr 8) (.vr 12)))
        (.chk (.bn (.cm .neq .i64) (.ld (.bn (.ia 1) (.vr 8) (.vr 12))) (.cn (.int .i64 0)))
        (.chk (.gd (.bn (.cm .neq .i64) (.ld (.bn (.ia 1) (.vr 8) (.vr 12))) (.cn (.int .i64 0))) false (.bn (.ia 1) (.vr 6) (.vr 12)))
        (.chk (.gd (.bn (.cm .neq .i64) (.ld (.bn (.ia 1) (.vr 8) (.vr 12))) (.cn (.int .i64 0))) false (.ld (.bn (.ia 1) (.vr 6) (.vr 12))))
        (.chk (.gd (.bn (.cm .neq .i64) (.ld (.bn (.ia 1) (.vr 8) (.vr 12))) (.cn (.int .i64 0))) false (.bn (.ar .sub .i64) (.vr 12) (.vr 10)))
        (.chk (.gd (.bn (.cm .neq .i64) (.ld (.bn (.ia 1) (.vr 8) (.vr 12))) (.cn (.int .i64 0))) false (.bn (.ia 1) (.vr 6) (.bn (.ar .sub .i64) (.vr 12) (.vr 10))))
        (.chk (.gd (.bn (.cm .neq .i64) (.ld (.bn (.ia 1) (.vr 8) (.vr 12))) (.cn (.int .i64 0))) false (.ld (.bn (.ia 1) (.vr 6) (.bn (.ar .sub .i64) (.vr 12) (.vr 10)))))
        (.chk (.gd (.bn (.cm .neq .i64) (.ld (.bn (.ia 1) (.vr 8) (.vr 12))) (.cn (.int .i64 0))) false (.bn (.cm .neq .i64) (.ld (.bn (.ia 1) (.vr 6) (.vr 12))) (.ld (.bn (.ia 1) (.vr 6) (.bn (.ar .sub .i64) (.vr 12) (.vr 10))))))
        (.set 103 (.or (.bn (.cm .neq .i64) (.ld (.bn (.ia 1) (.vr 8) (.vr 12))) (.cn (.int .i64 0))) (.bn (.cm .neq .i64) (.ld (.bn (.ia 1) (.vr 6) (.vr 12))) (.ld (.bn (.ia 1) (.vr 6) (.bn (.ar .sub .i64) (.vr 12) (.vr 10))))))
        (.ite (.vr 103)
          (.set 4 (.cn (.bool false))
          .ret)
          .nil
        .nil))))))))))))
      (.chk (.bn (.ar .add .i64) (.vr 12) (.cn (.int .i64 1)))
      (.set 12 (.bn (.ar .add .i64) (.vr 12) (.cn (.int .i64 1)))
      .nil))))))))
  (.set 4 (.cn (.bool true))
  .ret))))))))))))))))))))))))))))))))))))
def fc6 : Fc := ⟨104, s6, [(.vr 4)]⟩
theorem c6 : compF Try.prog 6 = some fc6 := by kernel_rfl

/-- kinora/kinoralaw13.LongNone · parameters 3 · 0:l 1:lag 2:taps 5:taps 7:a 8:e 9:b 10:f -/
def s7 : S :=
  (.op (some 5) (.box 23 (.tmp 2)) 0 [(2, (.vr 2))] []
  (.set 6 (.cn (.bool false))
  (.call (some 11) 10 [] []
  (.chk (.un .not (.vr 11))
  (.set 12 (.un .not (.vr 11))
  (.ite (.vr 12)
    (.set 6 (.cn (.bool false))
    .ret)
    .nil
  (.chk (.un .ln (.vr 0))
  (.set 16 (.bn (.cm .gtr .i64) (.un .ln (.vr 0)) (.cn (.int .i64 300)))
  (.ifg (.vr 16) false
    (.call (some 18) 19 [(.vr 0)] []
    .nil)
    (.set 18 (.cn undef)
    .nil)
  (.chk (.gd (.vr 16) false (.un .not (.vr 18)))
  (.chk (.or (.vr 16) (.un .not (.vr 18)))
  (.set 21 (.or (.vr 16) (.un .not (.vr 18)))
  (.chk (.gd (.vr 21) false (.bn (.cm .lss .i64) (.vr 1) (.cn (.int .i64 2))))
  (.chk (.or (.vr 21) (.bn (.cm .lss .i64) (.vr 1) (.cn (.int .i64 2))))
  (.set 25 (.or (.vr 21) (.bn (.cm .lss .i64) (.vr 1) (.cn (.int .i64 2))))
  (.chk (.gd (.vr 25) false (.bn (.cm .gtr .i64) (.vr 1) (.cn (.int .i64 1024))))
  (.chk (.or (.vr 25) (.bn (.cm .gtr .i64) (.vr 1) (.cn (.int .i64 1024))))
  (.set 28 (.or (.vr 25) (.bn (.cm .gtr .i64) (.vr 1) (.cn (.int .i64 1024))))
  (.ite (.vr 28)
    (.set 6 (.cn (.bool true))
    .ret)
    .nil
  (.call (some 33) 11 [(.vr 0), (.vr 1), (.cn (.agg #[(.int .i64 0), (.int .i64 0), (.int .i64 0)]))] []
  (.chk (.un (.ex 0) (.vr 33))
  (.chk (.un (.ex 1) (.vr 33))
  (.set 7 (.un (.ex 0) (.vr 33))
  (.set 8 (.un (.ex 1) (.vr 33))
  (.chk (.bn (.cm .neq .i64) (.vr 8) (.cn (.int .i64 0)))
  (.set 38 (.bn (.cm .neq .i64) (.vr 8) (.cn (.int .i64 0)))
  (.ifg (.vr 38) false
    (.call (some 41) 15 [(.vr 7), (.vr 0)] []
    .nil)
    (.set 41 (.cn undef)
    .nil)
  (.chk (.gd (.vr 38) false (.un .not (.vr 41)))
  (.chk (.or (.vr 38) (.un .not (.vr 41)))
  (.set 43 (.or (.vr 38) (.un .not (.vr 41)))
  (.ite (.vr 43)
    (.set 6 (.cn (.bool false))
    .ret)
    .nil
  (.chk (.ldn 3 (.vr 5))
  (.set 45 (.ldn 3 (.vr 5))
  (.call (some 46) 13 [(.vr 1), (.vr 45)] []
  (.chk (.un .not (.vr 46))
  (.set 48 (.un .not (.vr 46))
  (.chk (.gd (.vr 48) false (.un .ln (.vr 0)))
  (.chk (.gd (.vr 48) false (.bn (.ar .sub .i64) (.vr 1) (.cn (.int .i64 1))))
  (.chk (.or (.vr 48) (.bn (.cm .gtr .i64) (.un .ln (.vr 0)) (.bn (.ar .sub .i64) (.vr 1) (.cn (.int .i64 1)))))
  (.set 54 (.or (.vr 48) (.bn (.cm .gtr .i64) (.un .ln (.vr 0)) (.bn (.ar .sub .i64) (.vr 1) (.cn (.int .i64 1)))))
  (.ite (.vr 54)
    (.set 6 (.cn (.bool true))
    .ret)
    .nil
  (.chk (.ldn 3 (.vr 5))
  (.set 58 (.ldn 3 (.vr 5))
  (.call (some 59) 11 [(.vr 0), (.vr 1), (.vr 58)] []
  (.chk (.un (.ex 0) (.vr 59))
  (.chk (.un (.ex 1) (.vr 59))
  (.set 9 (.un (.ex 0) (.vr 59))
  (.set 10 (.un (.ex 1) (.vr 59))
  (.chk (.bn (.cm .eql .i64) (.vr 10) (.cn (.int .i64 0)))
  (.set 64 (.bn (.cm .eql .i64) (.vr 10) (.cn (.int .i64 0)))
  (.ifg (.vr 64) true
    (.call (some 67) 15 [(.vr 9), (.vr 0)] []
    .nil)
    (.set 67 (.cn undef)
    .nil)
  (.chk (.pk (.vr 64) (.vr 67) (.cn (.bool false)))
  (.set 6 (.pk (.vr 64) (.vr 67) (.cn (.bool false)))
  .ret)))))))))))))))))))))))))))))))))))))))))))))))))))))
def fc7 : Fc := ⟨69, s7, [(.vr 6)]⟩
theorem c7 : compF Try.prog 7 = some fc7 := by kernel_rfl

/-- kinora/kinoralaw13.LongLater · parameters 4 · 0:l 1:lag 2:taps 3:noughts 6:taps 9:ahead 10:a 11:e 12:b 13:f -/
def s8 : S :=
  (.op (some 6) (.box 23 (.tmp 2)) 0 [(2, (.vr 2))] []
  (.set 8 (.cn (.bool false))
  (.call (some 14) 10 [] []
  (.chk (.un .not (.vr 14))
  (.set 15 (.un .not (.vr 14))
  (.ite (.vr 15)
    (.set 8 (.cn (.bool false))
    .ret)
    .nil
  (.chk (.un .ln (.vr 0))
  (.set 18 (.bn (.cm .gtr .i64) (.un .ln (.vr 0)) (.cn (.int .i64 200)))
  (.ite (.vr 18)
    (.set 8 (.cn (.bool true))
    .ret)
    .nil
  (.op (some 20) (.makeSlice 22 (.tmp 19) (.tmp 19)) 22 [(19, (.vr 3)), (19, (.vr 3))] []
  (.set 9 (.vr 20)
  (.chk (.ldn 3 (.vr 6))
  (.set 24 (.ldn 3 (.vr 6))
  (.call (some 25) 11 [(.vr 0), (.vr 1), (.vr 24)] []
  (.chk (.un (.ex 0) (.vr 25))
  (.chk (.un (.ex 1) (.vr 25))
  (.set 10 (.un (.ex 0) (.vr 25))
  (.set 11 (.un (.ex 1) (.vr 25))
  (.draw
  (.chk (.ldn 3 (.vr 6))
  (.set 35 (.ldn 3 (.vr 6))
  (.op (some 29) (.buildSlice 22 0 #[]) 22 [] [⟨6, (.vr 6), 3, none⟩]
  (.op (some 31) (.call ⟨(.builtin .append), #[(.tmp 29), (.tmp 30)], #[22, 22]⟩) 22 [(29, (.vr 29)), (30, (.vr 9))] [⟨6, (.vr 6), 3, none⟩]
  (.op (some 33) (.call ⟨(.builtin .append), #[(.tmp 31), (.tmp 32)], #[22, 22]⟩) 22 [(31, (.vr 31)), (32, (.vr 0))] [⟨6, (.vr 6), 3, none⟩]
  (.call (some 36) 11 [(.vr 33), (.vr 1), (.vr 35)] []
  (.chk (.un (.ex 0) (.vr 36))
  (.chk (.un (.ex 1) (.vr 36))
  (.set 12 (.un (.ex 0) (.vr 36))
  (.set 13 (.un (.ex 1) (.vr 36))
  (.chk (.bn (.cm .neq .i64) (.vr 11) (.cn (.int .i64 0)))
  (.set 40 (.bn (.cm .neq .i64) (.vr 11) (.cn (.int .i64 0)))
  (.ite (.vr 40)
    (.chk (.bn (.cm .eql .i64) (.vr 11) (.vr 13))
    (.chk (.gd (.bn (.cm .eql .i64) (.vr 11) (.vr 13)) true (.un .ln (.vr 12)))
    (.set 8 (.and (.bn (.cm .eql .i64) (.vr 11) (.vr 13)) (.bn (.cm .eql .i64) (.un .ln (.vr 12)) (.cn (.int .i64 0))))
    .ret)))
    .nil
  (.chk (.bn (.cm .eql .i64) (.vr 13) (.cn (.int .i64 0)))
  (.set 51 (.bn (.cm .eql .i64) (.vr 13) (.cn (.int .i64 0)))
  (.ifg (.vr 51) true
    (.op (some 53) (.buildSlice 22 0 #[]) 22 [] []
    .nil)
    (.set 53 (.cn undef)
    .nil)
  (.ifg (.vr 51) true
    (.op (some 55) (.call ⟨(.builtin .append), #[(.tmp 53), (.tmp 54)], #[22, 22]⟩) 22 [(53, (.vr 53)), (54, (.vr 9))] []
    .nil)
    (.set 55 (.cn undef)
    .nil)
  (.ifg (.vr 51) true
    (.op (some 57) (.call ⟨(.builtin .append), #[(.tmp 55), (.tmp 56)], #[22, 22]⟩) 22 [(55, (.vr 55)), (56, (.vr 10))] []
    .nil)
    (.set 57 (.cn undef)
    .nil)
  (.ifg (.vr 51) true
    (.call (some 58) 15 [(.vr 12), (.vr 57)] []
    .nil)
    (.set 58 (.cn undef)
    .nil)
  (.chk (.pk (.vr 51) (.vr 58) (.cn (.bool false)))
  (.set 8 (.pk (.vr 51) (.vr 58) (.cn (.bool false)))
  .ret))))))))))))))))))))))))))))))))))))))))
def fc8 : Fc := ⟨60, s8, [(.vr 8)]⟩
theorem c8 : compF Try.prog 8 = some fc8 := by kernel_rfl

/-- kinora/kinoralaw13.LongFinds · parameters 4 · 0:l 1:least 2:most 3:lag 9:a 10:e 11:b 12:f 13:c 14:g 15:d 16:h -/
def s9 : S :=
  (.set 8 (.cn (.bool false))
  (.call (some 17) 10 [] []
  (.chk (.un .not (.vr 17))
  (.set 18 (.un .not (.vr 17))
  (.ite (.vr 18)
    (.set 8 (.cn (.bool false))
    .ret)
    .nil
  (.chk (.un .ln (.vr 0))
  (.chk (.gd (.bn (.cm .gtr .i64) (.un .ln (.vr 0)) (.cn (.int .i64 200))) true (.un .ln (.vr 0)))
  (.set 26 (.and (.bn (.cm .gtr .i64) (.un .ln (.vr 0)) (.cn (.int .i64 200))) (.bn (.cm .leq .i64) (.un .ln (.vr 0)) (.cn (.int .i64 4096))))
  (.ite (.vr 26)
    (.set 8 (.cn (.bool true))
    .ret)
    .nil
  (.call (some 31) 18 [(.vr 0), (.vr 1), (.vr 2)] []
  (.chk (.un (.ex 0) (.vr 31))
  (.chk (.un (.ex 1) (.vr 31))
  (.set 9 (.un (.ex 0) (.vr 31))
  (.set 10 (.un (.ex 1) (.vr 31))
  (.call (some 38) 20 [(.vr 0), (.vr 1), (.vr 2)] []
  (.chk (.un (.ex 0) (.vr 38))
  (.chk (.un (.ex 1) (.vr 38))
  (.set 11 (.un (.ex 0) (.vr 38))
  (.set 12 (.un (.ex 1) (.vr 38))
  (.chk (.bn (.cm .neq .i64) (.vr 9) (.vr 11))
  (.chk (.gd (.bn (.cm .neq .i64) (.vr 9) (.vr 11)) false (.bn (.cm .neq .i64) (.vr 10) (.vr 12)))
  (.set 48 (.or (.bn (.cm .neq .i64) (.vr 9) (.vr 11)) (.bn (.cm .neq .i64) (.vr 10) (.vr 12)))
  (.ite (.vr 48)
    (.set 8 (.cn (.bool false))
    .ret)
    .nil
  (.chk (.un .ln (.vr 0))
  (.set 51 (.bn (.cm .gtr .i64) (.un .ln (.vr 0)) (.cn (.int .i64 200)))
  (.ite (.vr 51)
    (.set 8 (.cn (.bool true))
    .ret)
    .nil
  (.call (some 55) 21 [(.vr 0), (.vr 3)] []
  (.chk (.un (.ex 0) (.vr 55))
  (.chk (.un (.ex 1) (.vr 55))
  (.op (some 13) (.alloc 23) 0 [] []
  (.st 3 (.vr 13) (.un (.ex 0) (.vr 55)) []
  (.set 14 (.un (.ex 1) (.vr 55))
  (.call (some 61) 22 [(.vr 0), (.vr 3)] []
  (.chk (.un (.ex 0) (.vr 61))
  (.chk (.un (.ex 1) (.vr 61))
  (.op (some 15) (.alloc 23) 0 [] []
  (.st 3 (.vr 15) (.un (.ex 0) (.vr 61)) []
  (.set 16 (.un (.ex 1) (.vr 61))
  (.chk (.ldn 3 (.vr 13))
  (.set 64 (.ldn 3 (.vr 13))
  (.chk (.ldn 3 (.vr 15))
  (.set 65 (.ldn 3 (.vr 15))
  (.op (some 66) (.binOp .eql 23 (.tmp 64) (.tmp 65) 23) 4 [(64, (.vr 64)), (65, (.vr 65))] []
  (.set 67 (.vr 66)
  (.chk (.gd (.vr 67) true (.bn (.cm .eql .i64) (.vr 14) (.vr 16)))
  (.chk (.and (.vr 67) (.bn (.cm .eql .i64) (.vr 14) (.vr 16)))
  (.set 8 (.and (.vr 67) (.bn (.cm .eql .i64) (.vr 14) (.vr 16)))
  .ret)))))))))))))))))))))))))))))))))))))))))))))))
def fc9 : Fc := ⟨72, s9, [(.vr 8)]⟩
theorem c9 : compF Try.prog 9 = some fc9 := by kernel_rfl

/-- kinora/kinoralaw13.known · parameters 0 · 1:l 2:r 3:e 4:m 5:f 6:lag 7:g -/
def s10 : S :=
  (.set 0 (.cn (.bool false))
  (.op (some 8) (.buildSlice 22 9 #[(0, (.const (.int .i64 5))), (1, (.const (.int .i64 (-2)))), (2, (.const (.int .i64 0))), (3, (.const (.int .i64 9))), (4, (.const (.int .i64 5))), (5, (.const (.int .i64 (-2)))), (6, (.const (.int .i64 0))), (7, (.const (.int .i64 9))), (8, (.const (.int .i64 5)))]) 22 [] []
  (.set 1 (.vr 8)
  (.chk (.bd 2 1 (.cn (.int .i64 0)) (.bd 1 1 (.cn (.int .i64 64)) (.bd 0 1 (.cn (.int .i64 0)) (.cn (.agg #[(.int .i64 0), (.int .i64 0), (.int .i64 0)])))))
  (.call (some 12) 11 [(.vr 1), (.cn (.int .i64 4)), (.bd 2 1 (.cn (.int .i64 0)) (.bd 1 1 (.cn (.int .i64 64)) (.bd 0 1 (.cn (.int .i64 0)) (.cn (.agg #[(.int .i64 0), (.int .i64 0), (.int .i64 0)])))))] []
  (.chk (.un (.ex 0) (.vr 12))
  (.chk (.un (.ex 1) (.vr 12))
  (.set 2 (.un (.ex 0) (.vr 12))
  (.set 3 (.un (.ex 1) (.vr 12))
  (.chk (.bd 2 1 (.cn (.int .i64 0)) (.bd 1 1 (.cn (.int .i64 64)) (.bd 0 1 (.cn (.int .i64 0)) (.cn (.agg #[(.int .i64 0), (.int .i64 0), (.int .i64 0)])))))
  (.call (some 18) 16 [(.vr 2), (.cn (.int .i64 4)), (.bd 2 1 (.cn (.int .i64 0)) (.bd 1 1 (.cn (.int .i64 64)) (.bd 0 1 (.cn (.int .i64 0)) (.cn (.agg #[(.int .i64 0), (.int .i64 0), (.int .i64 0)])))))] []
  (.chk (.un (.ex 0) (.vr 18))
  (.chk (.un (.ex 1) (.vr 18))
  (.set 4 (.un (.ex 0) (.vr 18))
  (.set 5 (.un (.ex 1) (.vr 18))
  (.call (some 23) 18 [(.vr 1), (.cn (.int .i64 2)), (.cn (.int .i64 5))] []
  (.chk (.un (.ex 0) (.vr 23))
  (.chk (.un (.ex 1) (.vr 23))
  (.set 6 (.un (.ex 0) (.vr 23))
  (.set 7 (.un (.ex 1) (.vr 23))
  (.chk (.bn (.cm .eql .i64) (.vr 3) (.cn (.int .i64 0)))
  (.set 28 (.bn (.cm .eql .i64) (.vr 3) (.cn (.int .i64 0)))
  (.chk (.gd (.vr 28) true (.bn (.cm .eql .i64) (.vr 5) (.cn (.int .i64 0))))
  (.chk (.and (.vr 28) (.bn (.cm .eql .i64) (.vr 5) (.cn (.int .i64 0))))
  (.set 32 (.and (.vr 28) (.bn (.cm .eql .i64) (.vr 5) (.cn (.int .i64 0))))
  (.chk (.gd (.vr 32) true (.bn (.cm .eql .i64) (.vr 7) (.cn (.int .i64 0))))
  (.chk (.and (.vr 32) (.bn (.cm .eql .i64) (.vr 7) (.cn (.int .i64 0))))
  (.set 36 (.and (.vr 32) (.bn (.cm .eql .i64) (.vr 7) (.cn (.int .i64 0))))
  (.ifg (.vr 36) true
    (.op (some 38) (.buildSlice 22 9 #[(0, (.const (.int .i64 5))), (1, (.const (.int .i64 (-2)))), (2, (.const (.int .i64 0))), (3, (.const (.int .i64 9))), (4, (.const (.int .i64 0))), (5, (.const (.int .i64 0))), (6, (.const (.int .i64 0))), (7, (.const (.int .i64 0))), (8, (.const (.int .i64 0)))]) 22 [] []
    .nil)
    (.set 38 (.cn undef)
    .nil)
  (.ifg (.vr 36) true
    (.call (some 39) 15 [(.vr 2), (.vr 38)] []
    .nil)
    (.set 39 (.cn undef)
    .nil)
  (.chk (.pk (.vr 36) (.vr 39) (.cn (.bool false)))
  (.set 41 (.pk (.vr 36) (.vr 39) (.cn (.bool false)))
  (.ifg (.vr 41) true
    (.call (some 44) 15 [(.vr 4), (.vr 1)] []
    .nil)
    (.set 44 (.cn undef)
    .nil)
  (.chk (.pk (.vr 41) (.vr 44) (.cn (.bool false)))
  (.set 46 (.pk (.vr 41) (.vr 44) (.cn (.bool false)))
  (.chk (.gd (.vr 46) true (.bn (.cm .eql .i64) (.vr 6) (.cn (.int .i64 4))))
  (.chk (.and (.vr 46) (.bn (.cm .eql .i64) (.vr 6) (.cn (.int .i64 4))))
  (.set 50 (.and (.vr 46) (.bn (.cm .eql .i64) (.vr 6) (.cn (.int .i64 4))))
  (.ifg (.vr 50) true
    (.call (some 51) 23 [] []
    .nil)
    (.set 51 (.cn undef)
    .nil)
  (.chk (.gd (.vr 50) true (.un .ln (.vr 51)))
  (.chk (.and (.vr 50) (.bn (.cm .eql .i64) (.un .ln (.vr 51)) (.cn (.int .i64 9))))
  (.set 0 (.and (.vr 50) (.bn (.cm .eql .i64) (.un .ln (.vr 51)) (.cn (.int .i64 9))))
  .ret))))))))))))))))))))))))))))))))))))))))))
def fc10 : Fc := ⟨55, s10, [(.vr 0)]⟩
theorem c10 : compF Try.prog 10 = some fc10 := by kernel_rfl

/-- kinora/long.Rest · parameters 3 · 0:l 1:lag 2:taps 5:taps 8:rest 9:n 10:x 11:r -/
def s11 : S :=
  (.op (some 5) (.box 23 (.tmp 2)) 0 [(2, (.vr 2))] []
  (.set 6 (.cn (.slice none 0 0))
  (.set 7 (.cn (.int .i64 0))
  (.chk (.ldn 3 (.vr 5))
  (.set 13 (.ldn 3 (.vr 5))
  (.call (some 14) 13 [(.vr 1), (.vr 13)] []
  (.chk (.un .not (.vr 14))
  (.set 15 (.un .not (.vr 14))
  (.ite (.vr 15)
    (.set 6 (.cn (.slice none 0 0))
    (.set 7 (.cn (.int .i64 1))
    .ret))
    .nil
  (.call (some 17) 24 [(.vr 0)] []
  (.chk (.un .not (.vr 17))
  (.set 18 (.un .not (.vr 17))
  (.ite (.vr 18)
    (.set 6 (.cn (.slice none 0 0))
    (.set 7 (.cn (.int .i64 6))
    .ret))
    .nil
  (.chk (.un .ln (.vr 0))
  (.op (some 21) (.makeSlice 22 (.const (.int .i64 0)) (.tmp 20)) 22 [(20, (.un .ln (.vr 0)))] []
  (.set 8 (.vr 21)
  (.set 22 (.vr 0)
  (.chk (.un .ln (.vr 22))
  (.set 23 (.un .ln (.vr 22))
  (.set 24 (.cn (.int .i64 0))
  (.blk 0
    (.loop
      (.chk (.bn (.cm .lss .i64) (.vr 24) (.vr 23))
      (.set 25 (.bn (.cm .lss .i64) (.vr 24) (.vr 23))
      (.ite (.vr 25)
        .nil
        (.exit 0)
      (.blk 1
        (.chk (.bn (.ia 1) (.vr 22) (.vr 24))
        (.chk (.ld (.bn (.ia 1) (.vr 22) (.vr 24)))
        (.set 9 (.vr 24)
        (.set 10 (.ld (.bn (.ia 1) (.vr 22) (.vr 24)))
        (.chk (.ldn 3 (.vr 5))
        (.set 33 (.ldn 3 (.vr 5))
        (.call (some 34) 25 [(.vr 0), (.vr 9), (.vr 1), (.vr 33)] []
        (.chk (.bn (.ar .sub .i64) (.vr 10) (.vr 34))
        (.set 11 (.bn (.ar .sub .i64) (.vr 10) (.vr 34))
        (.call (some 37) 26 [(.vr 11)] []
        (.chk (.un .not (.vr 37))
        (.set 38 (.un .not (.vr 37))
        (.ite (.vr 38)
          (.set 6 (.cn (.slice none 0 0))
          (.set 7 (.cn (.int .i64 6))
          .ret))
          .nil
        (.op (some 41) (.buildSlice 22 1 #[(0, (.tmp 40))]) 22 [(40, (.vr 11))] []
        (.op (some 42) (.call ⟨(.builtin .append), #[(.tmp 39), (.tmp 41)], #[22, 22]⟩) 22 [(39, (.vr 8)), (41, (.vr 41))] []
        (.set 8 (.vr 42)
        .nil))))))))))))))))
      (.chk (.bn (.ar .add .i64) (.vr 24) (.cn (.int .i64 1)))
      (.set 24 (.bn (.ar .add .i64) (.vr 24) (.cn (.int .i64 1)))
      .nil)))))))
  (.set 6 (.vr 8)
  (.set 7 (.cn (.int .i64 0))
  .ret)))))))))))))))))))))))
def fc11 : Fc := ⟨45, s11, [(.vr 6), (.vr 7)]⟩
theorem c11 : compF Try.prog 11 = some fc11 := by kernel_rfl

/-- kinora/kinoraref14.LongRest · parameters 3 · 0:l 1:lag 2:taps 5:taps 8:out 9:i -/
def s12 : S :=
  (.op (some 5) (.box 23 (.tmp 2)) 0 [(2, (.vr 2))] []
  (.set 6 (.cn (.slice none 0 0))
  (.set 7 (.cn (.int .i64 0))
  (.chk (.ldn 3 (.vr 5))
  (.set 11 (.ldn 3 (.vr 5))
  (.call (some 12) 14 [(.vr 1), (.vr 11)] []
  (.chk (.un .not (.vr 12))
  (.set 13 (.un .not (.vr 12))
  (.ite (.vr 13)
    (.set 6 (.cn (.slice none 0 0))
    (.set 7 (.cn (.int .i64 1))
    .ret))
    .nil
  (.call (some 15) 19 [(.vr 0)] []
  (.chk (.un .not (.vr 15))
  (.set 16 (.un .not (.vr 15))
  (.ite (.vr 16)
    (.set 6 (.cn (.slice none 0 0))
    (.set 7 (.cn (.int .i64 6))
    .ret))
    .nil
  (.set 8 (.cn (.slice none 0 0))
  (.set 9 (.cn (.int .i64 0))
  (.blk 0
    (.loop
      (.chk (.un .ln (.vr 0))
      (.chk (.bn (.cm .lss .i64) (.vr 9) (.un .ln (.vr 0)))
      (.set 20 (.bn (.cm .lss .i64) (.vr 9) (.un .ln (.vr 0)))
      (.ite (.vr 20)
        .nil
        (.exit 0)
      (.blk 1
        (.draw
        (.chk (.bn (.ia 1) (.vr 0) (.vr 9))
        (.chk (.ld (.bn (.ia 1) (.vr 0) (.vr 9)))
        (.set 27 (.ld (.bn (.ia 1) (.vr 0) (.vr 9)))
        (.chk (.sl 1 true (.vr 0) (.cn (.int .i64 0)) (.vr 9))
        (.chk (.ldn 3 (.vr 5))
        (.set 32 (.ldn 3 (.vr 5))
        (.call (some 33) 27 [(.sl 1 true (.vr 0) (.cn (.int .i64 0)) (.vr 9)), (.vr 1), (.vr 32)] [⟨4, (.bn (.ia 1) (.vr 0) (.vr 9)), 1, none⟩]
        (.chk (.bn (.ar .sub .i64) (.vr 27) (.vr 33))
        (.op (some 35) (.buildSlice 22 1 #[(0, (.tmp 34))]) 22 [(34, (.bn (.ar .sub .i64) (.vr 27) (.vr 33)))] []
        (.op (some 36) (.call ⟨(.builtin .append), #[(.tmp 23), (.tmp 35)], #[22, 22]⟩) 22 [(23, (.vr 8)), (35, (.vr 35))] []
        (.set 8 (.vr 36)
        .nil))))))))))))
      (.chk (.bn (.ar .add .i64) (.vr 9) (.cn (.int .i64 1)))
      (.set 9 (.bn (.ar .add .i64) (.vr 9) (.cn (.int .i64 1)))
      .nil))))))))
  (.call (some 38) 19 [(.vr 8)] []
  (.chk (.un .not (.vr 38))
  (.set 39 (.un .not (.vr 38))
  (.ite (.vr 39)
    (.set 6 (.cn (.slice none 0 0))
    (.set 7 (.cn (.int .i64 6))
    .ret))
    .nil
  (.set 6 (.vr 8)
  (.set 7 (.cn (.int .i64 0))
  .ret))))))))))))))))))))))
def fc12 : Fc := ⟨41, s12, [(.vr 6), (.vr 7)]⟩
theorem c12 : compF Try.prog 12 = some fc12 := by kernel_rfl

/-- kinora/long.May · parameters 2 · 0:lag 1:taps 3:taps 6:t -/
def s13 : S :=
  (.op (some 3) (.box 23 (.tmp 1)) 0 [(1, (.vr 1))] []
  (.set 4 (.cn (.bool false))
  (.chk (.bn (.cm .lss .i64) (.vr 0) (.cn (.int .i64 2)))
  (.chk (.gd (.bn (.cm .lss .i64) (.vr 0) (.cn (.int .i64 2))) false (.bn (.cm .gtr .i64) (.vr 0) (.cn (.int .i64 1024))))
  (.set 12 (.or (.bn (.cm .lss .i64) (.vr 0) (.cn (.int .i64 2))) (.bn (.cm .gtr .i64) (.vr 0) (.cn (.int .i64 1024))))
  (.ite (.vr 12)
    (.set 4 (.cn (.bool false))
    .ret)
    .nil
  (.chk (.ldn 3 (.vr 3))
  (.set 13 (.ldn 3 (.vr 3))
  (.set 14 (.cn (.int .i64 0))
  (.blk 0
    (.loop
      (.chk (.bn (.cm .lss .i64) (.vr 14) (.cn (.int .i64 3)))
      (.set 15 (.bn (.cm .lss .i64) (.vr 14) (.cn (.int .i64 3)))
      (.ite (.vr 15)
        .nil
        (.exit 0)
      (.blk 1
        (.chk (.bn (.ix1 3 1) (.vr 13) (.vr 14))
        (.set 6 (.bn (.ix1 3 1) (.vr 13) (.vr 14))
        (.chk (.bn (.cm .lss .i64) (.vr 6) (.cn (.int .i64 (-64))))
        (.chk (.gd (.bn (.cm .lss .i64) (.vr 6) (.cn (.int .i64 (-64)))) false (.bn (.cm .gtr .i64) (.vr 6) (.cn (.int .i64 64))))
        (.set 22 (.or (.bn (.cm .lss .i64) (.vr 6) (.cn (.int .i64 (-64)))) (.bn (.cm .gtr .i64) (.vr 6) (.cn (.int .i64 64))))
        (.ite (.vr 22)
          (.set 4 (.cn (.bool false))
          .ret)
          .nil
        .nil))))))
      (.chk (.bn (.ar .add .i64) (.vr 14) (.cn (.int .i64 1)))
      (.set 14 (.bn (.ar .add .i64) (.vr 14) (.cn (.int .i64 1)))
      .nil)))))))
  (.set 4 (.cn (.bool true))
  .ret)))))))))))
def fc13 : Fc := ⟨24, s13, [(.vr 4)]⟩
theorem c13 : compF Try.prog 13 = some fc13 := by kernel_rfl

/-- kinora/kinoraref14.LongMay · parameters 2 · 0:lag 1:taps 3:taps 5:i -/
def s14 : S :=
  (.op (some 3) (.box 23 (.tmp 1)) 0 [(1, (.vr 1))] []
  (.set 4 (.cn (.bool false))
  (.set 5 (.cn (.int .i64 0))
  (.blk 0
    (.loop
      (.chk (.bn (.cm .lss .i64) (.vr 5) (.cn (.int .i64 3)))
      (.set 7 (.bn (.cm .lss .i64) (.vr 5) (.cn (.int .i64 3)))
      (.ite (.vr 7)
        .nil
        (.exit 0)
      (.blk 1
        (.chk (.bn (.aa 3 1) (.vr 3) (.vr 5))
        (.chk (.ld (.bn (.aa 3 1) (.vr 3) (.vr 5)))
        (.chk (.bn (.cm .lss .i64) (.ld (.bn (.aa 3 1) (.vr 3) (.vr 5))) (.cn (.int .i64 (-64))))
        (.chk (.gd (.bn (.cm .lss .i64) (.ld (.bn (.aa 3 1) (.vr 3) (.vr 5))) (.cn (.int .i64 (-64)))) false (.bn (.aa 3 1) (.vr 3) (.vr 5)))
        (.chk (.gd (.bn (.cm .lss .i64) (.ld (.bn (.aa 3 1) (.vr 3) (.vr 5))) (.cn (.int .i64 (-64)))) false (.ld (.bn (.aa 3 1) (.vr 3) (.vr 5))))
        (.chk (.gd (.bn (.cm .lss .i64) (.ld (.bn (.aa 3 1) (.vr 3) (.vr 5))) (.cn (.int .i64 (-64)))) false (.bn (.cm .gtr .i64) (.ld (.bn (.aa 3 1) (.vr 3) (.vr 5))) (.cn (.int .i64 64))))
        (.set 19 (.or (.bn (.cm .lss .i64) (.ld (.bn (.aa 3 1) (.vr 3) (.vr 5))) (.cn (.int .i64 (-64)))) (.bn (.cm .gtr .i64) (.ld (.bn (.aa 3 1) (.vr 3) (.vr 5))) (.cn (.int .i64 64))))
        (.ite (.vr 19)
          (.set 4 (.cn (.bool false))
          .ret)
          .nil
        .nil))))))))
      (.chk (.bn (.ar .add .i64) (.vr 5) (.cn (.int .i64 1)))
      (.set 5 (.bn (.ar .add .i64) (.vr 5) (.cn (.int .i64 1)))
      .nil)))))))
  (.chk (.bn (.cm .geq .i64) (.vr 0) (.cn (.int .i64 2)))
  (.chk (.gd (.bn (.cm .geq .i64) (.vr 0) (.cn (.int .i64 2))) true (.bn (.cm .leq .i64) (.vr 0) (.cn (.int .i64 1024))))
  (.set 4 (.and (.bn (.cm .geq .i64) (.vr 0) (.cn (.int .i64 2))) (.bn (.cm .leq .i64) (.vr 0) (.cn (.int .i64 1024))))
  .ret)))))))
def fc14 : Fc := ⟨26, s14, [(.vr 4)]⟩
theorem c14 : compF Try.prog 14 = some fc14 := by kernel_rfl

/-- kinora/kinoraref2.SameInts · parameters 2 · 0:a 1:b 5:i -/
def s15 : S :=
  (.set 4 (.cn (.bool false))
  (.chk (.un .ln (.vr 0))
  (.chk (.un .ln (.vr 1))
  (.set 10 (.bn (.cm .neq .i64) (.un .ln (.vr 0)) (.un .ln (.vr 1)))
  (.ite (.vr 10)
    (.set 4 (.cn (.bool false))
    .ret)
    .nil
  (.set 5 (.cn (.int .i64 0))
  (.blk 0
    (.loop
      (.chk (.un .ln (.vr 0))
      (.chk (.bn (.cm .lss .i64) (.vr 5) (.un .ln (.vr 0)))
      (.set 14 (.bn (.cm .lss .i64) (.vr 5) (.un .ln (.vr 0)))
      (.ite (.vr 14)
        .nil
        (.exit 0)
      (.blk 1
        (.draw
        (.chk (.bn (.ia 1) (.vr 0) (.vr 5))
        (.chk (.ld (.bn (.ia 1) (.vr 0) (.vr 5)))
        (.chk (.bn (.ia 1) (.vr 1) (.vr 5))
        (.chk (.ld (.bn (.ia 1) (.vr 1) (.vr 5)))
        (.chk (.bn (.cm .neq .i64) (.ld (.bn (.ia 1) (.vr 0) (.vr 5))) (.ld (.bn (.ia 1) (.vr 1) (.vr 5))))
        (.set 25 (.bn (.cm .neq .i64) (.ld (.bn (.ia 1) (.vr 0) (.vr 5))) (.ld (.bn (.ia 1) (.vr 1) (.vr 5))))
        (.ite (.vr 25)
          (.set 4 (.cn (.bool false))
          .ret)
          .nil
        .nil))))))))
      (.chk (.bn (.ar .add .i64) (.vr 5) (.cn (.int .i64 1)))
      (.set 5 (.bn (.ar .add .i64) (.vr 5) (.cn (.int .i64 1)))
      .nil))))))))
  (.set 4 (.cn (.bool true))
  .ret))))))))
def fc15 : Fc := ⟨26, s15, [(.vr 4)]⟩
theorem c15 : compF Try.prog 15 = some fc15 := by kernel_rfl

/-- kinora/long.Back · parameters 3 · 0:rest 1:lag 2:taps 5:taps 8:row 9:n 10:r 11:x -/
def s16 : S :=
  (.op (some 5) (.box 23 (.tmp 2)) 0 [(2, (.vr 2))] []
  (.set 6 (.cn (.slice none 0 0))
  (.set 7 (.cn (.int .i64 0))
  (.chk (.ldn 3 (.vr 5))
  (.set 13 (.ldn 3 (.vr 5))
  (.call (some 14) 13 [(.vr 1), (.vr 13)] []
  (.chk (.un .not (.vr 14))
  (.set 15 (.un .not (.vr 14))
  (.ite (.vr 15)
    (.set 6 (.cn (.slice none 0 0))
    (.set 7 (.cn (.int .i64 1))
    .ret))
    .nil
  (.call (some 17) 24 [(.vr 0)] []
  (.chk (.un .not (.vr 17))
  (.set 18 (.un .not (.vr 17))
  (.ite (.vr 18)
    (.set 6 (.cn (.slice none 0 0))
    (.set 7 (.cn (.int .i64 6))
    .ret))
    .nil
  (.chk (.un .ln (.vr 0))
  (.op (some 21) (.makeSlice 22 (.const (.int .i64 0)) (.tmp 20)) 22 [(20, (.un .ln (.vr 0)))] []
  (.set 8 (.vr 21)
  (.set 22 (.vr 0)
  (.chk (.un .ln (.vr 22))
  (.set 23 (.un .ln (.vr 22))
  (.set 24 (.cn (.int .i64 0))
  (.blk 0
    (.loop
      (.chk (.bn (.cm .lss .i64) (.vr 24) (.vr 23))
      (.set 25 (.bn (.cm .lss .i64) (.vr 24) (.vr 23))
      (.ite (.vr 25)
        .nil
        (.exit 0)
      (.blk 1
        (.chk (.bn (.ia 1) (.vr 22) (.vr 24))
        (.chk (.ld (.bn (.ia 1) (.vr 22) (.vr 24)))
        (.set 9 (.vr 24)
        (.set 10 (.ld (.bn (.ia 1) (.vr 22) (.vr 24)))
        (.chk (.ldn 3 (.vr 5))
        (.set 33 (.ldn 3 (.vr 5))
        (.call (some 34) 25 [(.vr 8), (.vr 9), (.vr 1), (.vr 33)] []
        (.chk (.bn (.ar .add .i64) (.vr 10) (.vr 34))
        (.set 11 (.bn (.ar .add .i64) (.vr 10) (.vr 34))
        (.call (some 37) 26 [(.vr 11)] []
        (.chk (.un .not (.vr 37))
        (.set 38 (.un .not (.vr 37))
        (.ite (.vr 38)
          (.set 6 (.cn (.slice none 0 0))
          (.set 7 (.cn (.int .i64 6))
          .ret))
          .nil
        (.op (some 41) (.buildSlice 22 1 #[(0, (.tmp 40))]) 22 [(40, (.vr 11))] []
        (.op (some 42) (.call ⟨(.builtin .append), #[(.tmp 39), (.tmp 41)], #[22, 22]⟩) 22 [(39, (.vr 8)), (41, (.vr 41))] []
        (.set 8 (.vr 42)
        .nil))))))))))))))))
      (.chk (.bn (.ar .add .i64) (.vr 24) (.cn (.int .i64 1)))
      (.set 24 (.bn (.ar .add .i64) (.vr 24) (.cn (.int .i64 1)))
      .nil)))))))
  (.set 6 (.vr 8)
  (.set 7 (.cn (.int .i64 0))
  .ret)))))))))))))))))))))))
def fc16 : Fc := ⟨45, s16, [(.vr 6), (.vr 7)]⟩
theorem c16 : compF Try.prog 16 = some fc16 := by kernel_rfl

/-- kinora/kinoraref14.LongBack · parameters 3 · 0:rest 1:lag 2:taps 5:taps 8:out 9:i 10:x -/
def s17 : S :=
  (.op (some 5) (.box 23 (.tmp 2)) 0 [(2, (.vr 2))] []
  (.set 6 (.cn (.slice none 0 0))
  (.set 7 (.cn (.int .i64 0))
  (.chk (.ldn 3 (.vr 5))
  (.set 12 (.ldn 3 (.vr 5))
  (.call (some 13) 14 [(.vr 1), (.vr 12)] []
  (.chk (.un .not (.vr 13))
  (.set 14 (.un .not (.vr 13))
  (.ite (.vr 14)
    (.set 6 (.cn (.slice none 0 0))
    (.set 7 (.cn (.int .i64 1))
    .ret))
    .nil
  (.call (some 16) 19 [(.vr 0)] []
  (.chk (.un .not (.vr 16))
  (.set 17 (.un .not (.vr 16))
  (.ite (.vr 17)
    (.set 6 (.cn (.slice none 0 0))
    (.set 7 (.cn (.int .i64 6))
    .ret))
    .nil
  (.set 8 (.cn (.slice none 0 0))
  (.set 9 (.cn (.int .i64 0))
  (.blk 0
    (.loop
      (.chk (.un .ln (.vr 0))
      (.chk (.bn (.cm .lss .i64) (.vr 9) (.un .ln (.vr 0)))
      (.set 21 (.bn (.cm .lss .i64) (.vr 9) (.un .ln (.vr 0)))
      (.ite (.vr 21)
        .nil
        (.exit 0)
      (.blk 1
        (.draw
        (.chk (.bn (.ia 1) (.vr 0) (.vr 9))
        (.chk (.ld (.bn (.ia 1) (.vr 0) (.vr 9)))
        (.set 27 (.ld (.bn (.ia 1) (.vr 0) (.vr 9)))
        (.chk (.ldn 3 (.vr 5))
        (.set 30 (.ldn 3 (.vr 5))
        (.call (some 31) 27 [(.vr 8), (.vr 1), (.vr 30)] [⟨3, (.bn (.ia 1) (.vr 0) (.vr 9)), 1, none⟩]
        (.chk (.bn (.ar .add .i64) (.vr 27) (.vr 31))
        (.set 10 (.bn (.ar .add .i64) (.vr 27) (.vr 31))
        (.call (some 34) 28 [(.vr 10)] []
        (.chk (.un .not (.vr 34))
        (.set 35 (.un .not (.vr 34))
        (.ite (.vr 35)
          (.set 6 (.cn (.slice none 0 0))
          (.set 7 (.cn (.int .i64 6))
          .ret))
          .nil
        (.op (some 38) (.buildSlice 22 1 #[(0, (.tmp 37))]) 22 [(37, (.vr 10))] []
        (.op (some 39) (.call ⟨(.builtin .append), #[(.tmp 36), (.tmp 38)], #[22, 22]⟩) 22 [(36, (.vr 8)), (38, (.vr 38))] []
        (.set 8 (.vr 39)
        .nil))))))))))))))))
      (.chk (.bn (.ar .add .i64) (.vr 9) (.cn (.int .i64 1)))
      (.set 9 (.bn (.ar .add .i64) (.vr 9) (.cn (.int .i64 1)))
      .nil))))))))
  (.set 6 (.vr 8)
  (.set 7 (.cn (.int .i64 0))
  .ret))))))))))))))))))
def fc17 : Fc := ⟨41, s17, [(.vr 6), (.vr 7)]⟩
theorem c17 : compF Try.prog 17 = some fc17 := by kernel_rfl

/-- kinora/long.Find · parameters 3 · 0:l 1:least 2:most 8:best 9:bestSum 10:lag 11:sum 12:n 13:d -/
def s18 : S :=
  (.set 6 (.cn (.int .i64 0))
  (.set 7 (.cn (.int .i64 0))
  (.chk (.bn (.cm .lss .i64) (.vr 1) (.cn (.int .i64 2)))
  (.chk (.gd (.bn (.cm .lss .i64) (.vr 1) (.cn (.int .i64 2))) false (.bn (.cm .gtr .i64) (.vr 1) (.vr 2)))
  (.chk (.gd (.or (.bn (.cm .lss .i64) (.vr 1) (.cn (.int .i64 2))) (.bn (.cm .gtr .i64) (.vr 1) (.vr 2))) false (.bn (.cm .gtr .i64) (.vr 2) (.cn (.int .i64 1024))))
  (.chk (.gd (.or (.or (.bn (.cm .lss .i64) (.vr 1) (.cn (.int .i64 2))) (.bn (.cm .gtr .i64) (.vr 1) (.vr 2))) (.bn (.cm .gtr .i64) (.vr 2) (.cn (.int .i64 1024)))) false (.un .ln (.vr 0)))
  (.set 29 (.or (.or (.or (.bn (.cm .lss .i64) (.vr 1) (.cn (.int .i64 2))) (.bn (.cm .gtr .i64) (.vr 1) (.vr 2))) (.bn (.cm .gtr .i64) (.vr 2) (.cn (.int .i64 1024)))) (.bn (.cm .gtr .i64) (.un .ln (.vr 0)) (.cn (.int .i64 4096))))
  (.ite (.vr 29)
    (.set 6 (.cn (.int .i64 0))
    (.set 7 (.cn (.int .i64 1))
    .ret))
    .nil
  (.chk (.un .ln (.vr 0))
  (.chk (.bn (.cm .leq .i64) (.un .ln (.vr 0)) (.vr 2))
  (.set 33 (.bn (.cm .leq .i64) (.un .ln (.vr 0)) (.vr 2))
  (.ite (.vr 33)
    (.set 6 (.cn (.int .i64 0))
    (.set 7 (.cn (.int .i64 7))
    .ret))
    .nil
  (.call (some 35) 24 [(.vr 0)] []
  (.chk (.un .not (.vr 35))
  (.set 36 (.un .not (.vr 35))
  (.ite (.vr 36)
    (.set 6 (.cn (.int .i64 0))
    (.set 7 (.cn (.int .i64 6))
    .ret))
    .nil
  (.set 8 (.cn (.int .i64 0))
  (.set 9 (.cn (.int .i64 0))
  (.set 10 (.vr 1)
  (.blk 0
    (.loop
      (.chk (.bn (.cm .leq .i64) (.vr 10) (.vr 2))
      (.set 40 (.bn (.cm .leq .i64) (.vr 10) (.vr 2))
      (.ite (.vr 40)
        .nil
        (.exit 0)
      (.blk 1
        (.set 11 (.cn (.int .i64 0))
        (.set 12 (.vr 2)
        (.blk 2
          (.loop
            (.chk (.un .ln (.vr 0))
            (.chk (.bn (.cm .lss .i64) (.vr 12) (.un .ln (.vr 0)))
            (.set 47 (.bn (.cm .lss .i64) (.vr 12) (.un .ln (.vr 0)))
            (.ite (.vr 47)
              .nil
              (.exit 2)
            (.blk 3
              (.draw
              (.chk (.bn (.ia 1) (.vr 0) (.vr 12))
              (.chk (.ld (.bn (.ia 1) (.vr 0) (.vr 12)))
              (.chk (.bn (.ar .sub .i64) (.vr 12) (.vr 10))
              (.chk (.bn (.ia 1) (.vr 0) (.bn (.ar .sub .i64) (.vr 12) (.vr 10)))
              (.chk (.ld (.bn (.ia 1) (.vr 0) (.bn (.ar .sub .i64) (.vr 12) (.vr 10))))
              (.chk (.bn (.ar .sub .i64) (.ld (.bn (.ia 1) (.vr 0) (.vr 12))) (.ld (.bn (.ia 1) (.vr 0) (.bn (.ar .sub .i64) (.vr 12) (.vr 10)))))
              (.set 13 (.bn (.ar .sub .i64) (.ld (.bn (.ia 1) (.vr 0) (.vr 12))) (.ld (.bn (.ia 1) (.vr 0) (.bn (.ar .sub .i64) (.vr 12) (.vr 10)))))
              (.chk (.un (.neg .i64) (.vr 13))
              (.chk (.bn (.mx .i64) (.vr 13) (.un (.neg .i64) (.vr 13)))
              (.chk (.bn (.ar .add .i64) (.vr 11) (.bn (.mx .i64) (.vr 13) (.un (.neg .i64) (.vr 13))))
              (.set 11 (.bn (.ar .add .i64) (.vr 11) (.bn (.mx .i64) (.vr 13) (.un (.neg .i64) (.vr 13))))
              .nil))))))))))))
            (.chk (.bn (.ar .add .i64) (.vr 12) (.cn (.int .i64 1)))
            (.set 12 (.bn (.ar .add .i64) (.vr 12) (.cn (.int .i64 1)))
            .nil))))))))
        (.chk (.bn (.cm .eql .i64) (.vr 10) (.vr 1))
        (.chk (.gd (.bn (.cm .eql .i64) (.vr 10) (.vr 1)) false (.bn (.cm .lss .i64) (.vr 11) (.vr 9)))
        (.set 74 (.or (.bn (.cm .eql .i64) (.vr 10) (.vr 1)) (.bn (.cm .lss .i64) (.vr 11) (.vr 9)))
        (.ite (.vr 74)
          (.set 8 (.vr 10)
          (.set 9 (.vr 11)
          .nil))
          .nil
        .nil)))))))
      (.chk (.bn (.ar .add .i64) (.vr 10) (.cn (.int .i64 1)))
      (.set 10 (.bn (.ar .add .i64) (.vr 10) (.cn (.int .i64 1)))
      .nil)))))))
  (.set 6 (.vr 8)
  (.set 7 (.cn (.int .i64 0))
  .ret))))))))))))))))))))))
def fc18 : Fc := ⟨78, s18, [(.vr 6), (.vr 7)]⟩
theorem c18 : compF Try.prog 18 = some fc18 := by kernel_rfl

/-- kinora/kinoraref2.AllWide · parameters 1 · 0:l 3:i -/
def s19 : S :=
  (.set 2 (.cn (.bool false))
  (.set 3 (.cn (.int .i64 0))
  (.blk 0
    (.loop
      (.chk (.un .ln (.vr 0))
      (.chk (.bn (.cm .lss .i64) (.vr 3) (.un .ln (.vr 0)))
      (.set 7 (.bn (.cm .lss .i64) (.vr 3) (.un .ln (.vr 0)))
      (.ite (.vr 7)
        .nil
        (.exit 0)
      (.blk 1
        (.chk (.bn (.ia 1) (.vr 0) (.vr 3))
        (.chk (.ld (.bn (.ia 1) (.vr 0) (.vr 3)))
        (.set 13 (.ld (.bn (.ia 1) (.vr 0) (.vr 3)))
        (.call (some 14) 28 [(.vr 13)] []
        (.chk (.un .not (.vr 14))
        (.set 15 (.un .not (.vr 14))
        (.ite (.vr 15)
          (.set 2 (.cn (.bool false))
          .ret)
          .nil
        .nil)))))))
      (.chk (.bn (.ar .add .i64) (.vr 3) (.cn (.int .i64 1)))
      (.set 3 (.bn (.ar .add .i64) (.vr 3) (.cn (.int .i64 1)))
      .nil))))))))
  (.set 2 (.cn (.bool true))
  .ret))))
def fc19 : Fc := ⟨16, s19, [(.vr 2)]⟩
theorem c19 : compF Try.prog 19 = some fc19 := by kernel_rfl

/-- kinora/kinoraref14.LongFind · parameters 3 · 0:l 1:least 2:most 8:best 9:away 10:lag 11:n 12:i -/
def s20 : S :=
  (.set 6 (.cn (.int .i64 0))
  (.set 7 (.cn (.int .i64 0))
  (.blk 0
    (.chk (.bn (.cm .lss .i64) (.vr 1) (.cn (.int .i64 2)))
    (.chk (.gd (.bn (.cm .lss .i64) (.vr 1) (.cn (.int .i64 2))) false (.bn (.cm .lss .i64) (.vr 2) (.vr 1)))
    (.chk (.gd (.or (.bn (.cm .lss .i64) (.vr 1) (.cn (.int .i64 2))) (.bn (.cm .lss .i64) (.vr 2) (.vr 1))) false (.bn (.cm .gtr .i64) (.vr 2) (.cn (.int .i64 1024))))
    (.chk (.gd (.or (.or (.bn (.cm .lss .i64) (.vr 1) (.cn (.int .i64 2))) (.bn (.cm .lss .i64) (.vr 2) (.vr 1))) (.bn (.cm .gtr .i64) (.vr 2) (.cn (.int .i64 1024)))) false (.un .ln (.vr 0)))
    (.set 13 (.or (.or (.or (.bn (.cm .lss .i64) (.vr 1) (.cn (.int .i64 2))) (.bn (.cm .lss .i64) (.vr 2) (.vr 1))) (.bn (.cm .gtr .i64) (.vr 2) (.cn (.int .i64 1024)))) (.bn (.cm .gtr .i64) (.un .ln (.vr 0)) (.cn (.int .i64 4096))))
    (.ite (.vr 13)
      (.set 6 (.cn (.int .i64 0))
      (.set 7 (.cn (.int .i64 1))
      .ret))
      (.chk (.un .ln (.vr 0))
      (.chk (.bn (.cm .leq .i64) (.un .ln (.vr 0)) (.vr 2))
      (.set 30 (.bn (.cm .leq .i64) (.un .ln (.vr 0)) (.vr 2))
      (.ite (.vr 30)
        (.set 6 (.cn (.int .i64 0))
        (.set 7 (.cn (.int .i64 7))
        .ret))
        (.call (some 37) 19 [(.vr 0)] []
        (.chk (.un .not (.vr 37))
        (.set 35 (.un .not (.vr 37))
        (.ite (.vr 35)
          (.set 6 (.cn (.int .i64 0))
          (.set 7 (.cn (.int .i64 6))
          .ret))
          .nil
        .nil))))
      .nil))))
    .nil))))))
  (.set 8 (.cn (.int .i64 0))
  (.set 9 (.cn (.int .i64 0))
  (.set 10 (.vr 1)
  (.blk 1
    (.loop
      (.chk (.bn (.cm .leq .i64) (.vr 10) (.vr 2))
      (.set 42 (.bn (.cm .leq .i64) (.vr 10) (.vr 2))
      (.ite (.vr 42)
        .nil
        (.exit 1)
      (.blk 2
        (.set 11 (.cn (.int .i64 0))
        (.set 12 (.vr 2)
        (.blk 3
          (.loop
            (.chk (.un .ln (.vr 0))
            (.chk (.bn (.cm .lss .i64) (.vr 12) (.un .ln (.vr 0)))
            (.set 49 (.bn (.cm .lss .i64) (.vr 12) (.un .ln (.vr 0)))
            (.ite (.vr 49)
              .nil
              (.exit 3)
            (.blk 4
              (.draw
              (.chk (.bn (.ia 1) (.vr 0) (.vr 12))
              (.chk (.ld (.bn (.ia 1) (.vr 0) (.vr 12)))
              (.set 56 (.ld (.bn (.ia 1) (.vr 0) (.vr 12)))
              (.chk (.bn (.ar .sub .i64) (.vr 12) (.vr 10))
              (.chk (.bn (.ia 1) (.vr 0) (.bn (.ar .sub .i64) (.vr 12) (.vr 10)))
              (.chk (.ld (.bn (.ia 1) (.vr 0) (.bn (.ar .sub .i64) (.vr 12) (.vr 10))))
              (.set 62 (.ld (.bn (.ia 1) (.vr 0) (.bn (.ar .sub .i64) (.vr 12) (.vr 10))))
              (.chk (.bn (.ar .sub .i64) (.vr 56) (.vr 62))
              (.call (some 64) 29 [(.bn (.ar .sub .i64) (.vr 56) (.vr 62))] []
              (.chk (.bn (.ar .add .i64) (.vr 11) (.vr 64))
              (.set 11 (.bn (.ar .add .i64) (.vr 11) (.vr 64))
              .nil))))))))))))
            (.chk (.bn (.ar .add .i64) (.vr 12) (.cn (.int .i64 1)))
            (.set 12 (.bn (.ar .add .i64) (.vr 12) (.cn (.int .i64 1)))
            .nil))))))))
        (.chk (.bn (.cm .eql .i64) (.vr 8) (.cn (.int .i64 0)))
        (.chk (.gd (.bn (.cm .eql .i64) (.vr 8) (.cn (.int .i64 0))) false (.bn (.cm .lss .i64) (.vr 11) (.vr 9)))
        (.set 72 (.or (.bn (.cm .eql .i64) (.vr 8) (.cn (.int .i64 0))) (.bn (.cm .lss .i64) (.vr 11) (.vr 9)))
        (.ite (.vr 72)
          (.set 8 (.vr 10)
          (.set 9 (.vr 11)
          .nil))
          .nil
        .nil)))))))
      (.chk (.bn (.ar .add .i64) (.vr 10) (.cn (.int .i64 1)))
      (.set 10 (.bn (.ar .add .i64) (.vr 10) (.cn (.int .i64 1)))
      .nil)))))))
  (.set 6 (.vr 8)
  (.set 7 (.cn (.int .i64 0))
  .ret)))))))))
def fc20 : Fc := ⟨76, s20, [(.vr 6), (.vr 7)]⟩
theorem c20 : compF Try.prog 20 = some fc20 := by kernel_rfl

/-- kinora/long.Tune · parameters 2 · 0:l 1:lag 6:best 7:bestSum 8:found 10:taps 11:rest 12:err 13:sum 15:r -/
def s21 : S :=
  (.op (some 4) (.alloc 23) 0 [] []
  (.set 5 (.cn (.int .i64 0))
  (.chk (.bn (.cm .lss .i64) (.vr 1) (.cn (.int .i64 2)))
  (.chk (.gd (.bn (.cm .lss .i64) (.vr 1) (.cn (.int .i64 2))) false (.bn (.cm .gtr .i64) (.vr 1) (.cn (.int .i64 1024))))
  (.set 21 (.or (.bn (.cm .lss .i64) (.vr 1) (.cn (.int .i64 2))) (.bn (.cm .gtr .i64) (.vr 1) (.cn (.int .i64 1024))))
  (.ite (.vr 21)
    (.st 3 (.vr 4) (.cn (.agg #[(.int .i64 0), (.int .i64 0), (.int .i64 0)])) []
    (.set 5 (.cn (.int .i64 1))
    .ret))
    .nil
  (.op (some 6) (.alloc 23) 0 [] []
  (.st 3 (.vr 6) (.cn (.agg #[(.int .i64 0), (.int .i64 0), (.int .i64 0)])) []
  (.set 7 (.cn (.int .i64 0))
  (.set 8 (.cn (.bool false))
  (.call (some 24) 23 [] []
  (.chk (.un .ln (.vr 24))
  (.set 25 (.un .ln (.vr 24))
  (.set 26 (.cn (.int .i64 0))
  (.blk 0
    (.loop
      (.chk (.bn (.cm .lss .i64) (.vr 26) (.vr 25))
      (.set 27 (.bn (.cm .lss .i64) (.vr 26) (.vr 25))
      (.ite (.vr 27)
        .nil
        (.exit 0)
      (.blk 1
        (.chk (.bn (.ia 3) (.vr 24) (.vr 26))
        (.chk (.ldn 3 (.bn (.ia 3) (.vr 24) (.vr 26)))
        (.set 29 (.ldn 3 (.bn (.ia 3) (.vr 24) (.vr 26)))
        (.op (some 10) (.alloc 23) 0 [] []
        (.st 3 (.vr 10) (.vr 29) []
        (.chk (.ldn 3 (.vr 10))
        (.set 33 (.ldn 3 (.vr 10))
        (.call (some 34) 11 [(.vr 0), (.vr 1), (.vr 33)] []
        (.chk (.un (.ex 0) (.vr 34))
        (.chk (.un (.ex 1) (.vr 34))
        (.set 11 (.un (.ex 0) (.vr 34))
        (.set 12 (.un (.ex 1) (.vr 34))
        (.chk (.bn (.cm .neq .i64) (.vr 12) (.cn (.int .i64 0)))
        (.set 38 (.bn (.cm .neq .i64) (.vr 12) (.cn (.int .i64 0)))
        (.ite (.vr 38)
          (.exit 1)
          .nil
        (.set 13 (.cn (.int .i64 0))
        (.set 39 (.vr 11)
        (.chk (.un .ln (.vr 39))
        (.set 40 (.un .ln (.vr 39))
        (.set 41 (.cn (.int .i64 0))
        (.blk 2
          (.loop
            (.chk (.bn (.cm .lss .i64) (.vr 41) (.vr 40))
            (.set 42 (.bn (.cm .lss .i64) (.vr 41) (.vr 40))
            (.ite (.vr 42)
              .nil
              (.exit 2)
            (.blk 3
              (.chk (.bn (.ia 1) (.vr 39) (.vr 41))
              (.chk (.ld (.bn (.ia 1) (.vr 39) (.vr 41)))
              (.set 15 (.ld (.bn (.ia 1) (.vr 39) (.vr 41)))
              (.chk (.un (.neg .i64) (.vr 15))
              (.chk (.bn (.mx .i64) (.vr 15) (.un (.neg .i64) (.vr 15)))
              (.chk (.bn (.ar .add .i64) (.vr 13) (.bn (.mx .i64) (.vr 15) (.un (.neg .i64) (.vr 15))))
              (.set 13 (.bn (.ar .add .i64) (.vr 13) (.bn (.mx .i64) (.vr 15) (.un (.neg .i64) (.vr 15))))
              .nil)))))))
            (.chk (.bn (.ar .add .i64) (.vr 41) (.cn (.int .i64 1)))
            (.set 41 (.bn (.ar .add .i64) (.vr 41) (.cn (.int .i64 1)))
            .nil)))))))
        (.chk (.un .not (.vr 8))
        (.chk (.gd (.un .not (.vr 8)) false (.bn (.cm .lss .i64) (.vr 13) (.vr 7)))
        (.set 58 (.or (.un .not (.vr 8)) (.bn (.cm .lss .i64) (.vr 13) (.vr 7)))
        (.ite (.vr 58)
          (.chk (.ldn 3 (.vr 10))
          (.set 59 (.ldn 3 (.vr 10))
          (.st 3 (.vr 6) (.vr 59) []
          (.set 7 (.vr 13)
          (.set 8 (.cn (.bool true))
          .nil)))))
          .nil
        .nil)))))))))))))))))))))))))
      (.chk (.bn (.ar .add .i64) (.vr 26) (.cn (.int .i64 1)))
      (.set 26 (.bn (.ar .add .i64) (.vr 26) (.cn (.int .i64 1)))
      .nil)))))))
  (.chk (.un .not (.vr 8))
  (.set 63 (.un .not (.vr 8))
  (.ite (.vr 63)
    (.st 3 (.vr 4) (.cn (.agg #[(.int .i64 0), (.int .i64 0), (.int .i64 0)])) []
    (.set 5 (.cn (.int .i64 6))
    .ret))
    .nil
  (.chk (.ldn 3 (.vr 6))
  (.set 65 (.ldn 3 (.vr 6))
  (.st 3 (.vr 4) (.vr 65) []
  (.set 5 (.cn (.int .i64 0))
  .ret))))))))))))))))))))))
def fc21 : Fc := ⟨66, s21, [(.ldn 3 (.vr 4)), (.vr 5)]⟩
theorem c21 : compF Try.prog 21 = some fc21 := by kernel_rfl

/-- kinora/kinoraref14.LongTune · parameters 2 · 0:l 1:lag 6:t 7:best 8:least 9:i 10:r 11:e 12:n -/
def s22 : S :=
  (.op (some 4) (.alloc 23) 0 [] []
  (.set 5 (.cn (.int .i64 0))
  (.chk (.bn (.cm .lss .i64) (.vr 1) (.cn (.int .i64 2)))
  (.chk (.gd (.bn (.cm .lss .i64) (.vr 1) (.cn (.int .i64 2))) false (.bn (.cm .gtr .i64) (.vr 1) (.cn (.int .i64 1024))))
  (.set 18 (.or (.bn (.cm .lss .i64) (.vr 1) (.cn (.int .i64 2))) (.bn (.cm .gtr .i64) (.vr 1) (.cn (.int .i64 1024))))
  (.ite (.vr 18)
    (.st 3 (.vr 4) (.cn (.agg #[(.int .i64 0), (.int .i64 0), (.int .i64 0)])) []
    (.set 5 (.cn (.int .i64 1))
    .ret))
    .nil
  (.call (some 20) 30 [] []
  (.set 6 (.vr 20)
  (.set 7 (.cn (.int .i64 (-1)))
  (.set 8 (.cn (.int .i64 0))
  (.set 9 (.cn (.int .i64 0))
  (.blk 0
    (.loop
      (.chk (.un .ln (.vr 6))
      (.chk (.bn (.cm .lss .i64) (.vr 9) (.un .ln (.vr 6)))
      (.set 24 (.bn (.cm .lss .i64) (.vr 9) (.un .ln (.vr 6)))
      (.ite (.vr 24)
        .nil
        (.exit 0)
      (.blk 1
        (.chk (.bn (.ia 3) (.vr 6) (.vr 9))
        (.chk (.ldn 3 (.bn (.ia 3) (.vr 6) (.vr 9)))
        (.set 33 (.ldn 3 (.bn (.ia 3) (.vr 6) (.vr 9)))
        (.call (some 34) 12 [(.vr 0), (.vr 1), (.vr 33)] []
        (.chk (.un (.ex 0) (.vr 34))
        (.chk (.un (.ex 1) (.vr 34))
        (.set 10 (.un (.ex 0) (.vr 34))
        (.set 11 (.un (.ex 1) (.vr 34))
        (.call (some 38) 31 [(.vr 10), (.cn (.int .i64 0))] []
        (.set 12 (.vr 38)
        (.chk (.bn (.cm .eql .i64) (.vr 11) (.cn (.int .i64 0)))
        (.chk (.gd (.bn (.cm .eql .i64) (.vr 11) (.cn (.int .i64 0))) true (.bn (.cm .lss .i64) (.vr 7) (.cn (.int .i64 0))))
        (.chk (.gd (.gd (.bn (.cm .eql .i64) (.vr 11) (.cn (.int .i64 0))) true (.bn (.cm .lss .i64) (.vr 7) (.cn (.int .i64 0)))) false (.bn (.cm .lss .i64) (.vr 12) (.vr 8)))
        (.set 49 (.and (.bn (.cm .eql .i64) (.vr 11) (.cn (.int .i64 0))) (.or (.bn (.cm .lss .i64) (.vr 7) (.cn (.int .i64 0))) (.bn (.cm .lss .i64) (.vr 12) (.vr 8))))
        (.ite (.vr 49)
          (.set 7 (.vr 9)
          (.set 8 (.vr 12)
          .nil))
          .nil
        .nil)))))))))))))))
      (.chk (.bn (.ar .add .i64) (.vr 9) (.cn (.int .i64 1)))
      (.set 9 (.bn (.ar .add .i64) (.vr 9) (.cn (.int .i64 1)))
      .nil))))))))
  (.chk (.bn (.cm .lss .i64) (.vr 7) (.cn (.int .i64 0)))
  (.set 53 (.bn (.cm .lss .i64) (.vr 7) (.cn (.int .i64 0)))
  (.ite (.vr 53)
    (.st 3 (.vr 4) (.cn (.agg #[(.int .i64 0), (.int .i64 0), (.int .i64 0)])) []
    (.set 5 (.cn (.int .i64 6))
    .ret))
    .nil
  (.chk (.bn (.ia 3) (.vr 6) (.vr 7))
  (.chk (.ldn 3 (.bn (.ia 3) (.vr 6) (.vr 7)))
  (.set 58 (.ldn 3 (.bn (.ia 3) (.vr 6) (.vr 7)))
  (.st 3 (.vr 4) (.vr 58) []
  (.set 5 (.cn (.int .i64 0))
  .ret))))))))))))))))))))
def fc22 : Fc := ⟨59, s22, [(.ldn 3 (.vr 4)), (.vr 5)]⟩
theorem c22 : compF Try.prog 22 = some fc22 := by kernel_rfl

/-- kinora/long.Table · parameters 0 ·  -/
def s23 : S :=
  (.set 0 (.cn (.slice none 0 0))
  (.chk (.bd 2 1 (.cn (.int .i64 0)) (.bd 1 1 (.cn (.int .i64 0)) (.bd 0 1 (.cn (.int .i64 0)) (.cn (.agg #[(.int .i64 0), (.int .i64 0), (.int .i64 0)])))))
  (.chk (.bd 2 1 (.cn (.int .i64 0)) (.bd 1 1 (.cn (.int .i64 64)) (.bd 0 1 (.cn (.int .i64 0)) (.cn (.agg #[(.int .i64 0), (.int .i64 0), (.int .i64 0)])))))
  (.chk (.bd 2 1 (.cn (.int .i64 0)) (.bd 1 1 (.cn (.int .i64 32)) (.bd 0 1 (.cn (.int .i64 0)) (.cn (.agg #[(.int .i64 0), (.int .i64 0), (.int .i64 0)])))))
  (.chk (.bd 2 1 (.cn (.int .i64 16)) (.bd 1 1 (.cn (.int .i64 32)) (.bd 0 1 (.cn (.int .i64 16)) (.cn (.agg #[(.int .i64 0), (.int .i64 0), (.int .i64 0)])))))
  (.chk (.bd 2 1 (.cn (.int .i64 21)) (.bd 1 1 (.cn (.int .i64 22)) (.bd 0 1 (.cn (.int .i64 21)) (.cn (.agg #[(.int .i64 0), (.int .i64 0), (.int .i64 0)])))))
  (.chk (.bd 2 1 (.cn (.int .i64 0)) (.bd 1 1 (.cn (.int .i64 48)) (.bd 0 1 (.cn (.int .i64 0)) (.cn (.agg #[(.int .i64 0), (.int .i64 0), (.int .i64 0)])))))
  (.chk (.bd 2 1 (.cn (.int .i64 (-8))) (.bd 1 1 (.cn (.int .i64 64)) (.bd 0 1 (.cn (.int .i64 (-8))) (.cn (.agg #[(.int .i64 0), (.int .i64 0), (.int .i64 0)])))))
  (.chk (.bd 2 1 (.cn (.int .i64 0)) (.bd 1 1 (.cn (.int .i64 32)) (.bd 0 1 (.cn (.int .i64 32)) (.cn (.agg #[(.int .i64 0), (.int .i64 0), (.int .i64 0)])))))
  (.chk (.bd 2 1 (.cn (.int .i64 32)) (.bd 1 1 (.cn (.int .i64 32)) (.bd 0 1 (.cn (.int .i64 0)) (.cn (.agg #[(.int .i64 0), (.int .i64 0), (.int .i64 0)])))))
  (.op (some 10) (.buildSlice 42 9 #[(0, (.tmp 1)), (1, (.tmp 2)), (2, (.tmp 3)), (3, (.tmp 4)), (4, (.tmp 5)), (5, (.tmp 6)), (6, (.tmp 7)), (7, (.tmp 8)), (8, (.tmp 9))]) 42 [(1, (.bd 2 1 (.cn (.int .i64 0)) (.bd 1 1 (.cn (.int .i64 0)) (.bd 0 1 (.cn (.int .i64 0)) (.cn (.agg #[(.int .i64 0), (.int .i64 0), (.int .i64 0)])))))), (2, (.bd 2 1 (.cn (.int .i64 0)) (.bd 1 1 (.cn (.int .i64 64)) (.bd 0 1 (.cn (.int .i64 0)) (.cn (.agg #[(.int .i64 0), (.int .i64 0), (.int .i64 0)])))))), (3, (.bd 2 1 (.cn (.int .i64 0)) (.bd 1 1 (.cn (.int .i64 32)) (.bd 0 1 (.cn (.int .i64 0)) (.cn (.agg #[(.int .i64 0), (.int .i64 0), (.int .i64 0)])))))), (4, (.bd 2 1 (.cn (.int .i64 16)) (.bd 1 1 (.cn (.int .i64 32)) (.bd 0 1 (.cn (.int .i64 16)) (.cn (.agg #[(.int .i64 0), (.int .i64 0), (.int .i64 0)])))))), (5, (.bd 2 1 (.cn (.int .i64 21)) (.bd 1 1 (.cn (.int .i64 22)) (.bd 0 1 (.cn (.int .i64 21)) (.cn (.agg #[(.int .i64 0), (.int .i64 0), (.int .i64 0)])))))), (6, (.bd 2 1 (.cn (.int .i64 0)) (.bd 1 1 (.cn (.int .i64 48)) (.bd 0 1 (.cn (.int .i64 0)) (.cn (.agg #[(.int .i64 0), (.int .i64 0), (.int .i64 0)])))))), (7, (.bd 2 1 (.cn (.int .i64 (-8))) (.bd 1 1 (.cn (.int .i64 64)) (.bd 0 1 (.cn (.int .i64 (-8))) (.cn (.agg #[(.int .i64 0), (.int .i64 0), (.int .i64 0)])))))), (8, (.bd 2 1 (.cn (.int .i64 0)) (.bd 1 1 (.cn (.int .i64 32)) (.bd 0 1 (.cn (.int .i64 32)) (.cn (.agg #[(.int .i64 0), (.int .i64 0), (.int .i64 0)])))))), (9, (.bd 2 1 (.cn (.int .i64 32)) (.bd 1 1 (.cn (.int .i64 32)) (.bd 0 1 (.cn (.int .i64 0)) (.cn (.agg #[(.int .i64 0), (.int .i64 0), (.int .i64 0)]))))))] []
  (.set 0 (.vr 10)
  .ret))))))))))))
def fc23 : Fc := ⟨11, s23, [(.vr 0)]⟩
theorem c23 : compF Try.prog 23 = some fc23 := by kernel_rfl

/-- kinora/long.allWide · parameters 1 · 0:l 4:x -/
def s24 : S :=
  (.set 2 (.cn (.bool false))
  (.set 5 (.vr 0)
  (.chk (.un .ln (.vr 5))
  (.set 6 (.un .ln (.vr 5))
  (.set 7 (.cn (.int .i64 0))
  (.blk 0
    (.loop
      (.chk (.bn (.cm .lss .i64) (.vr 7) (.vr 6))
      (.set 8 (.bn (.cm .lss .i64) (.vr 7) (.vr 6))
      (.ite (.vr 8)
        .nil
        (.exit 0)
      (.blk 1
        (.chk (.bn (.ia 1) (.vr 5) (.vr 7))
        (.chk (.ld (.bn (.ia 1) (.vr 5) (.vr 7)))
        (.set 4 (.ld (.bn (.ia 1) (.vr 5) (.vr 7)))
        (.call (some 12) 26 [(.vr 4)] []
        (.chk (.un .not (.vr 12))
        (.set 13 (.un .not (.vr 12))
        (.ite (.vr 13)
          (.set 2 (.cn (.bool false))
          .ret)
          .nil
        .nil)))))))
      (.chk (.bn (.ar .add .i64) (.vr 7) (.cn (.int .i64 1)))
      (.set 7 (.bn (.ar .add .i64) (.vr 7) (.cn (.int .i64 1)))
      .nil)))))))
  (.set 2 (.cn (.bool true))
  .ret)))))))
def fc24 : Fc := ⟨15, s24, [(.vr 2)]⟩
theorem c24 : compF Try.prog 24 = some fc24 := by kernel_rfl

/-- kinora/long.predict · parameters 4 · 0:row 1:n 2:lag 3:taps 7:taps 9:sum 10:i 11:t 12:at -/
def s25 : S :=
  (.op (some 7) (.box 23 (.tmp 3)) 0 [(3, (.vr 3))] []
  (.set 8 (.cn (.int .i64 0))
  (.set 9 (.cn (.int .i64 0))
  (.chk (.ldn 3 (.vr 7))
  (.set 13 (.ldn 3 (.vr 7))
  (.set 14 (.cn (.int .i64 0))
  (.blk 0
    (.loop
      (.chk (.bn (.cm .lss .i64) (.vr 14) (.cn (.int .i64 3)))
      (.set 15 (.bn (.cm .lss .i64) (.vr 14) (.cn (.int .i64 3)))
      (.ite (.vr 15)
        .nil
        (.exit 0)
      (.blk 1
        (.chk (.bn (.ix1 3 1) (.vr 13) (.vr 14))
        (.set 10 (.vr 14)
        (.set 11 (.bn (.ix1 3 1) (.vr 13) (.vr 14))
        (.chk (.bn (.ar .sub .i64) (.vr 1) (.vr 2))
        (.chk (.bn (.ar .add .i64) (.bn (.ar .sub .i64) (.bn (.ar .sub .i64) (.vr 1) (.vr 2)) (.cn (.int .i64 1))) (.vr 10))
        (.set 12 (.bn (.ar .add .i64) (.bn (.ar .sub .i64) (.bn (.ar .sub .i64) (.vr 1) (.vr 2)) (.cn (.int .i64 1))) (.vr 10))
        (.chk (.bn (.cm .geq .i64) (.vr 12) (.cn (.int .i64 0)))
        (.set 25 (.bn (.cm .geq .i64) (.vr 12) (.cn (.int .i64 0)))
        (.ite (.vr 25)
          (.chk (.bn (.ia 1) (.vr 0) (.vr 12))
          (.chk (.ld (.bn (.ia 1) (.vr 0) (.vr 12)))
          (.chk (.bn (.ar .mul .i64) (.vr 11) (.ld (.bn (.ia 1) (.vr 0) (.vr 12))))
          (.chk (.bn (.ar .add .i64) (.vr 9) (.bn (.ar .mul .i64) (.vr 11) (.ld (.bn (.ia 1) (.vr 0) (.vr 12)))))
          (.set 9 (.bn (.ar .add .i64) (.vr 9) (.bn (.ar .mul .i64) (.vr 11) (.ld (.bn (.ia 1) (.vr 0) (.vr 12)))))
          .nil)))))
          .nil
        .nil)))))))))
      (.chk (.bn (.ar .add .i64) (.vr 14) (.cn (.int .i64 1)))
      (.set 14 (.bn (.ar .add .i64) (.vr 14) (.cn (.int .i64 1)))
      .nil)))))))
  (.chk (.bn (.sh false .i64) (.vr 9) (.cn (.int .u64 6)))
  (.set 8 (.bn (.sh false .i64) (.vr 9) (.cn (.int .u64 6)))
  .ret)))))))))
def fc25 : Fc := ⟨37, s25, [(.vr 8)]⟩
theorem c25 : compF Try.prog 25 = some fc25 := by kernel_rfl

/-- kinora/long.wide · parameters 1 · 0:x -/
def s26 : S :=
  (.set 2 (.cn (.bool false))
  (.chk (.bn (.cm .geq .i64) (.vr 0) (.cn (.int .i64 (-1073741824))))
  (.chk (.gd (.bn (.cm .geq .i64) (.vr 0) (.cn (.int .i64 (-1073741824)))) true (.bn (.cm .lss .i64) (.vr 0) (.cn (.int .i64 1073741824))))
  (.set 2 (.and (.bn (.cm .geq .i64) (.vr 0) (.cn (.int .i64 (-1073741824)))) (.bn (.cm .lss .i64) (.vr 0) (.cn (.int .i64 1073741824))))
  .ret))))
def fc26 : Fc := ⟨9, s26, [(.vr 2)]⟩
theorem c26 : compF Try.prog 26 = some fc26 := by kernel_rfl

/-- kinora/kinoraref14.longGuess · parameters 3 · 0:past 1:lag 2:taps 5:taps 7:sum 8:i 9:at -/
def s27 : S :=
  (.op (some 5) (.box 23 (.tmp 2)) 0 [(2, (.vr 2))] []
  (.set 6 (.cn (.int .i64 0))
  (.set 7 (.cn (.int .i64 0))
  (.set 8 (.cn (.int .i64 0))
  (.blk 0
    (.loop
      (.chk (.bn (.cm .lss .i64) (.vr 8) (.cn (.int .i64 3)))
      (.set 11 (.bn (.cm .lss .i64) (.vr 8) (.cn (.int .i64 3)))
      (.ite (.vr 11)
        .nil
        (.exit 0)
      (.blk 1
        (.chk (.un .ln (.vr 0))
        (.chk (.bn (.ar .sub .i64) (.un .ln (.vr 0)) (.vr 1))
        (.chk (.bn (.ar .add .i64) (.bn (.ar .sub .i64) (.bn (.ar .sub .i64) (.un .ln (.vr 0)) (.vr 1)) (.cn (.int .i64 1))) (.vr 8))
        (.set 9 (.bn (.ar .add .i64) (.bn (.ar .sub .i64) (.bn (.ar .sub .i64) (.un .ln (.vr 0)) (.vr 1)) (.cn (.int .i64 1))) (.vr 8))
        (.chk (.bn (.cm .geq .i64) (.vr 9) (.cn (.int .i64 0)))
        (.set 22 (.bn (.cm .geq .i64) (.vr 9) (.cn (.int .i64 0)))
        (.ite (.vr 22)
          (.draw
          (.chk (.bn (.aa 3 1) (.vr 5) (.vr 8))
          (.chk (.ld (.bn (.aa 3 1) (.vr 5) (.vr 8)))
          (.chk (.bn (.ia 1) (.vr 0) (.vr 9))
          (.chk (.ld (.bn (.ia 1) (.vr 0) (.vr 9)))
          (.chk (.bn (.ar .mul .i64) (.ld (.bn (.aa 3 1) (.vr 5) (.vr 8))) (.ld (.bn (.ia 1) (.vr 0) (.vr 9))))
          (.chk (.bn (.ar .add .i64) (.vr 7) (.bn (.ar .mul .i64) (.ld (.bn (.aa 3 1) (.vr 5) (.vr 8))) (.ld (.bn (.ia 1) (.vr 0) (.vr 9)))))
          (.set 7 (.bn (.ar .add .i64) (.vr 7) (.bn (.ar .mul .i64) (.ld (.bn (.aa 3 1) (.vr 5) (.vr 8))) (.ld (.bn (.ia 1) (.vr 0) (.vr 9)))))
          .nil))))))))
          .nil
        .nil)))))))
      (.chk (.bn (.ar .add .i64) (.vr 8) (.cn (.int .i64 1)))
      (.set 8 (.bn (.ar .add .i64) (.vr 8) (.cn (.int .i64 1)))
      .nil)))))))
  (.chk (.bn (.sh false .i64) (.vr 7) (.cn (.int .u64 6)))
  (.set 6 (.bn (.sh false .i64) (.vr 7) (.cn (.int .u64 6)))
  .ret)))))))
def fc27 : Fc := ⟨35, s27, [(.vr 6)]⟩
theorem c27 : compF Try.prog 27 = some fc27 := by kernel_rfl

/-- kinora/kinoraref2.Wide · parameters 1 · 0:x -/
def s28 : S :=
  (.set 2 (.cn (.bool false))
  (.chk (.bn (.cm .geq .i64) (.vr 0) (.cn (.int .i64 (-1073741824))))
  (.chk (.gd (.bn (.cm .geq .i64) (.vr 0) (.cn (.int .i64 (-1073741824)))) true (.bn (.cm .lss .i64) (.vr 0) (.cn (.int .i64 1073741824))))
  (.set 2 (.and (.bn (.cm .geq .i64) (.vr 0) (.cn (.int .i64 (-1073741824)))) (.bn (.cm .lss .i64) (.vr 0) (.cn (.int .i64 1073741824))))
  .ret))))
def fc28 : Fc := ⟨9, s28, [(.vr 2)]⟩
theorem c28 : compF Try.prog 28 = some fc28 := by kernel_rfl

/-- kinora/kinoraref14.far · parameters 1 · 0:x -/
def s29 : S :=
  (.set 2 (.cn (.int .i64 0))
  (.chk (.un (.neg .i64) (.vr 0))
  (.chk (.bn (.mx .i64) (.vr 0) (.un (.neg .i64) (.vr 0)))
  (.set 2 (.bn (.mx .i64) (.vr 0) (.un (.neg .i64) (.vr 0)))
  .ret))))
def fc29 : Fc := ⟨7, s29, [(.vr 2)]⟩
theorem c29 : compF Try.prog 29 = some fc29 := by kernel_rfl

/-- kinora/kinoraref14.LongTable · parameters 0 ·  -/
def s30 : S :=
  (.set 0 (.cn (.slice none 0 0))
  (.chk (.bd 2 1 (.cn (.int .i64 0)) (.bd 1 1 (.cn (.int .i64 0)) (.bd 0 1 (.cn (.int .i64 0)) (.cn (.agg #[(.int .i64 0), (.int .i64 0), (.int .i64 0)])))))
  (.chk (.bd 2 1 (.cn (.int .i64 0)) (.bd 1 1 (.cn (.int .i64 64)) (.bd 0 1 (.cn (.int .i64 0)) (.cn (.agg #[(.int .i64 0), (.int .i64 0), (.int .i64 0)])))))
  (.chk (.bd 2 1 (.cn (.int .i64 0)) (.bd 1 1 (.cn (.int .i64 32)) (.bd 0 1 (.cn (.int .i64 0)) (.cn (.agg #[(.int .i64 0), (.int .i64 0), (.int .i64 0)])))))
  (.chk (.bd 2 1 (.cn (.int .i64 16)) (.bd 1 1 (.cn (.int .i64 32)) (.bd 0 1 (.cn (.int .i64 16)) (.cn (.agg #[(.int .i64 0), (.int .i64 0), (.int .i64 0)])))))
  (.chk (.bd 2 1 (.cn (.int .i64 21)) (.bd 1 1 (.cn (.int .i64 22)) (.bd 0 1 (.cn (.int .i64 21)) (.cn (.agg #[(.int .i64 0), (.int .i64 0), (.int .i64 0)])))))
  (.chk (.bd 2 1 (.cn (.int .i64 0)) (.bd 1 1 (.cn (.int .i64 48)) (.bd 0 1 (.cn (.int .i64 0)) (.cn (.agg #[(.int .i64 0), (.int .i64 0), (.int .i64 0)])))))
  (.chk (.bd 2 1 (.cn (.int .i64 (-8))) (.bd 1 1 (.cn (.int .i64 64)) (.bd 0 1 (.cn (.int .i64 (-8))) (.cn (.agg #[(.int .i64 0), (.int .i64 0), (.int .i64 0)])))))
  (.chk (.bd 2 1 (.cn (.int .i64 0)) (.bd 1 1 (.cn (.int .i64 32)) (.bd 0 1 (.cn (.int .i64 32)) (.cn (.agg #[(.int .i64 0), (.int .i64 0), (.int .i64 0)])))))
  (.chk (.bd 2 1 (.cn (.int .i64 32)) (.bd 1 1 (.cn (.int .i64 32)) (.bd 0 1 (.cn (.int .i64 0)) (.cn (.agg #[(.int .i64 0), (.int .i64 0), (.int .i64 0)])))))
  (.op (some 10) (.buildSlice 42 9 #[(0, (.tmp 1)), (1, (.tmp 2)), (2, (.tmp 3)), (3, (.tmp 4)), (4, (.tmp 5)), (5, (.tmp 6)), (6, (.tmp 7)), (7, (.tmp 8)), (8, (.tmp 9))]) 42 [(1, (.bd 2 1 (.cn (.int .i64 0)) (.bd 1 1 (.cn (.int .i64 0)) (.bd 0 1 (.cn (.int .i64 0)) (.cn (.agg #[(.int .i64 0), (.int .i64 0), (.int .i64 0)])))))), (2, (.bd 2 1 (.cn (.int .i64 0)) (.bd 1 1 (.cn (.int .i64 64)) (.bd 0 1 (.cn (.int .i64 0)) (.cn (.agg #[(.int .i64 0), (.int .i64 0), (.int .i64 0)])))))), (3, (.bd 2 1 (.cn (.int .i64 0)) (.bd 1 1 (.cn (.int .i64 32)) (.bd 0 1 (.cn (.int .i64 0)) (.cn (.agg #[(.int .i64 0), (.int .i64 0), (.int .i64 0)])))))), (4, (.bd 2 1 (.cn (.int .i64 16)) (.bd 1 1 (.cn (.int .i64 32)) (.bd 0 1 (.cn (.int .i64 16)) (.cn (.agg #[(.int .i64 0), (.int .i64 0), (.int .i64 0)])))))), (5, (.bd 2 1 (.cn (.int .i64 21)) (.bd 1 1 (.cn (.int .i64 22)) (.bd 0 1 (.cn (.int .i64 21)) (.cn (.agg #[(.int .i64 0), (.int .i64 0), (.int .i64 0)])))))), (6, (.bd 2 1 (.cn (.int .i64 0)) (.bd 1 1 (.cn (.int .i64 48)) (.bd 0 1 (.cn (.int .i64 0)) (.cn (.agg #[(.int .i64 0), (.int .i64 0), (.int .i64 0)])))))), (7, (.bd 2 1 (.cn (.int .i64 (-8))) (.bd 1 1 (.cn (.int .i64 64)) (.bd 0 1 (.cn (.int .i64 (-8))) (.cn (.agg #[(.int .i64 0), (.int .i64 0), (.int .i64 0)])))))), (8, (.bd 2 1 (.cn (.int .i64 0)) (.bd 1 1 (.cn (.int .i64 32)) (.bd 0 1 (.cn (.int .i64 32)) (.cn (.agg #[(.int .i64 0), (.int .i64 0), (.int .i64 0)])))))), (9, (.bd 2 1 (.cn (.int .i64 32)) (.bd 1 1 (.cn (.int .i64 32)) (.bd 0 1 (.cn (.int .i64 0)) (.cn (.agg #[(.int .i64 0), (.int .i64 0), (.int .i64 0)]))))))] []
  (.set 0 (.vr 10)
  .ret))))))))))))
def fc30 : Fc := ⟨11, s30, [(.vr 0)]⟩
theorem c30 : compF Try.prog 30 = some fc30 := by kernel_rfl

/-- kinora/kinoraref14.total · parameters 2 · 0:l 1:from 5:n 6:i -/
def s31 : S :=
  (.set 4 (.cn (.int .i64 0))
  (.set 5 (.cn (.int .i64 0))
  (.chk (.bn (.mx .i64) (.vr 1) (.cn (.int .i64 0)))
  (.set 6 (.bn (.mx .i64) (.vr 1) (.cn (.int .i64 0)))
  (.blk 0
    (.loop
      (.chk (.un .ln (.vr 0))
      (.chk (.bn (.cm .lss .i64) (.vr 6) (.un .ln (.vr 0)))
      (.set 12 (.bn (.cm .lss .i64) (.vr 6) (.un .ln (.vr 0)))
      (.ite (.vr 12)
        .nil
        (.exit 0)
      (.blk 1
        (.chk (.bn (.ia 1) (.vr 0) (.vr 6))
        (.chk (.ld (.bn (.ia 1) (.vr 0) (.vr 6)))
        (.set 19 (.ld (.bn (.ia 1) (.vr 0) (.vr 6)))
        (.call (some 20) 29 [(.vr 19)] []
        (.chk (.bn (.ar .add .i64) (.vr 5) (.vr 20))
        (.set 5 (.bn (.ar .add .i64) (.vr 5) (.vr 20))
        .nil))))))
      (.chk (.bn (.ar .add .i64) (.vr 6) (.cn (.int .i64 1)))
      (.set 6 (.bn (.ar .add .i64) (.vr 6) (.cn (.int .i64 1)))
      .nil))))))))
  (.set 4 (.vr 5)
  .ret))))))
def fc31 : Fc := ⟨23, s31, [(.vr 4)]⟩
theorem c31 : compF Try.prog 31 = some fc31 := by kernel_rfl

end Go.Proofs.Ytdpnaaggjgmaiaa.VG
