/-
  The translations of the functions, printed by program (wip/vg/Print.lean); each is checked against the program by the kernel.
-/
import Derived.Test.YtflglnigcidmaaaChecked
import Derived.Test.YtflglnigcidmaaaVgH
namespace Go.Proofs.Ytflglnigcidmaaa.VG
open Go
set_option maxRecDepth 100000

/-- kinora/kinoralaw31.TickTells · parameters 5 · 0:r 1:s 2:n 3:t 4:l 5:r 6:s 11:some 12:i 13:a 14:ok 15:b 16:is 17:c 18:in 19:d 20:was -/
def s3 : S :=
  (.op (some 5) (.box 23 (.tmp 0)) 0 [(0, (.vr 0))] []
  (.op (some 6) (.box 23 (.tmp 1)) 0 [(1, (.vr 1))] []
  (.set 10 (.cn (.bool false))
  (.chk (.un .ln (.vr 4))
  (.set 23 (.bn (.cm .gtr .i64) (.un .ln (.vr 4)) (.cn (.int .i64 30)))
  (.ite (.vr 23)
    (.set 10 (.cn (.bool true))
    .ret)
    .nil
  (.set 11 (.cn (.slice none 0 0))
  (.set 12 (.cn (.int .i64 0))
  (.blk 0
    (.loop
      (.chk (.un .ln (.vr 4))
      (.chk (.bn (.cm .lss .i64) (.vr 12) (.un .ln (.vr 4)))
      (.chk (.gd (.bn (.cm .lss .i64) (.vr 12) (.un .ln (.vr 4))) true (.bn (.cm .lss .i64) (.vr 12) (.cn (.int .i64 4))))
      (.set 31 (.and (.bn (.cm .lss .i64) (.vr 12) (.un .ln (.vr 4))) (.bn (.cm .lss .i64) (.vr 12) (.cn (.int .i64 4))))
      (.ite (.vr 31)
        .nil
        (.exit 0)
      (.blk 1
        (.chk (.bn (.ia 2) (.vr 4) (.vr 12))
        (.chk (.ldn 2 (.bn (.ia 2) (.vr 4) (.vr 12)))
        (.set 38 (.ldn 2 (.bn (.ia 2) (.vr 4) (.vr 12)))
        (.call (some 39) 7 [(.vr 38)] []
        (.op (some 40) (.buildSlice 24 1 #[(0, (.tmp 39))]) 24 [(39, (.vr 39))] []
        (.op (some 41) (.call ⟨(.builtin .append), #[(.tmp 34), (.tmp 40)], #[24, 24]⟩) 24 [(34, (.vr 11)), (40, (.vr 40))] []
        (.set 11 (.vr 41)
        .nil)))))))
      (.chk (.bn (.ar .add .i64) (.vr 12) (.cn (.int .i64 1)))
      (.set 12 (.bn (.ar .add .i64) (.vr 12) (.cn (.int .i64 1)))
      .nil)))))))))
  (.call (some 44) 8 [(.vr 4)] []
  (.chk (.un (.ex 0) (.vr 44))
  (.chk (.un (.ex 1) (.vr 44))
  (.set 13 (.un (.ex 0) (.vr 44))
  (.set 14 (.un (.ex 1) (.vr 44))
  (.call (some 49) 9 [(.vr 4)] []
  (.chk (.un (.ex 0) (.vr 49))
  (.chk (.un (.ex 1) (.vr 49))
  (.set 15 (.un (.ex 0) (.vr 49))
  (.set 16 (.un (.ex 1) (.vr 49))
  (.call (some 54) 8 [(.vr 11)] []
  (.chk (.un (.ex 0) (.vr 54))
  (.chk (.un (.ex 1) (.vr 54))
  (.set 17 (.un (.ex 0) (.vr 54))
  (.set 18 (.un (.ex 1) (.vr 54))
  (.call (some 59) 9 [(.vr 11)] []
  (.chk (.un (.ex 0) (.vr 59))
  (.chk (.un (.ex 1) (.vr 59))
  (.set 19 (.un (.ex 0) (.vr 59))
  (.set 20 (.un (.ex 1) (.vr 59))
  (.draw
  (.chk (.ldn 2 (.vr 5))
  (.set 62 (.ldn 2 (.vr 5))
  (.chk (.ldn 2 (.vr 6))
  (.set 63 (.ldn 2 (.vr 6))
  (.call (some 66) 10 [(.vr 62), (.vr 63), (.vr 2), (.vr 3)] []
  (.set 67 (.vr 66)
  (.chk (.gd (.vr 67) true (.ldn 2 (.vr 5)))
  (.set 68 (.gd (.vr 67) true (.ldn 2 (.vr 5)))
  (.chk (.gd (.vr 67) true (.ldn 2 (.vr 6)))
  (.set 70 (.gd (.vr 67) true (.ldn 2 (.vr 6)))
  (.chk (.gd (.vr 67) true (.bn (.bt .and .i64) (.vr 2) (.cn (.int .i64 1099511627776))))
  (.chk (.gd (.vr 67) true (.bn (.bt .and .i64) (.vr 2) (.cn (.int .i64 1))))
  (.chk (.gd (.vr 67) true (.bn (.bt .and .i64) (.vr 3) (.cn (.int .i64 1073741824))))
  (.ifg (.vr 67) true
    (.call (some 69) 11 [(.vr 68)] [⟨8, (.vr 6), 2, (some ((.vr 67), true))⟩]
    .nil)
    (.set 69 (.cn undef)
    .nil)
  (.ifg (.vr 67) true
    (.call (some 71) 11 [(.vr 70)] []
    .nil)
    (.set 71 (.cn undef)
    .nil)
  (.ifg (.vr 67) true
    (.call (some 79) 10 [(.vr 69), (.vr 71), (.bn (.ar .sub .i64) (.bn (.bt .and .i64) (.vr 2) (.cn (.int .i64 1099511627776))) (.bn (.bt .and .i64) (.vr 2) (.cn (.int .i64 1)))), (.bn (.bt .and .i64) (.vr 3) (.cn (.int .i64 1073741824)))] []
    .nil)
    (.set 79 (.cn undef)
    .nil)
  (.chk (.pk (.vr 67) (.vr 79) (.cn (.bool false)))
  (.set 81 (.pk (.vr 67) (.vr 79) (.cn (.bool false)))
  (.chk (.gd (.vr 81) true (.ldn 2 (.vr 5)))
  (.set 82 (.gd (.vr 81) true (.ldn 2 (.vr 5)))
  (.chk (.gd (.vr 81) true (.ldn 2 (.vr 6)))
  (.set 84 (.gd (.vr 81) true (.ldn 2 (.vr 6)))
  (.chk (.gd (.vr 81) true (.bn (.bt .and .i64) (.vr 2) (.cn (.int .i64 16777215))))
  (.chk (.gd (.vr 81) true (.bn (.bt .and .i64) (.vr 3) (.cn (.int .i64 16777215))))
  (.ifg (.vr 81) true
    (.call (some 83) 11 [(.vr 82)] [⟨22, (.vr 6), 2, (some ((.vr 81), true))⟩]
    .nil)
    (.set 83 (.cn undef)
    .nil)
  (.ifg (.vr 81) true
    (.call (some 89) 10 [(.vr 83), (.vr 84), (.bn (.bt .and .i64) (.vr 2) (.cn (.int .i64 16777215))), (.bn (.bt .and .i64) (.vr 3) (.cn (.int .i64 16777215)))] []
    .nil)
    (.set 89 (.cn undef)
    .nil)
  (.chk (.pk (.vr 81) (.vr 89) (.cn (.bool false)))
  (.set 91 (.pk (.vr 81) (.vr 89) (.cn (.bool false)))
  (.chk (.gd (.vr 91) true (.ldn 2 (.vr 5)))
  (.set 92 (.gd (.vr 91) true (.ldn 2 (.vr 5)))
  (.chk (.gd (.vr 91) true (.ldn 2 (.vr 6)))
  (.set 94 (.gd (.vr 91) true (.ldn 2 (.vr 6)))
  (.chk (.gd (.vr 91) true (.bn (.bt .and .i64) (.vr 2) (.cn (.int .i64 255))))
  (.chk (.gd (.vr 91) true (.bn (.bt .and .i64) (.vr 3) (.cn (.int .i64 255))))
  (.ifg (.vr 91) true
    (.call (some 93) 7 [(.vr 92)] [⟨32, (.vr 6), 2, (some ((.vr 91), true))⟩]
    .nil)
    (.set 93 (.cn undef)
    .nil)
  (.ifg (.vr 91) true
    (.call (some 95) 7 [(.vr 94)] []
    .nil)
    (.set 95 (.cn undef)
    .nil)
  (.ifg (.vr 91) true
    (.call (some 100) 10 [(.vr 93), (.vr 95), (.bn (.bt .and .i64) (.vr 2) (.cn (.int .i64 255))), (.bn (.bt .and .i64) (.vr 3) (.cn (.int .i64 255)))] []
    .nil)
    (.set 100 (.cn undef)
    .nil)
  (.chk (.pk (.vr 91) (.vr 100) (.cn (.bool false)))
  (.set 102 (.pk (.vr 91) (.vr 100) (.cn (.bool false)))
  (.chk (.gd (.vr 102) true (.bn (.cm .eql .i64) (.vr 13) (.vr 15)))
  (.chk (.and (.vr 102) (.bn (.cm .eql .i64) (.vr 13) (.vr 15)))
  (.set 107 (.and (.vr 102) (.bn (.cm .eql .i64) (.vr 13) (.vr 15)))
  (.chk (.gd (.vr 107) true (.bn (.eqb false) (.vr 14) (.vr 16)))
  (.chk (.and (.vr 107) (.bn (.eqb false) (.vr 14) (.vr 16)))
  (.set 112 (.and (.vr 107) (.bn (.eqb false) (.vr 14) (.vr 16)))
  (.chk (.gd (.vr 112) true (.bn (.cm .eql .i64) (.vr 17) (.vr 19)))
  (.chk (.and (.vr 112) (.bn (.cm .eql .i64) (.vr 17) (.vr 19)))
  (.set 117 (.and (.vr 112) (.bn (.cm .eql .i64) (.vr 17) (.vr 19)))
  (.chk (.gd (.vr 117) true (.bn (.eqb false) (.vr 18) (.vr 20)))
  (.chk (.and (.vr 117) (.bn (.eqb false) (.vr 18) (.vr 20)))
  (.set 122 (.and (.vr 117) (.bn (.eqb false) (.vr 18) (.vr 20)))
  (.ifg (.vr 122) true
    (.call (some 123) 12 [] []
    .nil)
    (.set 123 (.cn undef)
    .nil)
  (.chk (.pk (.vr 122) (.vr 123) (.cn (.bool false)))
  (.set 10 (.pk (.vr 122) (.vr 123) (.cn (.bool false)))
  .ret))))))))))))))))))))))))))))))))))))))))))))))))))))))))))))))))))))))))))))))))))))
def fc3 : Fc := ⟨125, s3, [(.vr 10)]⟩
theorem c3 : compF Try.prog 3 = some fc3 := by kernel_rfl

/-- kinora/kinoralaw31.TickCounts · parameters 3 · 0:r 1:n 2:t 3:r 7:x 8:m 9:u 10:a 11:ok 12:b 13:is 14:c 15:in 16:d 17:was -/
def s4 : S :=
  (.op (some 3) (.box 23 (.tmp 0)) 0 [(0, (.vr 0))] []
  (.set 6 (.cn (.bool false))
  (.chk (.ldn 2 (.vr 3))
  (.set 18 (.ldn 2 (.vr 3))
  (.call (some 19) 11 [(.vr 18)] []
  (.op (some 7) (.alloc 23) 0 [] []
  (.st 2 (.vr 7) (.vr 19) []
  (.chk (.bn (.bt .and .i64) (.vr 1) (.cn (.int .i64 1048575)))
  (.chk (.bn (.bt .and .i64) (.vr 2) (.cn (.int .i64 4294967295)))
  (.set 8 (.bn (.bt .and .i64) (.vr 1) (.cn (.int .i64 1048575)))
  (.set 9 (.bn (.bt .and .i64) (.vr 2) (.cn (.int .i64 4294967295)))
  (.chk (.ldn 2 (.vr 7))
  (.set 25 (.ldn 2 (.vr 7))
  (.call (some 27) 13 [(.vr 25), (.vr 8)] []
  (.chk (.un (.ex 0) (.vr 27))
  (.chk (.un (.ex 1) (.vr 27))
  (.set 10 (.un (.ex 0) (.vr 27))
  (.set 11 (.un (.ex 1) (.vr 27))
  (.chk (.ldn 2 (.vr 7))
  (.set 31 (.ldn 2 (.vr 7))
  (.chk (.bn (.ar .add .i64) (.vr 8) (.cn (.int .i64 1)))
  (.call (some 34) 13 [(.vr 31), (.bn (.ar .add .i64) (.vr 8) (.cn (.int .i64 1)))] []
  (.chk (.un (.ex 0) (.vr 34))
  (.chk (.un (.ex 1) (.vr 34))
  (.set 12 (.un (.ex 0) (.vr 34))
  (.set 13 (.un (.ex 1) (.vr 34))
  (.chk (.ldn 2 (.vr 7))
  (.set 38 (.ldn 2 (.vr 7))
  (.call (some 40) 14 [(.vr 38), (.vr 9)] []
  (.chk (.un (.ex 0) (.vr 40))
  (.chk (.un (.ex 1) (.vr 40))
  (.set 14 (.un (.ex 0) (.vr 40))
  (.set 15 (.un (.ex 1) (.vr 40))
  (.chk (.ldn 2 (.vr 7))
  (.set 44 (.ldn 2 (.vr 7))
  (.call (some 46) 14 [(.vr 44), (.vr 10)] []
  (.chk (.un (.ex 0) (.vr 46))
  (.chk (.un (.ex 1) (.vr 46))
  (.set 16 (.un (.ex 0) (.vr 46))
  (.set 17 (.un (.ex 1) (.vr 46))
  (.chk (.un .not (.vr 11))
  (.chk (.gd (.un .not (.vr 11)) false (.un .not (.vr 13)))
  (.chk (.gd (.or (.un .not (.vr 11)) (.un .not (.vr 13))) false (.un .not (.vr 15)))
  (.chk (.gd (.or (.or (.un .not (.vr 11)) (.un .not (.vr 13))) (.un .not (.vr 15))) false (.un .not (.vr 17)))
  (.chk (.gd (.or (.or (.or (.un .not (.vr 11)) (.un .not (.vr 13))) (.un .not (.vr 15))) (.un .not (.vr 17))) false (.bn (.cm .gtr .i64) (.vr 10) (.vr 12)))
  (.set 67 (.or (.or (.or (.or (.un .not (.vr 11)) (.un .not (.vr 13))) (.un .not (.vr 15))) (.un .not (.vr 17))) (.bn (.cm .gtr .i64) (.vr 10) (.vr 12)))
  (.ite (.vr 67)
    (.set 6 (.cn (.bool false))
    .ret)
    .nil
  (.chk (.bn (.cm .leq .i64) (.vr 10) (.vr 9))
  (.chk (.bn (.cm .lss .i64) (.vr 8) (.vr 14))
  (.set 75 (.bn (.eqb false) (.bn (.cm .leq .i64) (.vr 10) (.vr 9)) (.bn (.cm .lss .i64) (.vr 8) (.vr 14)))
  (.chk (.gd (.vr 75) true (.bn (.cm .lss .i64) (.vr 8) (.vr 16)))
  (.chk (.and (.vr 75) (.bn (.cm .lss .i64) (.vr 8) (.vr 16)))
  (.set 80 (.and (.vr 75) (.bn (.cm .lss .i64) (.vr 8) (.vr 16)))
  (.ifg (.vr 80) true
    (.call (some 81) 12 [] []
    .nil)
    (.set 81 (.cn undef)
    .nil)
  (.chk (.pk (.vr 80) (.vr 81) (.cn (.bool false)))
  (.set 6 (.pk (.vr 80) (.vr 81) (.cn (.bool false)))
  .ret))))))))))))))))))))))))))))))))))))))))))))))))))))))))
def fc4 : Fc := ⟨83, s4, [(.vr 6)]⟩
theorem c4 : compF Try.prog 4 = some fc4 := by kernel_rfl

/-- kinora/kinoralaw31.TickNever · parameters 3 · 0:r 1:n 2:m 3:r 7:x 8:a 9:b 10:p 11:ok 12:q 13:is 14:s 15:in 16:u 17:was -/
def s5 : S :=
  (.op (some 3) (.box 23 (.tmp 0)) 0 [(0, (.vr 0))] []
  (.set 6 (.cn (.bool false))
  (.chk (.ldn 2 (.vr 3))
  (.set 18 (.ldn 2 (.vr 3))
  (.call (some 19) 11 [(.vr 18)] []
  (.op (some 7) (.alloc 23) 0 [] []
  (.st 2 (.vr 7) (.vr 19) []
  (.chk (.bn (.bt .and .i64) (.vr 1) (.cn (.int .i64 1048575)))
  (.chk (.bn (.bt .and .i64) (.vr 2) (.cn (.int .i64 1048575)))
  (.set 8 (.bn (.bt .and .i64) (.vr 1) (.cn (.int .i64 1048575)))
  (.set 9 (.bn (.bt .and .i64) (.vr 2) (.cn (.int .i64 1048575)))
  (.chk (.ldn 2 (.vr 7))
  (.set 25 (.ldn 2 (.vr 7))
  (.call (some 27) 13 [(.vr 25), (.vr 8)] []
  (.chk (.un (.ex 0) (.vr 27))
  (.chk (.un (.ex 1) (.vr 27))
  (.set 10 (.un (.ex 0) (.vr 27))
  (.set 11 (.un (.ex 1) (.vr 27))
  (.chk (.ldn 2 (.vr 7))
  (.set 31 (.ldn 2 (.vr 7))
  (.call (some 33) 13 [(.vr 31), (.vr 9)] []
  (.chk (.un (.ex 0) (.vr 33))
  (.chk (.un (.ex 1) (.vr 33))
  (.set 12 (.un (.ex 0) (.vr 33))
  (.set 13 (.un (.ex 1) (.vr 33))
  (.chk (.ldn 2 (.vr 7))
  (.set 37 (.ldn 2 (.vr 7))
  (.chk (.bn (.ar .add .i64) (.vr 8) (.vr 9))
  (.call (some 41) 13 [(.vr 37), (.bn (.ar .add .i64) (.vr 8) (.vr 9))] []
  (.chk (.un (.ex 0) (.vr 41))
  (.chk (.un (.ex 1) (.vr 41))
  (.set 14 (.un (.ex 0) (.vr 41))
  (.set 15 (.un (.ex 1) (.vr 41))
  (.chk (.ldn 2 (.vr 7))
  (.set 45 (.ldn 2 (.vr 7))
  (.chk (.un (.fa 0) (.vr 7))
  (.chk (.ld (.un (.fa 0) (.vr 7)))
  (.set 48 (.ld (.un (.fa 0) (.vr 7)))
  (.chk (.bn (.ar .add .i64) (.vr 8) (.vr 48))
  (.call (some 50) 13 [(.vr 45), (.bn (.ar .add .i64) (.vr 8) (.vr 48))] []
  (.chk (.un (.ex 0) (.vr 50))
  (.chk (.un (.ex 1) (.vr 50))
  (.set 16 (.un (.ex 0) (.vr 50))
  (.set 17 (.un (.ex 1) (.vr 50))
  (.set 54 (.vr 11)
  (.chk (.pk (.vr 54) (.vr 13) (.cn (.bool false)))
  (.set 57 (.pk (.vr 54) (.vr 13) (.cn (.bool false)))
  (.chk (.pk (.vr 57) (.vr 15) (.cn (.bool false)))
  (.set 60 (.pk (.vr 57) (.vr 15) (.cn (.bool false)))
  (.chk (.pk (.vr 60) (.vr 17) (.cn (.bool false)))
  (.set 63 (.pk (.vr 60) (.vr 17) (.cn (.bool false)))
  (.chk (.gd (.vr 63) true (.bn (.ar .add .i64) (.vr 10) (.vr 12)))
  (.chk (.gd (.vr 63) true (.bn (.cm .geq .i64) (.vr 14) (.bn (.ar .add .i64) (.vr 10) (.vr 12))))
  (.chk (.and (.vr 63) (.bn (.cm .geq .i64) (.vr 14) (.bn (.ar .add .i64) (.vr 10) (.vr 12))))
  (.set 70 (.and (.vr 63) (.bn (.cm .geq .i64) (.vr 14) (.bn (.ar .add .i64) (.vr 10) (.vr 12))))
  (.chk (.gd (.vr 70) true (.bn (.ar .add .i64) (.vr 10) (.vr 12)))
  (.chk (.gd (.vr 70) true (.bn (.cm .leq .i64) (.vr 14) (.bn (.ar .add .i64) (.bn (.ar .add .i64) (.vr 10) (.vr 12)) (.cn (.int .i64 1)))))
  (.chk (.and (.vr 70) (.bn (.cm .leq .i64) (.vr 14) (.bn (.ar .add .i64) (.bn (.ar .add .i64) (.vr 10) (.vr 12)) (.cn (.int .i64 1)))))
  (.set 78 (.and (.vr 70) (.bn (.cm .leq .i64) (.vr 14) (.bn (.ar .add .i64) (.bn (.ar .add .i64) (.vr 10) (.vr 12)) (.cn (.int .i64 1)))))
  (.chk (.gd (.vr 78) true (.un (.fa 1) (.vr 7)))
  (.chk (.gd (.vr 78) true (.ld (.un (.fa 1) (.vr 7))))
  (.set 82 (.gd (.vr 78) true (.ld (.un (.fa 1) (.vr 7))))
  (.chk (.gd (.vr 78) true (.bn (.ar .add .i64) (.vr 10) (.vr 82)))
  (.chk (.gd (.vr 78) true (.bn (.cm .eql .i64) (.vr 16) (.bn (.ar .add .i64) (.vr 10) (.vr 82))))
  (.chk (.and (.vr 78) (.bn (.cm .eql .i64) (.vr 16) (.bn (.ar .add .i64) (.vr 10) (.vr 82))))
  (.set 86 (.and (.vr 78) (.bn (.cm .eql .i64) (.vr 16) (.bn (.ar .add .i64) (.vr 10) (.vr 82))))
  (.ifg (.vr 86) true
    (.call (some 87) 12 [] []
    .nil)
    (.set 87 (.cn undef)
    .nil)
  (.chk (.pk (.vr 86) (.vr 87) (.cn (.bool false)))
  (.set 6 (.pk (.vr 86) (.vr 87) (.cn (.bool false)))
  .ret)))))))))))))))))))))))))))))))))))))))))))))))))))))))))))))))))))))
def fc5 : Fc := ⟨89, s5, [(.vr 6)]⟩
theorem c5 : compF Try.prog 5 = some fc5 := by kernel_rfl

/-- kinora/kinoralaw31.TickOrder · parameters 6 · 0:r 1:s 2:u 3:n 4:m 5:k 6:r 7:s 8:u 13:a 14:b 15:c 16:x 17:y 18:z 19:p 20:q 21:o 22:f 24:g -/
def s6 : S :=
  (.op (some 6) (.box 23 (.tmp 0)) 0 [(0, (.vr 0))] []
  (.op (some 7) (.box 23 (.tmp 1)) 0 [(1, (.vr 1))] []
  (.op (some 8) (.box 23 (.tmp 2)) 0 [(2, (.vr 2))] []
  (.set 12 (.cn (.bool false))
  (.sq
    (.draw
    (.chk (.ldn 2 (.vr 6))
    (.set 26 (.ldn 2 (.vr 6))
    (.chk (.ldn 2 (.vr 7))
    (.set 28 (.ldn 2 (.vr 7))
    (.chk (.ldn 2 (.vr 8))
    (.set 30 (.ldn 2 (.vr 8))
    (.alt
      (.call (some 27) 7 [(.vr 26)] [⟨4, (.vr 8), 2, none⟩, ⟨2, (.vr 7), 2, none⟩]
      (.alt
        (.call (some 29) 7 [(.vr 28)] [⟨4, (.vr 8), 2, none⟩]
        (.alt
          (.call (some 31) 7 [(.vr 30)] []
          (.alt
            (.op (some 13) (.alloc 23) 0 [] []
            (.alt
              (.op (some 14) (.alloc 23) 0 [] []
              (.op (some 15) (.alloc 23) 0 [] []
              (.st 2 (.vr 13) (.vr 27) []
              (.st 2 (.vr 14) (.vr 29) []
              (.st 2 (.vr 15) (.vr 31) []
              .nil)))))
              (.op (some 15) (.alloc 23) 0 [] []
              (.op (some 14) (.alloc 23) 0 [] []
              (.st 2 (.vr 13) (.vr 27) []
              (.st 2 (.vr 14) (.vr 29) []
              (.st 2 (.vr 15) (.vr 31) []
              .nil)))))))
            (.alt
              (.op (some 14) (.alloc 23) 0 [] []
              (.alt
                (.op (some 13) (.alloc 23) 0 [] []
                (.op (some 15) (.alloc 23) 0 [] []
                (.st 2 (.vr 13) (.vr 27) []
                (.st 2 (.vr 14) (.vr 29) []
                (.st 2 (.vr 15) (.vr 31) []
                .nil)))))
                (.op (some 15) (.alloc 23) 0 [] []
                (.op (some 13) (.alloc 23) 0 [] []
                (.st 2 (.vr 13) (.vr 27) []
                (.st 2 (.vr 14) (.vr 29) []
                (.st 2 (.vr 15) (.vr 31) []
                .nil)))))))
              (.op (some 15) (.alloc 23) 0 [] []
              (.alt
                (.op (some 13) (.alloc 23) 0 [] []
                (.op (some 14) (.alloc 23) 0 [] []
                (.st 2 (.vr 13) (.vr 27) []
                (.st 2 (.vr 14) (.vr 29) []
                (.st 2 (.vr 15) (.vr 31) []
                .nil)))))
                (.op (some 14) (.alloc 23) 0 [] []
                (.op (some 13) (.alloc 23) 0 [] []
                (.st 2 (.vr 13) (.vr 27) []
                (.st 2 (.vr 14) (.vr 29) []
                (.st 2 (.vr 15) (.vr 31) []
                .nil))))))))))
          (.alt
            (.op (some 13) (.alloc 23) 0 [] [⟨4, (.vr 8), 2, none⟩]
            (.alt
              (.call (some 31) 7 [(.vr 30)] []
              (.alt
                (.op (some 14) (.alloc 23) 0 [] []
                (.op (some 15) (.alloc 23) 0 [] []
                (.st 2 (.vr 13) (.vr 27) []
                (.st 2 (.vr 14) (.vr 29) []
                (.st 2 (.vr 15) (.vr 31) []
                .nil)))))
                (.op (some 15) (.alloc 23) 0 [] []
                (.op (some 14) (.alloc 23) 0 [] []
                (.st 2 (.vr 13) (.vr 27) []
                (.st 2 (.vr 14) (.vr 29) []
                (.st 2 (.vr 15) (.vr 31) []
                .nil)))))))
              (.alt
                (.op (some 14) (.alloc 23) 0 [] [⟨4, (.vr 8), 2, none⟩]
                (.alt
                  (.call (some 31) 7 [(.vr 30)] []
                  (.op (some 15) (.alloc 23) 0 [] []
                  (.st 2 (.vr 13) (.vr 27) []
                  (.st 2 (.vr 14) (.vr 29) []
                  (.st 2 (.vr 15) (.vr 31) []
                  .nil)))))
                  (.op (some 15) (.alloc 23) 0 [] [⟨4, (.vr 8), 2, none⟩]
                  (.call (some 31) 7 [(.vr 30)] []
                  (.st 2 (.vr 13) (.vr 27) []
                  (.st 2 (.vr 14) (.vr 29) []
                  (.st 2 (.vr 15) (.vr 31) []
                  .nil)))))))
                (.op (some 15) (.alloc 23) 0 [] [⟨4, (.vr 8), 2, none⟩]
                (.alt
                  (.call (some 31) 7 [(.vr 30)] []
                  (.op (some 14) (.alloc 23) 0 [] []
                  (.st 2 (.vr 13) (.vr 27) []
                  (.st 2 (.vr 14) (.vr 29) []
                  (.st 2 (.vr 15) (.vr 31) []
                  .nil)))))
                  (.op (some 14) (.alloc 23) 0 [] [⟨4, (.vr 8), 2, none⟩]
                  (.call (some 31) 7 [(.vr 30)] []
                  (.st 2 (.vr 13) (.vr 27) []
                  (.st 2 (.vr 14) (.vr 29) []
                  (.st 2 (.vr 15) (.vr 31) []
                  .nil))))))))))
            (.alt
              (.op (some 14) (.alloc 23) 0 [] [⟨4, (.vr 8), 2, none⟩]
              (.alt
                (.call (some 31) 7 [(.vr 30)] []
                (.alt
                  (.op (some 13) (.alloc 23) 0 [] []
                  (.op (some 15) (.alloc 23) 0 [] []
                  (.st 2 (.vr 13) (.vr 27) []
                  (.st 2 (.vr 14) (.vr 29) []
                  (.st 2 (.vr 15) (.vr 31) []
                  .nil)))))
                  (.op (some 15) (.alloc 23) 0 [] []
                  (.op (some 13) (.alloc 23) 0 [] []
                  (.st 2 (.vr 13) (.vr 27) []
                  (.st 2 (.vr 14) (.vr 29) []
                  (.st 2 (.vr 15) (.vr 31) []
                  .nil)))))))
                (.alt
                  (.op (some 13) (.alloc 23) 0 [] [⟨4, (.vr 8), 2, none⟩]
                  (.alt
                    (.call (some 31) 7 [(.vr 30)] []
                    (.op (some 15) (.alloc 23) 0 [] []
                    (.st 2 (.vr 13) (.vr 27) []
                    (.st 2 (.vr 14) (.vr 29) []
                    (.st 2 (.vr 15) (.vr 31) []
                    .nil)))))
                    (.op (some 15) (.alloc 23) 0 [] [⟨4, (.vr 8), 2, none⟩]
                    (.call (some 31) 7 [(.vr 30)] []
                    (.st 2 (.vr 13) (.vr 27) []
                    (.st 2 (.vr 14) (.vr 29) []
                    (.st 2 (.vr 15) (.vr 31) []
                    .nil)))))))
                  (.op (some 15) (.alloc 23) 0 [] [⟨4, (.vr 8), 2, none⟩]
                  (.alt
                    (.call (some 31) 7 [(.vr 30)] []
                    (.op (some 13) (.alloc 23) 0 [] []
                    (.st 2 (.vr 13) (.vr 27) []
                    (.st 2 (.vr 14) (.vr 29) []
                    (.st 2 (.vr 15) (.vr 31) []
                    .nil)))))
                    (.op (some 13) (.alloc 23) 0 [] [⟨4, (.vr 8), 2, none⟩]
                    (.call (some 31) 7 [(.vr 30)] []
                    (.st 2 (.vr 13) (.vr 27) []
                    (.st 2 (.vr 14) (.vr 29) []
                    (.st 2 (.vr 15) (.vr 31) []
                    .nil))))))))))
              (.op (some 15) (.alloc 23) 0 [] [⟨4, (.vr 8), 2, none⟩]
              (.alt
                (.call (some 31) 7 [(.vr 30)] []
                (.alt
                  (.op (some 13) (.alloc 23) 0 [] []
                  (.op (some 14) (.alloc 23) 0 [] []
                  (.st 2 (.vr 13) (.vr 27) []
                  (.st 2 (.vr 14) (.vr 29) []
                  (.st 2 (.vr 15) (.vr 31) []
                  .nil)))))
                  (.op (some 14) (.alloc 23) 0 [] []
                  (.op (some 13) (.alloc 23) 0 [] []
                  (.st 2 (.vr 13) (.vr 27) []
                  (.st 2 (.vr 14) (.vr 29) []
                  (.st 2 (.vr 15) (.vr 31) []
                  .nil)))))))
                (.alt
                  (.op (some 13) (.alloc 23) 0 [] [⟨4, (.vr 8), 2, none⟩]
                  (.alt
                    (.call (some 31) 7 [(.vr 30)] []
                    (.op (some 14) (.alloc 23) 0 [] []
                    (.st 2 (.vr 13) (.vr 27) []
                    (.st 2 (.vr 14) (.vr 29) []
                    (.st 2 (.vr 15) (.vr 31) []
                    .nil)))))
                    (.op (some 14) (.alloc 23) 0 [] [⟨4, (.vr 8), 2, none⟩]
                    (.call (some 31) 7 [(.vr 30)] []
                    (.st 2 (.vr 13) (.vr 27) []
                    (.st 2 (.vr 14) (.vr 29) []
                    (.st 2 (.vr 15) (.vr 31) []
                    .nil)))))))
                  (.op (some 14) (.alloc 23) 0 [] [⟨4, (.vr 8), 2, none⟩]
                  (.alt
                    (.call (some 31) 7 [(.vr 30)] []
                    (.op (some 13) (.alloc 23) 0 [] []
                    (.st 2 (.vr 13) (.vr 27) []
                    (.st 2 (.vr 14) (.vr 29) []
                    (.st 2 (.vr 15) (.vr 31) []
                    .nil)))))
                    (.op (some 13) (.alloc 23) 0 [] [⟨4, (.vr 8), 2, none⟩]
                    (.call (some 31) 7 [(.vr 30)] []
                    (.st 2 (.vr 13) (.vr 27) []
                    (.st 2 (.vr 14) (.vr 29) []
                    (.st 2 (.vr 15) (.vr 31) []
                    .nil))))))))))))))
        (.alt
          (.op (some 13) (.alloc 23) 0 [] [⟨4, (.vr 8), 2, none⟩, ⟨2, (.vr 7), 2, none⟩]
          (.alt
            (.call (some 29) 7 [(.vr 28)] [⟨4, (.vr 8), 2, none⟩]
            (.alt
              (.call (some 31) 7 [(.vr 30)] []
              (.alt
                (.op (some 14) (.alloc 23) 0 [] []
                (.op (some 15) (.alloc 23) 0 [] []
                (.st 2 (.vr 13) (.vr 27) []
                (.st 2 (.vr 14) (.vr 29) []
                (.st 2 (.vr 15) (.vr 31) []
                .nil)))))
                (.op (some 15) (.alloc 23) 0 [] []
                (.op (some 14) (.alloc 23) 0 [] []
                (.st 2 (.vr 13) (.vr 27) []
                (.st 2 (.vr 14) (.vr 29) []
                (.st 2 (.vr 15) (.vr 31) []
                .nil)))))))
              (.alt
                (.op (some 14) (.alloc 23) 0 [] [⟨4, (.vr 8), 2, none⟩]
                (.alt
                  (.call (some 31) 7 [(.vr 30)] []
                  (.op (some 15) (.alloc 23) 0 [] []
                  (.st 2 (.vr 13) (.vr 27) []
                  (.st 2 (.vr 14) (.vr 29) []
                  (.st 2 (.vr 15) (.vr 31) []
                  .nil)))))
                  (.op (some 15) (.alloc 23) 0 [] [⟨4, (.vr 8), 2, none⟩]
                  (.call (some 31) 7 [(.vr 30)] []
                  (.st 2 (.vr 13) (.vr 27) []
                  (.st 2 (.vr 14) (.vr 29) []
                  (.st 2 (.vr 15) (.vr 31) []
                  .nil)))))))
                (.op (some 15) (.alloc 23) 0 [] [⟨4, (.vr 8), 2, none⟩]
                (.alt
                  (.call (some 31) 7 [(.vr 30)] []
                  (.op (some 14) (.alloc 23) 0 [] []
                  (.st 2 (.vr 13) (.vr 27) []
                  (.st 2 (.vr 14) (.vr 29) []
                  (.st 2 (.vr 15) (.vr 31) []
                  .nil)))))
                  (.op (some 14) (.alloc 23) 0 [] [⟨4, (.vr 8), 2, none⟩]
                  (.call (some 31) 7 [(.vr 30)] []
                  (.st 2 (.vr 13) (.vr 27) []
                  (.st 2 (.vr 14) (.vr 29) []
                  (.st 2 (.vr 15) (.vr 31) []
                  .nil))))))))))
            (.alt
              (.op (some 14) (.alloc 23) 0 [] [⟨4, (.vr 8), 2, none⟩, ⟨2, (.vr 7), 2, none⟩]
              (.alt
                (.call (some 29) 7 [(.vr 28)] [⟨4, (.vr 8), 2, none⟩]
                (.alt
                  (.call (some 31) 7 [(.vr 30)] []
                  (.op (some 15) (.alloc 23) 0 [] []
                  (.st 2 (.vr 13) (.vr 27) []
                  (.st 2 (.vr 14) (.vr 29) []
                  (.st 2 (.vr 15) (.vr 31) []
                  .nil)))))
                  (.op (some 15) (.alloc 23) 0 [] [⟨4, (.vr 8), 2, none⟩]
                  (.call (some 31) 7 [(.vr 30)] []
                  (.st 2 (.vr 13) (.vr 27) []
                  (.st 2 (.vr 14) (.vr 29) []
                  (.st 2 (.vr 15) (.vr 31) []
                  .nil)))))))
                (.op (some 15) (.alloc 23) 0 [] [⟨4, (.vr 8), 2, none⟩, ⟨2, (.vr 7), 2, none⟩]
                (.call (some 29) 7 [(.vr 28)] [⟨4, (.vr 8), 2, none⟩]
                (.call (some 31) 7 [(.vr 30)] []
                (.st 2 (.vr 13) (.vr 27) []
                (.st 2 (.vr 14) (.vr 29) []
                (.st 2 (.vr 15) (.vr 31) []
                .nil))))))))
              (.op (some 15) (.alloc 23) 0 [] [⟨4, (.vr 8), 2, none⟩, ⟨2, (.vr 7), 2, none⟩]
              (.alt
                (.call (some 29) 7 [(.vr 28)] [⟨4, (.vr 8), 2, none⟩]
                (.alt
                  (.call (some 31) 7 [(.vr 30)] []
                  (.op (some 14) (.alloc 23) 0 [] []
                  (.st 2 (.vr 13) (.vr 27) []
                  (.st 2 (.vr 14) (.vr 29) []
                  (.st 2 (.vr 15) (.vr 31) []
                  .nil)))))
                  (.op (some 14) (.alloc 23) 0 [] [⟨4, (.vr 8), 2, none⟩]
                  (.call (some 31) 7 [(.vr 30)] []
                  (.st 2 (.vr 13) (.vr 27) []
                  (.st 2 (.vr 14) (.vr 29) []
                  (.st 2 (.vr 15) (.vr 31) []
                  .nil)))))))
                (.op (some 14) (.alloc 23) 0 [] [⟨4, (.vr 8), 2, none⟩, ⟨2, (.vr 7), 2, none⟩]
                (.call (some 29) 7 [(.vr 28)] [⟨4, (.vr 8), 2, none⟩]
                (.call (some 31) 7 [(.vr 30)] []
                (.st 2 (.vr 13) (.vr 27) []
                (.st 2 (.vr 14) (.vr 29) []
                (.st 2 (.vr 15) (.vr 31) []
                .nil)))))))))))
          (.alt
            (.op (some 14) (.alloc 23) 0 [] [⟨4, (.vr 8), 2, none⟩, ⟨2, (.vr 7), 2, none⟩]
            (.alt
              (.call (some 29) 7 [(.vr 28)] [⟨4, (.vr 8), 2, none⟩]
              (.alt
                (.call (some 31) 7 [(.vr 30)] []
                (.alt
                  (.op (some 13) (.alloc 23) 0 [] []
                  (.op (some 15) (.alloc 23) 0 [] []
                  (.st 2 (.vr 13) (.vr 27) []
                  (.st 2 (.vr 14) (.vr 29) []
                  (.st 2 (.vr 15) (.vr 31) []
                  .nil)))))
                  (.op (some 15) (.alloc 23) 0 [] []
                  (.op (some 13) (.alloc 23) 0 [] []
                  (.st 2 (.vr 13) (.vr 27) []
                  (.st 2 (.vr 14) (.vr 29) []
                  (.st 2 (.vr 15) (.vr 31) []
                  .nil)))))))
                (.alt
                  (.op (some 13) (.alloc 23) 0 [] [⟨4, (.vr 8), 2, none⟩]
                  (.alt
                    (.call (some 31) 7 [(.vr 30)] []
                    (.op (some 15) (.alloc 23) 0 [] []
                    (.st 2 (.vr 13) (.vr 27) []
                    (.st 2 (.vr 14) (.vr 29) []
                    (.st 2 (.vr 15) (.vr 31) []
                    .nil)))))
                    (.op (some 15) (.alloc 23) 0 [] [⟨4, (.vr 8), 2, none⟩]
                    (.call (some 31) 7 [(.vr 30)] []
                    (.st 2 (.vr 13) (.vr 27) []
                    (.st 2 (.vr 14) (.vr 29) []
                    (.st 2 (.vr 15) (.vr 31) []
                    .nil)))))))
                  (.op (some 15) (.alloc 23) 0 [] [⟨4, (.vr 8), 2, none⟩]
                  (.alt
                    (.call (some 31) 7 [(.vr 30)] []
                    (.op (some 13) (.alloc 23) 0 [] []
                    (.st 2 (.vr 13) (.vr 27) []
                    (.st 2 (.vr 14) (.vr 29) []
                    (.st 2 (.vr 15) (.vr 31) []
                    .nil)))))
                    (.op (some 13) (.alloc 23) 0 [] [⟨4, (.vr 8), 2, none⟩]
                    (.call (some 31) 7 [(.vr 30)] []
                    (.st 2 (.vr 13) (.vr 27) []
                    (.st 2 (.vr 14) (.vr 29) []
                    (.st 2 (.vr 15) (.vr 31) []
                    .nil))))))))))
              (.alt
                (.op (some 13) (.alloc 23) 0 [] [⟨4, (.vr 8), 2, none⟩, ⟨2, (.vr 7), 2, none⟩]
                (.alt
                  (.call (some 29) 7 [(.vr 28)] [⟨4, (.vr 8), 2, none⟩]
                  (.alt
                    (.call (some 31) 7 [(.vr 30)] []
                    (.op (some 15) (.alloc 23) 0 [] []
                    (.st 2 (.vr 13) (.vr 27) []
                    (.st 2 (.vr 14) (.vr 29) []
                    (.st 2 (.vr 15) (.vr 31) []
                    .nil)))))
                    (.op (some 15) (.alloc 23) 0 [] [⟨4, (.vr 8), 2, none⟩]
                    (.call (some 31) 7 [(.vr 30)] []
                    (.st 2 (.vr 13) (.vr 27) []
                    (.st 2 (.vr 14) (.vr 29) []
                    (.st 2 (.vr 15) (.vr 31) []
                    .nil)))))))
                  (.op (some 15) (.alloc 23) 0 [] [⟨4, (.vr 8), 2, none⟩, ⟨2, (.vr 7), 2, none⟩]
                  (.call (some 29) 7 [(.vr 28)] [⟨4, (.vr 8), 2, none⟩]
                  (.call (some 31) 7 [(.vr 30)] []
                  (.st 2 (.vr 13) (.vr 27) []
                  (.st 2 (.vr 14) (.vr 29) []
                  (.st 2 (.vr 15) (.vr 31) []
                  .nil))))))))
                (.op (some 15) (.alloc 23) 0 [] [⟨4, (.vr 8), 2, none⟩, ⟨2, (.vr 7), 2, none⟩]
                (.alt
                  (.call (some 29) 7 [(.vr 28)] [⟨4, (.vr 8), 2, none⟩]
                  (.alt
                    (.call (some 31) 7 [(.vr 30)] []
                    (.op (some 13) (.alloc 23) 0 [] []
                    (.st 2 (.vr 13) (.vr 27) []
                    (.st 2 (.vr 14) (.vr 29) []
                    (.st 2 (.vr 15) (.vr 31) []
                    .nil)))))
                    (.op (some 13) (.alloc 23) 0 [] [⟨4, (.vr 8), 2, none⟩]
                    (.call (some 31) 7 [(.vr 30)] []
                    (.st 2 (.vr 13) (.vr 27) []
                    (.st 2 (.vr 14) (.vr 29) []
                    (.st 2 (.vr 15) (.vr 31) []
                    .nil)))))))
                  (.op (some 13) (.alloc 23) 0 [] [⟨4, (.vr 8), 2, none⟩, ⟨2, (.vr 7), 2, none⟩]
                  (.call (some 29) 7 [(.vr 28)] [⟨4, (.vr 8), 2, none⟩]
                  (.call (some 31) 7 [(.vr 30)] []
                  (.st 2 (.vr 13) (.vr 27) []
                  (.st 2 (.vr 14) (.vr 29) []
                  (.st 2 (.vr 15) (.vr 31) []
                  .nil)))))))))))
            (.op (some 15) (.alloc 23) 0 [] [⟨4, (.vr 8), 2, none⟩, ⟨2, (.vr 7), 2, none⟩]
            (.alt
              (.call (some 29) 7 [(.vr 28)] [⟨4, (.vr 8), 2, none⟩]
              (.alt
                (.call (some 31) 7 [(.vr 30)] []
                (.alt
                  (.op (some 13) (.alloc 23) 0 [] []
                  (.op (some 14) (.alloc 23) 0 [] []
                  (.st 2 (.vr 13) (.vr 27) []
                  (.st 2 (.vr 14) (.vr 29) []
                  (.st 2 (.vr 15) (.vr 31) []
                  .nil)))))
                  (.op (some 14) (.alloc 23) 0 [] []
                  (.op (some 13) (.alloc 23) 0 [] []
                  (.st 2 (.vr 13) (.vr 27) []
                  (.st 2 (.vr 14) (.vr 29) []
                  (.st 2 (.vr 15) (.vr 31) []
                  .nil)))))))
                (.alt
                  (.op (some 13) (.alloc 23) 0 [] [⟨4, (.vr 8), 2, none⟩]
                  (.alt
                    (.call (some 31) 7 [(.vr 30)] []
                    (.op (some 14) (.alloc 23) 0 [] []
                    (.st 2 (.vr 13) (.vr 27) []
                    (.st 2 (.vr 14) (.vr 29) []
                    (.st 2 (.vr 15) (.vr 31) []
                    .nil)))))
                    (.op (some 14) (.alloc 23) 0 [] [⟨4, (.vr 8), 2, none⟩]
                    (.call (some 31) 7 [(.vr 30)] []
                    (.st 2 (.vr 13) (.vr 27) []
                    (.st 2 (.vr 14) (.vr 29) []
                    (.st 2 (.vr 15) (.vr 31) []
                    .nil)))))))
                  (.op (some 14) (.alloc 23) 0 [] [⟨4, (.vr 8), 2, none⟩]
                  (.alt
                    (.call (some 31) 7 [(.vr 30)] []
                    (.op (some 13) (.alloc 23) 0 [] []
                    (.st 2 (.vr 13) (.vr 27) []
                    (.st 2 (.vr 14) (.vr 29) []
                    (.st 2 (.vr 15) (.vr 31) []
                    .nil)))))
                    (.op (some 13) (.alloc 23) 0 [] [⟨4, (.vr 8), 2, none⟩]
                    (.call (some 31) 7 [(.vr 30)] []
                    (.st 2 (.vr 13) (.vr 27) []
                    (.st 2 (.vr 14) (.vr 29) []
                    (.st 2 (.vr 15) (.vr 31) []
                    .nil))))))))))
              (.alt
                (.op (some 13) (.alloc 23) 0 [] [⟨4, (.vr 8), 2, none⟩, ⟨2, (.vr 7), 2, none⟩]
                (.alt
                  (.call (some 29) 7 [(.vr 28)] [⟨4, (.vr 8), 2, none⟩]
                  (.alt
                    (.call (some 31) 7 [(.vr 30)] []
                    (.op (some 14) (.alloc 23) 0 [] []
                    (.st 2 (.vr 13) (.vr 27) []
                    (.st 2 (.vr 14) (.vr 29) []
                    (.st 2 (.vr 15) (.vr 31) []
                    .nil)))))
                    (.op (some 14) (.alloc 23) 0 [] [⟨4, (.vr 8), 2, none⟩]
                    (.call (some 31) 7 [(.vr 30)] []
                    (.st 2 (.vr 13) (.vr 27) []
                    (.st 2 (.vr 14) (.vr 29) []
                    (.st 2 (.vr 15) (.vr 31) []
                    .nil)))))))
                  (.op (some 14) (.alloc 23) 0 [] [⟨4, (.vr 8), 2, none⟩, ⟨2, (.vr 7), 2, none⟩]
                  (.call (some 29) 7 [(.vr 28)] [⟨4, (.vr 8), 2, none⟩]
                  (.call (some 31) 7 [(.vr 30)] []
                  (.st 2 (.vr 13) (.vr 27) []
                  (.st 2 (.vr 14) (.vr 29) []
                  (.st 2 (.vr 15) (.vr 31) []
                  .nil))))))))
                (.op (some 14) (.alloc 23) 0 [] [⟨4, (.vr 8), 2, none⟩, ⟨2, (.vr 7), 2, none⟩]
                (.alt
                  (.call (some 29) 7 [(.vr 28)] [⟨4, (.vr 8), 2, none⟩]
                  (.alt
                    (.call (some 31) 7 [(.vr 30)] []
                    (.op (some 13) (.alloc 23) 0 [] []
                    (.st 2 (.vr 13) (.vr 27) []
                    (.st 2 (.vr 14) (.vr 29) []
                    (.st 2 (.vr 15) (.vr 31) []
                    .nil)))))
                    (.op (some 13) (.alloc 23) 0 [] [⟨4, (.vr 8), 2, none⟩]
                    (.call (some 31) 7 [(.vr 30)] []
                    (.st 2 (.vr 13) (.vr 27) []
                    (.st 2 (.vr 14) (.vr 29) []
                    (.st 2 (.vr 15) (.vr 31) []
                    .nil)))))))
                  (.op (some 13) (.alloc 23) 0 [] [⟨4, (.vr 8), 2, none⟩, ⟨2, (.vr 7), 2, none⟩]
                  (.call (some 29) 7 [(.vr 28)] [⟨4, (.vr 8), 2, none⟩]
                  (.call (some 31) 7 [(.vr 30)] []
                  (.st 2 (.vr 13) (.vr 27) []
                  (.st 2 (.vr 14) (.vr 29) []
                  (.st 2 (.vr 15) (.vr 31) []
                  .nil)))))))))))))))
      (.alt
        (.op (some 13) (.alloc 23) 0 [] [⟨4, (.vr 8), 2, none⟩, ⟨2, (.vr 7), 2, none⟩, ⟨0, (.vr 6), 2, none⟩]
        (.alt
          (.call (some 27) 7 [(.vr 26)] [⟨4, (.vr 8), 2, none⟩, ⟨2, (.vr 7), 2, none⟩]
          (.alt
            (.call (some 29) 7 [(.vr 28)] [⟨4, (.vr 8), 2, none⟩]
            (.alt
              (.call (some 31) 7 [(.vr 30)] []
              (.alt
                (.op (some 14) (.alloc 23) 0 [] []
                (.op (some 15) (.alloc 23) 0 [] []
                (.st 2 (.vr 13) (.vr 27) []
                (.st 2 (.vr 14) (.vr 29) []
                (.st 2 (.vr 15) (.vr 31) []
                .nil)))))
                (.op (some 15) (.alloc 23) 0 [] []
                (.op (some 14) (.alloc 23) 0 [] []
                (.st 2 (.vr 13) (.vr 27) []
                (.st 2 (.vr 14) (.vr 29) []
                (.st 2 (.vr 15) (.vr 31) []
                .nil)))))))
              (.alt
                (.op (some 14) (.alloc 23) 0 [] [⟨4, (.vr 8), 2, none⟩]
                (.alt
                  (.call (some 31) 7 [(.vr 30)] []
                  (.op (some 15) (.alloc 23) 0 [] []
                  (.st 2 (.vr 13) (.vr 27) []
                  (.st 2 (.vr 14) (.vr 29) []
                  (.st 2 (.vr 15) (.vr 31) []
                  .nil)))))
                  (.op (some 15) (.alloc 23) 0 [] [⟨4, (.vr 8), 2, none⟩]
                  (.call (some 31) 7 [(.vr 30)] []
                  (.st 2 (.vr 13) (.vr 27) []
                  (.st 2 (.vr 14) (.vr 29) []
                  (.st 2 (.vr 15) (.vr 31) []
                  .nil)))))))
                (.op (some 15) (.alloc 23) 0 [] [⟨4, (.vr 8), 2, none⟩]
                (.alt
                  (.call (some 31) 7 [(.vr 30)] []
                  (.op (some 14) (.alloc 23) 0 [] []
                  (.st 2 (.vr 13) (.vr 27) []
                  (.st 2 (.vr 14) (.vr 29) []
                  (.st 2 (.vr 15) (.vr 31) []
                  .nil)))))
                  (.op (some 14) (.alloc 23) 0 [] [⟨4, (.vr 8), 2, none⟩]
                  (.call (some 31) 7 [(.vr 30)] []
                  (.st 2 (.vr 13) (.vr 27) []
                  (.st 2 (.vr 14) (.vr 29) []
                  (.st 2 (.vr 15) (.vr 31) []
                  .nil))))))))))
            (.alt
              (.op (some 14) (.alloc 23) 0 [] [⟨4, (.vr 8), 2, none⟩, ⟨2, (.vr 7), 2, none⟩]
              (.alt
                (.call (some 29) 7 [(.vr 28)] [⟨4, (.vr 8), 2, none⟩]
                (.alt
                  (.call (some 31) 7 [(.vr 30)] []
                  (.op (some 15) (.alloc 23) 0 [] []
                  (.st 2 (.vr 13) (.vr 27) []
                  (.st 2 (.vr 14) (.vr 29) []
                  (.st 2 (.vr 15) (.vr 31) []
                  .nil)))))
                  (.op (some 15) (.alloc 23) 0 [] [⟨4, (.vr 8), 2, none⟩]
                  (.call (some 31) 7 [(.vr 30)] []
                  (.st 2 (.vr 13) (.vr 27) []
                  (.st 2 (.vr 14) (.vr 29) []
                  (.st 2 (.vr 15) (.vr 31) []
                  .nil)))))))
                (.op (some 15) (.alloc 23) 0 [] [⟨4, (.vr 8), 2, none⟩, ⟨2, (.vr 7), 2, none⟩]
                (.call (some 29) 7 [(.vr 28)] [⟨4, (.vr 8), 2, none⟩]
                (.call (some 31) 7 [(.vr 30)] []
                (.st 2 (.vr 13) (.vr 27) []
                (.st 2 (.vr 14) (.vr 29) []
                (.st 2 (.vr 15) (.vr 31) []
                .nil))))))))
              (.op (some 15) (.alloc 23) 0 [] [⟨4, (.vr 8), 2, none⟩, ⟨2, (.vr 7), 2, none⟩]
              (.alt
                (.call (some 29) 7 [(.vr 28)] [⟨4, (.vr 8), 2, none⟩]
                (.alt
                  (.call (some 31) 7 [(.vr 30)] []
                  (.op (some 14) (.alloc 23) 0 [] []
                  (.st 2 (.vr 13) (.vr 27) []
                  (.st 2 (.vr 14) (.vr 29) []
                  (.st 2 (.vr 15) (.vr 31) []
                  .nil)))))
                  (.op (some 14) (.alloc 23) 0 [] [⟨4, (.vr 8), 2, none⟩]
                  (.call (some 31) 7 [(.vr 30)] []
                  (.st 2 (.vr 13) (.vr 27) []
                  (.st 2 (.vr 14) (.vr 29) []
                  (.st 2 (.vr 15) (.vr 31) []
                  .nil)))))))
                (.op (some 14) (.alloc 23) 0 [] [⟨4, (.vr 8), 2, none⟩, ⟨2, (.vr 7), 2, none⟩]
                (.call (some 29) 7 [(.vr 28)] [⟨4, (.vr 8), 2, none⟩]
                (.call (some 31) 7 [(.vr 30)] []
                (.st 2 (.vr 13) (.vr 27) []
                (.st 2 (.vr 14) (.vr 29) []
                (.st 2 (.vr 15) (.vr 31) []
                .nil)))))))))))
          (.alt
            (.op (some 14) (.alloc 23) 0 [] [⟨4, (.vr 8), 2, none⟩, ⟨2, (.vr 7), 2, none⟩, ⟨0, (.vr 6), 2, none⟩]
            (.alt
              (.call (some 27) 7 [(.vr 26)] [⟨4, (.vr 8), 2, none⟩, ⟨2, (.vr 7), 2, none⟩]
              (.alt
                (.call (some 29) 7 [(.vr 28)] [⟨4, (.vr 8), 2, none⟩]
                (.alt
                  (.call (some 31) 7 [(.vr 30)] []
                  (.op (some 15) (.alloc 23) 0 [] []
                  (.st 2 (.vr 13) (.vr 27) []
                  (.st 2 (.vr 14) (.vr 29) []
                  (.st 2 (.vr 15) (.vr 31) []
                  .nil)))))
                  (.op (some 15) (.alloc 23) 0 [] [⟨4, (.vr 8), 2, none⟩]
                  (.call (some 31) 7 [(.vr 30)] []
                  (.st 2 (.vr 13) (.vr 27) []
                  (.st 2 (.vr 14) (.vr 29) []
                  (.st 2 (.vr 15) (.vr 31) []
                  .nil)))))))
                (.op (some 15) (.alloc 23) 0 [] [⟨4, (.vr 8), 2, none⟩, ⟨2, (.vr 7), 2, none⟩]
                (.call (some 29) 7 [(.vr 28)] [⟨4, (.vr 8), 2, none⟩]
                (.call (some 31) 7 [(.vr 30)] []
                (.st 2 (.vr 13) (.vr 27) []
                (.st 2 (.vr 14) (.vr 29) []
                (.st 2 (.vr 15) (.vr 31) []
                .nil))))))))
              (.op (some 15) (.alloc 23) 0 [] [⟨4, (.vr 8), 2, none⟩, ⟨2, (.vr 7), 2, none⟩, ⟨0, (.vr 6), 2, none⟩]
              (.call (some 27) 7 [(.vr 26)] [⟨4, (.vr 8), 2, none⟩, ⟨2, (.vr 7), 2, none⟩]
              (.call (some 29) 7 [(.vr 28)] [⟨4, (.vr 8), 2, none⟩]
              (.call (some 31) 7 [(.vr 30)] []
              (.st 2 (.vr 13) (.vr 27) []
              (.st 2 (.vr 14) (.vr 29) []
              (.st 2 (.vr 15) (.vr 31) []
              .nil)))))))))
            (.op (some 15) (.alloc 23) 0 [] [⟨4, (.vr 8), 2, none⟩, ⟨2, (.vr 7), 2, none⟩, ⟨0, (.vr 6), 2, none⟩]
            (.alt
              (.call (some 27) 7 [(.vr 26)] [⟨4, (.vr 8), 2, none⟩, ⟨2, (.vr 7), 2, none⟩]
              (.alt
                (.call (some 29) 7 [(.vr 28)] [⟨4, (.vr 8), 2, none⟩]
                (.alt
                  (.call (some 31) 7 [(.vr 30)] []
                  (.op (some 14) (.alloc 23) 0 [] []
                  (.st 2 (.vr 13) (.vr 27) []
                  (.st 2 (.vr 14) (.vr 29) []
                  (.st 2 (.vr 15) (.vr 31) []
                  .nil)))))
                  (.op (some 14) (.alloc 23) 0 [] [⟨4, (.vr 8), 2, none⟩]
                  (.call (some 31) 7 [(.vr 30)] []
                  (.st 2 (.vr 13) (.vr 27) []
                  (.st 2 (.vr 14) (.vr 29) []
                  (.st 2 (.vr 15) (.vr 31) []
                  .nil)))))))
                (.op (some 14) (.alloc 23) 0 [] [⟨4, (.vr 8), 2, none⟩, ⟨2, (.vr 7), 2, none⟩]
                (.call (some 29) 7 [(.vr 28)] [⟨4, (.vr 8), 2, none⟩]
                (.call (some 31) 7 [(.vr 30)] []
                (.st 2 (.vr 13) (.vr 27) []
                (.st 2 (.vr 14) (.vr 29) []
                (.st 2 (.vr 15) (.vr 31) []
                .nil))))))))
              (.op (some 14) (.alloc 23) 0 [] [⟨4, (.vr 8), 2, none⟩, ⟨2, (.vr 7), 2, none⟩, ⟨0, (.vr 6), 2, none⟩]
              (.call (some 27) 7 [(.vr 26)] [⟨4, (.vr 8), 2, none⟩, ⟨2, (.vr 7), 2, none⟩]
              (.call (some 29) 7 [(.vr 28)] [⟨4, (.vr 8), 2, none⟩]
              (.call (some 31) 7 [(.vr 30)] []
              (.st 2 (.vr 13) (.vr 27) []
              (.st 2 (.vr 14) (.vr 29) []
              (.st 2 (.vr 15) (.vr 31) []
              .nil))))))))))))
        (.alt
          (.op (some 14) (.alloc 23) 0 [] [⟨4, (.vr 8), 2, none⟩, ⟨2, (.vr 7), 2, none⟩, ⟨0, (.vr 6), 2, none⟩]
          (.alt
            (.call (some 27) 7 [(.vr 26)] [⟨4, (.vr 8), 2, none⟩, ⟨2, (.vr 7), 2, none⟩]
            (.alt
              (.call (some 29) 7 [(.vr 28)] [⟨4, (.vr 8), 2, none⟩]
              (.alt
                (.call (some 31) 7 [(.vr 30)] []
                (.alt
                  (.op (some 13) (.alloc 23) 0 [] []
                  (.op (some 15) (.alloc 23) 0 [] []
                  (.st 2 (.vr 13) (.vr 27) []
                  (.st 2 (.vr 14) (.vr 29) []
                  (.st 2 (.vr 15) (.vr 31) []
                  .nil)))))
                  (.op (some 15) (.alloc 23) 0 [] []
                  (.op (some 13) (.alloc 23) 0 [] []
                  (.st 2 (.vr 13) (.vr 27) []
                  (.st 2 (.vr 14) (.vr 29) []
                  (.st 2 (.vr 15) (.vr 31) []
                  .nil)))))))
                (.alt
                  (.op (some 13) (.alloc 23) 0 [] [⟨4, (.vr 8), 2, none⟩]
                  (.alt
                    (.call (some 31) 7 [(.vr 30)] []
                    (.op (some 15) (.alloc 23) 0 [] []
                    (.st 2 (.vr 13) (.vr 27) []
                    (.st 2 (.vr 14) (.vr 29) []
                    (.st 2 (.vr 15) (.vr 31) []
                    .nil)))))
                    (.op (some 15) (.alloc 23) 0 [] [⟨4, (.vr 8), 2, none⟩]
                    (.call (some 31) 7 [(.vr 30)] []
                    (.st 2 (.vr 13) (.vr 27) []
                    (.st 2 (.vr 14) (.vr 29) []
                    (.st 2 (.vr 15) (.vr 31) []
                    .nil)))))))
                  (.op (some 15) (.alloc 23) 0 [] [⟨4, (.vr 8), 2, none⟩]
                  (.alt
                    (.call (some 31) 7 [(.vr 30)] []
                    (.op (some 13) (.alloc 23) 0 [] []
                    (.st 2 (.vr 13) (.vr 27) []
                    (.st 2 (.vr 14) (.vr 29) []
                    (.st 2 (.vr 15) (.vr 31) []
                    .nil)))))
                    (.op (some 13) (.alloc 23) 0 [] [⟨4, (.vr 8), 2, none⟩]
                    (.call (some 31) 7 [(.vr 30)] []
                    (.st 2 (.vr 13) (.vr 27) []
                    (.st 2 (.vr 14) (.vr 29) []
                    (.st 2 (.vr 15) (.vr 31) []
                    .nil))))))))))
              (.alt
                (.op (some 13) (.alloc 23) 0 [] [⟨4, (.vr 8), 2, none⟩, ⟨2, (.vr 7), 2, none⟩]
                (.alt
                  (.call (some 29) 7 [(.vr 28)] [⟨4, (.vr 8), 2, none⟩]
                  (.alt
                    (.call (some 31) 7 [(.vr 30)] []
                    (.op (some 15) (.alloc 23) 0 [] []
                    (.st 2 (.vr 13) (.vr 27) []
                    (.st 2 (.vr 14) (.vr 29) []
                    (.st 2 (.vr 15) (.vr 31) []
                    .nil)))))
                    (.op (some 15) (.alloc 23) 0 [] [⟨4, (.vr 8), 2, none⟩]
                    (.call (some 31) 7 [(.vr 30)] []
                    (.st 2 (.vr 13) (.vr 27) []
                    (.st 2 (.vr 14) (.vr 29) []
                    (.st 2 (.vr 15) (.vr 31) []
                    .nil)))))))
                  (.op (some 15) (.alloc 23) 0 [] [⟨4, (.vr 8), 2, none⟩, ⟨2, (.vr 7), 2, none⟩]
                  (.call (some 29) 7 [(.vr 28)] [⟨4, (.vr 8), 2, none⟩]
                  (.call (some 31) 7 [(.vr 30)] []
                  (.st 2 (.vr 13) (.vr 27) []
                  (.st 2 (.vr 14) (.vr 29) []
                  (.st 2 (.vr 15) (.vr 31) []
                  .nil))))))))
                (.op (some 15) (.alloc 23) 0 [] [⟨4, (.vr 8), 2, none⟩, ⟨2, (.vr 7), 2, none⟩]
                (.alt
                  (.call (some 29) 7 [(.vr 28)] [⟨4, (.vr 8), 2, none⟩]
                  (.alt
                    (.call (some 31) 7 [(.vr 30)] []
                    (.op (some 13) (.alloc 23) 0 [] []
                    (.st 2 (.vr 13) (.vr 27) []
                    (.st 2 (.vr 14) (.vr 29) []
                    (.st 2 (.vr 15) (.vr 31) []
                    .nil)))))
                    (.op (some 13) (.alloc 23) 0 [] [⟨4, (.vr 8), 2, none⟩]
                    (.call (some 31) 7 [(.vr 30)] []
                    (.st 2 (.vr 13) (.vr 27) []
                    (.st 2 (.vr 14) (.vr 29) []
                    (.st 2 (.vr 15) (.vr 31) []
                    .nil)))))))
                  (.op (some 13) (.alloc 23) 0 [] [⟨4, (.vr 8), 2, none⟩, ⟨2, (.vr 7), 2, none⟩]
                  (.call (some 29) 7 [(.vr 28)] [⟨4, (.vr 8), 2, none⟩]
                  (.call (some 31) 7 [(.vr 30)] []
                  (.st 2 (.vr 13) (.vr 27) []
                  (.st 2 (.vr 14) (.vr 29) []
                  (.st 2 (.vr 15) (.vr 31) []
                  .nil)))))))))))
            (.alt
              (.op (some 13) (.alloc 23) 0 [] [⟨4, (.vr 8), 2, none⟩, ⟨2, (.vr 7), 2, none⟩, ⟨0, (.vr 6), 2, none⟩]
              (.alt
                (.call (some 27) 7 [(.vr 26)] [⟨4, (.vr 8), 2, none⟩, ⟨2, (.vr 7), 2, none⟩]
                (.alt
                  (.call (some 29) 7 [(.vr 28)] [⟨4, (.vr 8), 2, none⟩]
                  (.alt
                    (.call (some 31) 7 [(.vr 30)] []
                    (.op (some 15) (.alloc 23) 0 [] []
                    (.st 2 (.vr 13) (.vr 27) []
                    (.st 2 (.vr 14) (.vr 29) []
                    (.st 2 (.vr 15) (.vr 31) []
                    .nil)))))
                    (.op (some 15) (.alloc 23) 0 [] [⟨4, (.vr 8), 2, none⟩]
                    (.call (some 31) 7 [(.vr 30)] []
                    (.st 2 (.vr 13) (.vr 27) []
                    (.st 2 (.vr 14) (.vr 29) []
                    (.st 2 (.vr 15) (.vr 31) []
                    .nil)))))))
                  (.op (some 15) (.alloc 23) 0 [] [⟨4, (.vr 8), 2, none⟩, ⟨2, (.vr 7), 2, none⟩]
                  (.call (some 29) 7 [(.vr 28)] [⟨4, (.vr 8), 2, none⟩]
                  (.call (some 31) 7 [(.vr 30)] []
                  (.st 2 (.vr 13) (.vr 27) []
                  (.st 2 (.vr 14) (.vr 29) []
                  (.st 2 (.vr 15) (.vr 31) []
                  .nil))))))))
                (.op (some 15) (.alloc 23) 0 [] [⟨4, (.vr 8), 2, none⟩, ⟨2, (.vr 7), 2, none⟩, ⟨0, (.vr 6), 2, none⟩]
                (.call (some 27) 7 [(.vr 26)] [⟨4, (.vr 8), 2, none⟩, ⟨2, (.vr 7), 2, none⟩]
                (.call (some 29) 7 [(.vr 28)] [⟨4, (.vr 8), 2, none⟩]
                (.call (some 31) 7 [(.vr 30)] []
                (.st 2 (.vr 13) (.vr 27) []
                (.st 2 (.vr 14) (.vr 29) []
                (.st 2 (.vr 15) (.vr 31) []
                .nil)))))))))
              (.op (some 15) (.alloc 23) 0 [] [⟨4, (.vr 8), 2, none⟩, ⟨2, (.vr 7), 2, none⟩, ⟨0, (.vr 6), 2, none⟩]
              (.alt
                (.call (some 27) 7 [(.vr 26)] [⟨4, (.vr 8), 2, none⟩, ⟨2, (.vr 7), 2, none⟩]
                (.alt
                  (.call (some 29) 7 [(.vr 28)] [⟨4, (.vr 8), 2, none⟩]
                  (.alt
                    (.call (some 31) 7 [(.vr 30)] []
                    (.op (some 13) (.alloc 23) 0 [] []
                    (.st 2 (.vr 13) (.vr 27) []
                    (.st 2 (.vr 14) (.vr 29) []
                    (.st 2 (.vr 15) (.vr 31) []
                    .nil)))))
                    (.op (some 13) (.alloc 23) 0 [] [⟨4, (.vr 8), 2, none⟩]
                    (.call (some 31) 7 [(.vr 30)] []
                    (.st 2 (.vr 13) (.vr 27) []
                    (.st 2 (.vr 14) (.vr 29) []
                    (.st 2 (.vr 15) (.vr 31) []
                    .nil)))))))
                  (.op (some 13) (.alloc 23) 0 [] [⟨4, (.vr 8), 2, none⟩, ⟨2, (.vr 7), 2, none⟩]
                  (.call (some 29) 7 [(.vr 28)] [⟨4, (.vr 8), 2, none⟩]
                  (.call (some 31) 7 [(.vr 30)] []
                  (.st 2 (.vr 13) (.vr 27) []
                  (.st 2 (.vr 14) (.vr 29) []
                  (.st 2 (.vr 15) (.vr 31) []
                  .nil))))))))
                (.op (some 13) (.alloc 23) 0 [] [⟨4, (.vr 8), 2, none⟩, ⟨2, (.vr 7), 2, none⟩, ⟨0, (.vr 6), 2, none⟩]
                (.call (some 27) 7 [(.vr 26)] [⟨4, (.vr 8), 2, none⟩, ⟨2, (.vr 7), 2, none⟩]
                (.call (some 29) 7 [(.vr 28)] [⟨4, (.vr 8), 2, none⟩]
                (.call (some 31) 7 [(.vr 30)] []
                (.st 2 (.vr 13) (.vr 27) []
                (.st 2 (.vr 14) (.vr 29) []
                (.st 2 (.vr 15) (.vr 31) []
                .nil))))))))))))
          (.op (some 15) (.alloc 23) 0 [] [⟨4, (.vr 8), 2, none⟩, ⟨2, (.vr 7), 2, none⟩, ⟨0, (.vr 6), 2, none⟩]
          (.alt
            (.call (some 27) 7 [(.vr 26)] [⟨4, (.vr 8), 2, none⟩, ⟨2, (.vr 7), 2, none⟩]
            (.alt
              (.call (some 29) 7 [(.vr 28)] [⟨4, (.vr 8), 2, none⟩]
              (.alt
                (.call (some 31) 7 [(.vr 30)] []
                (.alt
                  (.op (some 13) (.alloc 23) 0 [] []
                  (.op (some 14) (.alloc 23) 0 [] []
                  (.st 2 (.vr 13) (.vr 27) []
                  (.st 2 (.vr 14) (.vr 29) []
                  (.st 2 (.vr 15) (.vr 31) []
                  .nil)))))
                  (.op (some 14) (.alloc 23) 0 [] []
                  (.op (some 13) (.alloc 23) 0 [] []
                  (.st 2 (.vr 13) (.vr 27) []
                  (.st 2 (.vr 14) (.vr 29) []
                  (.st 2 (.vr 15) (.vr 31) []
                  .nil)))))))
                (.alt
                  (.op (some 13) (.alloc 23) 0 [] [⟨4, (.vr 8), 2, none⟩]
                  (.alt
                    (.call (some 31) 7 [(.vr 30)] []
                    (.op (some 14) (.alloc 23) 0 [] []
                    (.st 2 (.vr 13) (.vr 27) []
                    (.st 2 (.vr 14) (.vr 29) []
                    (.st 2 (.vr 15) (.vr 31) []
                    .nil)))))
                    (.op (some 14) (.alloc 23) 0 [] [⟨4, (.vr 8), 2, none⟩]
                    (.call (some 31) 7 [(.vr 30)] []
                    (.st 2 (.vr 13) (.vr 27) []
                    (.st 2 (.vr 14) (.vr 29) []
                    (.st 2 (.vr 15) (.vr 31) []
                    .nil)))))))
                  (.op (some 14) (.alloc 23) 0 [] [⟨4, (.vr 8), 2, none⟩]
                  (.alt
                    (.call (some 31) 7 [(.vr 30)] []
                    (.op (some 13) (.alloc 23) 0 [] []
                    (.st 2 (.vr 13) (.vr 27) []
                    (.st 2 (.vr 14) (.vr 29) []
                    (.st 2 (.vr 15) (.vr 31) []
                    .nil)))))
                    (.op (some 13) (.alloc 23) 0 [] [⟨4, (.vr 8), 2, none⟩]
                    (.call (some 31) 7 [(.vr 30)] []
                    (.st 2 (.vr 13) (.vr 27) []
                    (.st 2 (.vr 14) (.vr 29) []
                    (.st 2 (.vr 15) (.vr 31) []
                    .nil))))))))))
              (.alt
                (.op (some 13) (.alloc 23) 0 [] [⟨4, (.vr 8), 2, none⟩, ⟨2, (.vr 7), 2, none⟩]
                (.alt
                  (.call (some 29) 7 [(.vr 28)] [⟨4, (.vr 8), 2, none⟩]
                  (.alt
                    (.call (some 31) 7 [(.vr 30)] []
                    (.op (some 14) (.alloc 23) 0 [] []
                    (.st 2 (.vr 13) (.vr 27) []
                    (.st 2 (.vr 14) (.vr 29) []
                    (.st 2 (.vr 15) (.vr 31) []
                    .nil)))))
                    (.op (some 14) (.alloc 23) 0 [] [⟨4, (.vr 8), 2, none⟩]
                    (.call (some 31) 7 [(.vr 30)] []
                    (.st 2 (.vr 13) (.vr 27) []
                    (.st 2 (.vr 14) (.vr 29) []
                    (.st 2 (.vr 15) (.vr 31) []
                    .nil)))))))
                  (.op (some 14) (.alloc 23) 0 [] [⟨4, (.vr 8), 2, none⟩, ⟨2, (.vr 7), 2, none⟩]
                  (.call (some 29) 7 [(.vr 28)] [⟨4, (.vr 8), 2, none⟩]
                  (.call (some 31) 7 [(.vr 30)] []
                  (.st 2 (.vr 13) (.vr 27) []
                  (.st 2 (.vr 14) (.vr 29) []
                  (.st 2 (.vr 15) (.vr 31) []
                  .nil))))))))
                (.op (some 14) (.alloc 23) 0 [] [⟨4, (.vr 8), 2, none⟩, ⟨2, (.vr 7), 2, none⟩]
                (.alt
                  (.call (some 29) 7 [(.vr 28)] [⟨4, (.vr 8), 2, none⟩]
                  (.alt
                    (.call (some 31) 7 [(.vr 30)] []
                    (.op (some 13) (.alloc 23) 0 [] []
                    (.st 2 (.vr 13) (.vr 27) []
                    (.st 2 (.vr 14) (.vr 29) []
                    (.st 2 (.vr 15) (.vr 31) []
                    .nil)))))
                    (.op (some 13) (.alloc 23) 0 [] [⟨4, (.vr 8), 2, none⟩]
                    (.call (some 31) 7 [(.vr 30)] []
                    (.st 2 (.vr 13) (.vr 27) []
                    (.st 2 (.vr 14) (.vr 29) []
                    (.st 2 (.vr 15) (.vr 31) []
                    .nil)))))))
                  (.op (some 13) (.alloc 23) 0 [] [⟨4, (.vr 8), 2, none⟩, ⟨2, (.vr 7), 2, none⟩]
                  (.call (some 29) 7 [(.vr 28)] [⟨4, (.vr 8), 2, none⟩]
                  (.call (some 31) 7 [(.vr 30)] []
                  (.st 2 (.vr 13) (.vr 27) []
                  (.st 2 (.vr 14) (.vr 29) []
                  (.st 2 (.vr 15) (.vr 31) []
                  .nil)))))))))))
            (.alt
              (.op (some 13) (.alloc 23) 0 [] [⟨4, (.vr 8), 2, none⟩, ⟨2, (.vr 7), 2, none⟩, ⟨0, (.vr 6), 2, none⟩]
              (.alt
                (.call (some 27) 7 [(.vr 26)] [⟨4, (.vr 8), 2, none⟩, ⟨2, (.vr 7), 2, none⟩]
                (.alt
                  (.call (some 29) 7 [(.vr 28)] [⟨4, (.vr 8), 2, none⟩]
                  (.alt
                    (.call (some 31) 7 [(.vr 30)] []
                    (.op (some 14) (.alloc 23) 0 [] []
                    (.st 2 (.vr 13) (.vr 27) []
                    (.st 2 (.vr 14) (.vr 29) []
                    (.st 2 (.vr 15) (.vr 31) []
                    .nil)))))
                    (.op (some 14) (.alloc 23) 0 [] [⟨4, (.vr 8), 2, none⟩]
                    (.call (some 31) 7 [(.vr 30)] []
                    (.st 2 (.vr 13) (.vr 27) []
                    (.st 2 (.vr 14) (.vr 29) []
                    (.st 2 (.vr 15) (.vr 31) []
                    .nil)))))))
                  (.op (some 14) (.alloc 23) 0 [] [⟨4, (.vr 8), 2, none⟩, ⟨2, (.vr 7), 2, none⟩]
                  (.call (some 29) 7 [(.vr 28)] [⟨4, (.vr 8), 2, none⟩]
                  (.call (some 31) 7 [(.vr 30)] []
                  (.st 2 (.vr 13) (.vr 27) []
                  (.st 2 (.vr 14) (.vr 29) []
                  (.st 2 (.vr 15) (.vr 31) []
                  .nil))))))))
                (.op (some 14) (.alloc 23) 0 [] [⟨4, (.vr 8), 2, none⟩, ⟨2, (.vr 7), 2, none⟩, ⟨0, (.vr 6), 2, none⟩]
                (.call (some 27) 7 [(.vr 26)] [⟨4, (.vr 8), 2, none⟩, ⟨2, (.vr 7), 2, none⟩]
                (.call (some 29) 7 [(.vr 28)] [⟨4, (.vr 8), 2, none⟩]
                (.call (some 31) 7 [(.vr 30)] []
                (.st 2 (.vr 13) (.vr 27) []
                (.st 2 (.vr 14) (.vr 29) []
                (.st 2 (.vr 15) (.vr 31) []
                .nil)))))))))
              (.op (some 14) (.alloc 23) 0 [] [⟨4, (.vr 8), 2, none⟩, ⟨2, (.vr 7), 2, none⟩, ⟨0, (.vr 6), 2, none⟩]
              (.alt
                (.call (some 27) 7 [(.vr 26)] [⟨4, (.vr 8), 2, none⟩, ⟨2, (.vr 7), 2, none⟩]
                (.alt
                  (.call (some 29) 7 [(.vr 28)] [⟨4, (.vr 8), 2, none⟩]
                  (.alt
                    (.call (some 31) 7 [(.vr 30)] []
                    (.op (some 13) (.alloc 23) 0 [] []
                    (.st 2 (.vr 13) (.vr 27) []
                    (.st 2 (.vr 14) (.vr 29) []
                    (.st 2 (.vr 15) (.vr 31) []
                    .nil)))))
                    (.op (some 13) (.alloc 23) 0 [] [⟨4, (.vr 8), 2, none⟩]
                    (.call (some 31) 7 [(.vr 30)] []
                    (.st 2 (.vr 13) (.vr 27) []
                    (.st 2 (.vr 14) (.vr 29) []
                    (.st 2 (.vr 15) (.vr 31) []
                    .nil)))))))
                  (.op (some 13) (.alloc 23) 0 [] [⟨4, (.vr 8), 2, none⟩, ⟨2, (.vr 7), 2, none⟩]
                  (.call (some 29) 7 [(.vr 28)] [⟨4, (.vr 8), 2, none⟩]
                  (.call (some 31) 7 [(.vr 30)] []
                  (.st 2 (.vr 13) (.vr 27) []
                  (.st 2 (.vr 14) (.vr 29) []
                  (.st 2 (.vr 15) (.vr 31) []
                  .nil))))))))
                (.op (some 13) (.alloc 23) 0 [] [⟨4, (.vr 8), 2, none⟩, ⟨2, (.vr 7), 2, none⟩, ⟨0, (.vr 6), 2, none⟩]
                (.call (some 27) 7 [(.vr 26)] [⟨4, (.vr 8), 2, none⟩, ⟨2, (.vr 7), 2, none⟩]
                (.call (some 29) 7 [(.vr 28)] [⟨4, (.vr 8), 2, none⟩]
                (.call (some 31) 7 [(.vr 30)] []
                (.st 2 (.vr 13) (.vr 27) []
                (.st 2 (.vr 14) (.vr 29) []
                (.st 2 (.vr 15) (.vr 31) []
                .nil))))))))))))))))))))))
  (.chk (.bn (.bt .and .i64) (.vr 3) (.cn (.int .i64 1023)))
  (.chk (.bn (.bt .and .i64) (.vr 4) (.cn (.int .i64 1023)))
  (.chk (.bn (.bt .and .i64) (.vr 5) (.cn (.int .i64 1023)))
  (.set 16 (.bn (.bt .and .i64) (.vr 3) (.cn (.int .i64 1023)))
  (.set 17 (.bn (.bt .and .i64) (.vr 4) (.cn (.int .i64 1023)))
  (.set 18 (.bn (.bt .and .i64) (.vr 5) (.cn (.int .i64 1023)))
  (.draw
  (.chk (.ldn 2 (.vr 13))
  (.set 38 (.ldn 2 (.vr 13))
  (.chk (.ldn 2 (.vr 14))
  (.set 40 (.ldn 2 (.vr 14))
  (.chk (.ldn 2 (.vr 14))
  (.set 43 (.ldn 2 (.vr 14))
  (.chk (.ldn 2 (.vr 15))
  (.set 45 (.ldn 2 (.vr 15))
  (.chk (.ldn 2 (.vr 13))
  (.set 48 (.ldn 2 (.vr 13))
  (.chk (.ldn 2 (.vr 15))
  (.set 50 (.ldn 2 (.vr 15))
  (.call (some 42) 15 [(.vr 38), (.vr 16), (.vr 40), (.vr 17)] [⟨12, (.vr 15), 2, none⟩, ⟨10, (.vr 13), 2, none⟩, ⟨7, (.vr 15), 2, none⟩, ⟨5, (.vr 14), 2, none⟩]
  (.call (some 47) 15 [(.vr 43), (.vr 17), (.vr 45), (.vr 18)] [⟨12, (.vr 15), 2, none⟩, ⟨10, (.vr 13), 2, none⟩]
  (.call (some 52) 15 [(.vr 48), (.vr 16), (.vr 50), (.vr 18)] []
  (.set 19 (.vr 42)
  (.set 20 (.vr 47)
  (.set 21 (.vr 52)
  (.chk (.ldn 2 (.vr 13))
  (.set 54 (.ldn 2 (.vr 13))
  (.call (some 56) 13 [(.vr 54), (.vr 16)] []
  (.chk (.un (.ex 0) (.vr 56))
  (.chk (.un (.ex 1) (.vr 56))
  (.set 22 (.un (.ex 0) (.vr 56))
  (.chk (.ldn 2 (.vr 14))
  (.set 60 (.ldn 2 (.vr 14))
  (.call (some 62) 13 [(.vr 60), (.vr 17)] []
  (.chk (.un (.ex 0) (.vr 62))
  (.chk (.un (.ex 1) (.vr 62))
  (.set 24 (.un (.ex 0) (.vr 62))
  (.chk (.ldn 2 (.vr 14))
  (.set 66 (.ldn 2 (.vr 14))
  (.chk (.ldn 2 (.vr 13))
  (.set 68 (.ldn 2 (.vr 13))
  (.call (some 70) 15 [(.vr 66), (.vr 17), (.vr 68), (.vr 16)] []
  (.chk (.un (.neg .i64) (.vr 70))
  (.chk (.bn (.cm .eql .i64) (.vr 19) (.un (.neg .i64) (.vr 70)))
  (.set 73 (.bn (.cm .eql .i64) (.vr 19) (.un (.neg .i64) (.vr 70)))
  (.chk (.gd (.vr 73) true (.ldn 2 (.vr 13)))
  (.set 74 (.gd (.vr 73) true (.ldn 2 (.vr 13)))
  (.chk (.gd (.vr 73) true (.ldn 2 (.vr 13)))
  (.set 76 (.gd (.vr 73) true (.ldn 2 (.vr 13)))
  (.ifg (.vr 73) true
    (.call (some 78) 15 [(.vr 74), (.vr 16), (.vr 76), (.vr 16)] []
    .nil)
    (.set 78 (.cn undef)
    .nil)
  (.chk (.gd (.vr 73) true (.bn (.cm .eql .i64) (.vr 78) (.cn (.int .i64 0))))
  (.chk (.and (.vr 73) (.bn (.cm .eql .i64) (.vr 78) (.cn (.int .i64 0))))
  (.set 81 (.and (.vr 73) (.bn (.cm .eql .i64) (.vr 78) (.cn (.int .i64 0))))
  (.chk (.gd (.vr 81) true (.ldn 2 (.vr 13)))
  (.set 82 (.gd (.vr 81) true (.ldn 2 (.vr 13)))
  (.chk (.gd (.vr 81) true (.ldn 2 (.vr 13)))
  (.set 84 (.gd (.vr 81) true (.ldn 2 (.vr 13)))
  (.chk (.gd (.vr 81) true (.bn (.ar .add .i64) (.vr 16) (.cn (.int .i64 1))))
  (.ifg (.vr 81) true
    (.call (some 87) 15 [(.vr 82), (.vr 16), (.vr 84), (.bn (.ar .add .i64) (.vr 16) (.cn (.int .i64 1)))] []
    .nil)
    (.set 87 (.cn undef)
    .nil)
  (.chk (.gd (.vr 81) true (.bn (.cm .eql .i64) (.vr 87) (.cn (.int .i64 (-1)))))
  (.chk (.and (.vr 81) (.bn (.cm .eql .i64) (.vr 87) (.cn (.int .i64 (-1)))))
  (.set 90 (.and (.vr 81) (.bn (.cm .eql .i64) (.vr 87) (.cn (.int .i64 (-1)))))
  (.chk (.gd (.vr 90) true (.bn (.cm .gtr .i64) (.vr 19) (.cn (.int .i64 0))))
  (.set 93 (.gd (.vr 90) true (.bn (.cm .gtr .i64) (.vr 19) (.cn (.int .i64 0))))
  (.chk (.gd (.vr 93) false (.bn (.cm .gtr .i64) (.vr 20) (.cn (.int .i64 0))))
  (.chk (.gd (.vr 90) true (.or (.vr 93) (.bn (.cm .gtr .i64) (.vr 20) (.cn (.int .i64 0)))))
  (.set 97 (.gd (.vr 90) true (.or (.vr 93) (.bn (.cm .gtr .i64) (.vr 20) (.cn (.int .i64 0)))))
  (.chk (.gd (.vr 97) false (.bn (.cm .leq .i64) (.vr 21) (.cn (.int .i64 0))))
  (.chk (.gd (.vr 90) true (.or (.vr 97) (.bn (.cm .leq .i64) (.vr 21) (.cn (.int .i64 0)))))
  (.chk (.and (.vr 90) (.or (.vr 97) (.bn (.cm .leq .i64) (.vr 21) (.cn (.int .i64 0)))))
  (.set 102 (.and (.vr 90) (.or (.vr 97) (.bn (.cm .leq .i64) (.vr 21) (.cn (.int .i64 0)))))
  (.chk (.gd (.vr 102) true (.bn (.cm .geq .i64) (.vr 22) (.vr 24)))
  (.set 106 (.gd (.vr 102) true (.bn (.cm .geq .i64) (.vr 22) (.vr 24)))
  (.chk (.gd (.vr 106) false (.bn (.cm .eql .i64) (.vr 19) (.cn (.int .i64 (-1)))))
  (.chk (.gd (.vr 102) true (.or (.vr 106) (.bn (.cm .eql .i64) (.vr 19) (.cn (.int .i64 (-1))))))
  (.chk (.and (.vr 102) (.or (.vr 106) (.bn (.cm .eql .i64) (.vr 19) (.cn (.int .i64 (-1))))))
  (.set 111 (.and (.vr 102) (.or (.vr 106) (.bn (.cm .eql .i64) (.vr 19) (.cn (.int .i64 (-1))))))
  (.chk (.gd (.vr 111) true (.bn (.cm .leq .i64) (.vr 22) (.vr 24)))
  (.set 115 (.gd (.vr 111) true (.bn (.cm .leq .i64) (.vr 22) (.vr 24)))
  (.chk (.gd (.vr 115) false (.bn (.cm .eql .i64) (.vr 19) (.cn (.int .i64 1))))
  (.chk (.gd (.vr 111) true (.or (.vr 115) (.bn (.cm .eql .i64) (.vr 19) (.cn (.int .i64 1)))))
  (.chk (.and (.vr 111) (.or (.vr 115) (.bn (.cm .eql .i64) (.vr 19) (.cn (.int .i64 1)))))
  (.set 120 (.and (.vr 111) (.or (.vr 115) (.bn (.cm .eql .i64) (.vr 19) (.cn (.int .i64 1)))))
  (.ifg (.vr 120) true
    (.call (some 121) 12 [] []
    .nil)
    (.set 121 (.cn undef)
    .nil)
  (.chk (.pk (.vr 120) (.vr 121) (.cn (.bool false)))
  (.set 12 (.pk (.vr 120) (.vr 121) (.cn (.bool false)))
  .ret)))))))))))))))))))))))))))))))))))))))))))))))))))))))))))))))))))))))))))))))))))))))))))
def fc6 : Fc := ⟨123, s6, [(.vr 12)]⟩
theorem c6 : compF Try.prog 6 = some fc6 := by kernel_rfl

/-- kinora/kinoralaw31.small · parameters 1 · 0:r 1:r -/
def s7 : S :=
  (.op (some 1) (.box 23 (.tmp 0)) 0 [(0, (.vr 0))] []
  (.op (some 2) (.alloc 23) 0 [] []
  (.chk (.un (.fa 0) (.vr 1))
  (.chk (.ld (.un (.fa 0) (.vr 1)))
  (.set 4 (.ld (.un (.fa 0) (.vr 1)))
  (.chk (.bn (.bt .and .i64) (.vr 4) (.cn (.int .i64 7)))
  (.chk (.un (.fa 1) (.vr 1))
  (.chk (.ld (.un (.fa 1) (.vr 1)))
  (.set 8 (.ld (.un (.fa 1) (.vr 1)))
  (.chk (.bn (.bt .and .i64) (.vr 8) (.cn (.int .i64 15)))
  (.chk (.bd 1 1 (.bn (.ar .add .i64) (.cn (.int .i64 1)) (.bn (.bt .and .i64) (.vr 8) (.cn (.int .i64 15)))) (.bd 0 1 (.bn (.ar .add .i64) (.cn (.int .i64 1)) (.bn (.bt .and .i64) (.vr 4) (.cn (.int .i64 7)))) (.cn (.agg #[(.int .i64 0), (.int .i64 0)]))))
  (.st 2 (.vr 2) (.bd 1 1 (.bn (.ar .add .i64) (.cn (.int .i64 1)) (.bn (.bt .and .i64) (.vr 8) (.cn (.int .i64 15)))) (.bd 0 1 (.bn (.ar .add .i64) (.cn (.int .i64 1)) (.bn (.bt .and .i64) (.vr 4) (.cn (.int .i64 7)))) (.cn (.agg #[(.int .i64 0), (.int .i64 0)])))) []
  .ret))))))))))))
def fc7 : Fc := ⟨12, s7, [(.ldn 2 (.vr 2))]⟩
theorem c7 : compF Try.prog 7 = some fc7 := by kernel_rfl

/-- kinora/tick.Least · parameters 1 · 0:l 4:t 6:r 7:period 8:step -/
def s8 : S :=
  (.set 2 (.cn (.int .i64 0))
  (.set 3 (.cn (.bool false))
  (.chk (.un .ln (.vr 0))
  (.set 11 (.bn (.cm .eql .i64) (.un .ln (.vr 0)) (.cn (.int .i64 0)))
  (.ite (.vr 11)
    (.set 2 (.cn (.int .i64 0))
    (.set 3 (.cn (.bool false))
    .ret))
    .nil
  (.set 4 (.cn (.int .i64 1))
  (.set 12 (.vr 0)
  (.chk (.un .ln (.vr 12))
  (.set 13 (.un .ln (.vr 12))
  (.set 14 (.cn (.int .i64 0))
  (.blk 0
    (.loop
      (.chk (.bn (.cm .lss .i64) (.vr 14) (.vr 13))
      (.set 15 (.bn (.cm .lss .i64) (.vr 14) (.vr 13))
      (.ite (.vr 15)
        .nil
        (.exit 0)
      (.blk 1
        (.chk (.bn (.ia 2) (.vr 12) (.vr 14))
        (.chk (.ldn 2 (.bn (.ia 2) (.vr 12) (.vr 14)))
        (.set 17 (.ldn 2 (.bn (.ia 2) (.vr 12) (.vr 14)))
        (.op (some 6) (.alloc 23) 0 [] []
        (.st 2 (.vr 6) (.vr 17) []
        (.chk (.ldn 2 (.vr 6))
        (.set 18 (.ldn 2 (.vr 6))
        (.call (some 19) 16 [(.vr 18)] []
        (.chk (.un .not (.vr 19))
        (.set 20 (.un .not (.vr 19))
        (.ite (.vr 20)
          (.set 2 (.cn (.int .i64 0))
          (.set 3 (.cn (.bool false))
          .ret))
          .nil
        (.draw
        (.chk (.un (.fa 1) (.vr 6))
        (.chk (.ld (.un (.fa 1) (.vr 6)))
        (.set 22 (.ld (.un (.fa 1) (.vr 6)))
        (.chk (.un (.fa 0) (.vr 6))
        (.chk (.ld (.un (.fa 0) (.vr 6)))
        (.set 24 (.ld (.un (.fa 0) (.vr 6)))
        (.chk (.un (.fa 1) (.vr 6))
        (.chk (.ld (.un (.fa 1) (.vr 6)))
        (.set 26 (.ld (.un (.fa 1) (.vr 6)))
        (.call (some 27) 17 [(.vr 24), (.vr 26)] [⟨1, (.un (.fa 1) (.vr 6)), 1, none⟩]
        (.chk (.bn (.dv false .i64) (.vr 22) (.vr 27))
        (.set 7 (.bn (.dv false .i64) (.vr 22) (.vr 27))
        (.call (some 32) 17 [(.vr 4), (.vr 7)] []
        (.chk (.bn (.dv false .i64) (.vr 7) (.vr 32))
        (.set 8 (.bn (.dv false .i64) (.vr 7) (.vr 32))
        (.chk (.bn (.dv false .i64) (.cn (.int .i64 1125899906842624)) (.vr 8))
        (.chk (.bn (.cm .gtr .i64) (.vr 4) (.bn (.dv false .i64) (.cn (.int .i64 1125899906842624)) (.vr 8)))
        (.set 37 (.bn (.cm .gtr .i64) (.vr 4) (.bn (.dv false .i64) (.cn (.int .i64 1125899906842624)) (.vr 8)))
        (.ite (.vr 37)
          (.set 2 (.cn (.int .i64 0))
          (.set 3 (.cn (.bool false))
          .ret))
          .nil
        (.chk (.bn (.ar .mul .i64) (.vr 4) (.vr 8))
        (.set 4 (.bn (.ar .mul .i64) (.vr 4) (.vr 8))
        .nil)))))))))))))))))))))))))))))))))
      (.chk (.bn (.ar .add .i64) (.vr 14) (.cn (.int .i64 1)))
      (.set 14 (.bn (.ar .add .i64) (.vr 14) (.cn (.int .i64 1)))
      .nil)))))))
  (.set 2 (.vr 4)
  (.set 3 (.cn (.bool true))
  .ret)))))))))))))
def fc8 : Fc := ⟨43, s8, [(.vr 2), (.vr 3)]⟩
theorem c8 : compF Try.prog 8 = some fc8 := by kernel_rfl

/-- kinora/kinoraref35.TickLeast · parameters 1 · 0:l 4:t 5:i 6:d -/
def s9 : S :=
  (.set 2 (.cn (.int .i64 0))
  (.set 3 (.cn (.bool false))
  (.set 4 (.cn (.int .i64 1))
  (.set 5 (.cn (.int .i64 0))
  (.blk 0
    (.loop
      (.chk (.un .ln (.vr 0))
      (.chk (.bn (.cm .lss .i64) (.vr 5) (.un .ln (.vr 0)))
      (.set 10 (.bn (.cm .lss .i64) (.vr 5) (.un .ln (.vr 0)))
      (.ite (.vr 10)
        .nil
        (.exit 0)
      (.blk 1
        (.chk (.bn (.ia 2) (.vr 0) (.vr 5))
        (.chk (.ldn 2 (.bn (.ia 2) (.vr 0) (.vr 5)))
        (.set 16 (.ldn 2 (.bn (.ia 2) (.vr 0) (.vr 5)))
        (.call (some 17) 18 [(.vr 16)] []
        (.chk (.un .not (.vr 17))
        (.set 18 (.un .not (.vr 17))
        (.ite (.vr 18)
          (.set 2 (.cn (.int .i64 0))
          (.set 3 (.cn (.bool false))
          .ret))
          .nil
        (.draw
        (.chk (.bn (.ia 2) (.vr 0) (.vr 5))
        (.chk (.un (.fa 1) (.bn (.ia 2) (.vr 0) (.vr 5)))
        (.chk (.ld (.un (.fa 1) (.bn (.ia 2) (.vr 0) (.vr 5))))
        (.set 23 (.ld (.un (.fa 1) (.bn (.ia 2) (.vr 0) (.vr 5))))
        (.chk (.bn (.ia 2) (.vr 0) (.vr 5))
        (.chk (.un (.fa 0) (.bn (.ia 2) (.vr 0) (.vr 5)))
        (.chk (.ld (.un (.fa 0) (.bn (.ia 2) (.vr 0) (.vr 5))))
        (.set 28 (.ld (.un (.fa 0) (.bn (.ia 2) (.vr 0) (.vr 5))))
        (.chk (.bn (.ia 2) (.vr 0) (.vr 5))
        (.chk (.un (.fa 1) (.bn (.ia 2) (.vr 0) (.vr 5)))
        (.chk (.ld (.un (.fa 1) (.bn (.ia 2) (.vr 0) (.vr 5))))
        (.set 33 (.ld (.un (.fa 1) (.bn (.ia 2) (.vr 0) (.vr 5))))
        (.call (some 34) 19 [(.vr 28), (.vr 33)] [⟨4, (.un (.fa 1) (.bn (.ia 2) (.vr 0) (.vr 5))), 1, none⟩]
        (.chk (.bn (.dv false .i64) (.vr 23) (.vr 34))
        (.set 6 (.bn (.dv false .i64) (.vr 23) (.vr 34))
        (.call (some 39) 19 [(.vr 4), (.vr 6)] []
        (.chk (.bn (.dv false .i64) (.vr 6) (.vr 39))
        (.set 6 (.bn (.dv false .i64) (.vr 6) (.vr 39))
        (.chk (.bn (.dv false .i64) (.cn (.int .i64 1125899906842624)) (.vr 6))
        (.chk (.bn (.cm .gtr .i64) (.vr 4) (.bn (.dv false .i64) (.cn (.int .i64 1125899906842624)) (.vr 6)))
        (.set 44 (.bn (.cm .gtr .i64) (.vr 4) (.bn (.dv false .i64) (.cn (.int .i64 1125899906842624)) (.vr 6)))
        (.ite (.vr 44)
          (.set 2 (.cn (.int .i64 0))
          (.set 3 (.cn (.bool false))
          .ret))
          .nil
        (.chk (.bn (.ar .mul .i64) (.vr 4) (.vr 6))
        (.set 4 (.bn (.ar .mul .i64) (.vr 4) (.vr 6))
        .nil))))))))))))))))))))))))))))))))
      (.chk (.bn (.ar .add .i64) (.vr 5) (.cn (.int .i64 1)))
      (.set 5 (.bn (.ar .add .i64) (.vr 5) (.cn (.int .i64 1)))
      .nil))))))))
  (.chk (.un .ln (.vr 0))
  (.set 50 (.bn (.cm .eql .i64) (.un .ln (.vr 0)) (.cn (.int .i64 0)))
  (.ite (.vr 50)
    (.set 2 (.cn (.int .i64 0))
    (.set 3 (.cn (.bool false))
    .ret))
    .nil
  (.set 2 (.vr 4)
  (.set 3 (.cn (.bool true))
  .ret))))))))))
def fc9 : Fc := ⟨52, s9, [(.vr 2), (.vr 3)]⟩
theorem c9 : compF Try.prog 9 = some fc9 := by kernel_rfl

/-- kinora/kinoralaw31.tells · parameters 4 · 0:r 1:s 2:n 3:t 4:r 5:s 9:a 10:ok 11:b 12:is 13:c 14:in 15:d 16:was 17:e 18:f 19:has 20:g 21:h 22:had -/
def s10 : S :=
  (.op (some 4) (.box 23 (.tmp 0)) 0 [(0, (.vr 0))] []
  (.op (some 5) (.box 23 (.tmp 1)) 0 [(1, (.vr 1))] []
  (.set 8 (.cn (.bool false))
  (.chk (.ldn 2 (.vr 4))
  (.set 24 (.ldn 2 (.vr 4))
  (.call (some 26) 13 [(.vr 24), (.vr 2)] []
  (.chk (.un (.ex 0) (.vr 26))
  (.chk (.un (.ex 1) (.vr 26))
  (.set 9 (.un (.ex 0) (.vr 26))
  (.set 10 (.un (.ex 1) (.vr 26))
  (.chk (.ldn 2 (.vr 4))
  (.set 30 (.ldn 2 (.vr 4))
  (.call (some 32) 20 [(.vr 30), (.vr 2)] []
  (.chk (.un (.ex 0) (.vr 32))
  (.chk (.un (.ex 1) (.vr 32))
  (.set 11 (.un (.ex 0) (.vr 32))
  (.set 12 (.un (.ex 1) (.vr 32))
  (.chk (.ldn 2 (.vr 4))
  (.set 36 (.ldn 2 (.vr 4))
  (.call (some 38) 14 [(.vr 36), (.vr 3)] []
  (.chk (.un (.ex 0) (.vr 38))
  (.chk (.un (.ex 1) (.vr 38))
  (.set 13 (.un (.ex 0) (.vr 38))
  (.set 14 (.un (.ex 1) (.vr 38))
  (.chk (.ldn 2 (.vr 4))
  (.set 42 (.ldn 2 (.vr 4))
  (.call (some 44) 21 [(.vr 42), (.vr 3)] []
  (.chk (.un (.ex 0) (.vr 44))
  (.chk (.un (.ex 1) (.vr 44))
  (.set 15 (.un (.ex 0) (.vr 44))
  (.set 16 (.un (.ex 1) (.vr 44))
  (.chk (.ldn 2 (.vr 4))
  (.set 48 (.ldn 2 (.vr 4))
  (.call (some 51) 22 [(.vr 48), (.vr 2), (.vr 3)] []
  (.chk (.un (.ex 0) (.vr 51))
  (.chk (.un (.ex 1) (.vr 51))
  (.chk (.un (.ex 2) (.vr 51))
  (.set 17 (.un (.ex 0) (.vr 51))
  (.set 18 (.un (.ex 1) (.vr 51))
  (.set 19 (.un (.ex 2) (.vr 51))
  (.chk (.ldn 2 (.vr 4))
  (.set 56 (.ldn 2 (.vr 4))
  (.call (some 59) 23 [(.vr 56), (.vr 2), (.vr 3)] []
  (.chk (.un (.ex 0) (.vr 59))
  (.chk (.un (.ex 1) (.vr 59))
  (.chk (.un (.ex 2) (.vr 59))
  (.set 20 (.un (.ex 0) (.vr 59))
  (.set 21 (.un (.ex 1) (.vr 59))
  (.set 22 (.un (.ex 2) (.vr 59))
  (.draw
  (.chk (.bn (.cm .eql .i64) (.vr 9) (.vr 11))
  (.set 66 (.bn (.cm .eql .i64) (.vr 9) (.vr 11))
  (.chk (.gd (.vr 66) true (.bn (.eqb false) (.vr 10) (.vr 12)))
  (.chk (.and (.vr 66) (.bn (.eqb false) (.vr 10) (.vr 12)))
  (.set 71 (.and (.vr 66) (.bn (.eqb false) (.vr 10) (.vr 12)))
  (.chk (.gd (.vr 71) true (.bn (.cm .eql .i64) (.vr 13) (.vr 15)))
  (.chk (.and (.vr 71) (.bn (.cm .eql .i64) (.vr 13) (.vr 15)))
  (.set 76 (.and (.vr 71) (.bn (.cm .eql .i64) (.vr 13) (.vr 15)))
  (.chk (.gd (.vr 76) true (.bn (.eqb false) (.vr 14) (.vr 16)))
  (.chk (.and (.vr 76) (.bn (.eqb false) (.vr 14) (.vr 16)))
  (.set 81 (.and (.vr 76) (.bn (.eqb false) (.vr 14) (.vr 16)))
  (.chk (.gd (.vr 81) true (.bn (.cm .eql .i64) (.vr 17) (.vr 20)))
  (.chk (.and (.vr 81) (.bn (.cm .eql .i64) (.vr 17) (.vr 20)))
  (.set 86 (.and (.vr 81) (.bn (.cm .eql .i64) (.vr 17) (.vr 20)))
  (.chk (.gd (.vr 86) true (.bn (.cm .eql .i64) (.vr 18) (.vr 21)))
  (.chk (.and (.vr 86) (.bn (.cm .eql .i64) (.vr 18) (.vr 21)))
  (.set 91 (.and (.vr 86) (.bn (.cm .eql .i64) (.vr 18) (.vr 21)))
  (.chk (.gd (.vr 91) true (.bn (.eqb false) (.vr 19) (.vr 22)))
  (.chk (.and (.vr 91) (.bn (.eqb false) (.vr 19) (.vr 22)))
  (.set 96 (.and (.vr 91) (.bn (.eqb false) (.vr 19) (.vr 22)))
  (.chk (.gd (.vr 96) true (.ldn 2 (.vr 4)))
  (.set 97 (.gd (.vr 96) true (.ldn 2 (.vr 4)))
  (.chk (.gd (.vr 96) true (.ldn 2 (.vr 5)))
  (.set 99 (.gd (.vr 96) true (.ldn 2 (.vr 5)))
  (.chk (.gd (.vr 96) true (.ldn 2 (.vr 4)))
  (.set 102 (.gd (.vr 96) true (.ldn 2 (.vr 4)))
  (.chk (.gd (.vr 96) true (.ldn 2 (.vr 5)))
  (.set 104 (.gd (.vr 96) true (.ldn 2 (.vr 5)))
  (.ifg (.vr 96) true
    (.call (some 101) 15 [(.vr 97), (.vr 2), (.vr 99), (.vr 3)] [⟨41, (.vr 5), 2, (some ((.vr 96), true))⟩, ⟨39, (.vr 4), 2, (some ((.vr 96), true))⟩]
    .nil)
    (.set 101 (.cn undef)
    .nil)
  (.ifg (.vr 96) true
    (.call (some 106) 24 [(.vr 102), (.vr 2), (.vr 104), (.vr 3)] []
    .nil)
    (.set 106 (.cn undef)
    .nil)
  (.chk (.gd (.vr 96) true (.bn (.cm .eql .i64) (.vr 101) (.vr 106)))
  (.chk (.and (.vr 96) (.bn (.cm .eql .i64) (.vr 101) (.vr 106)))
  (.set 109 (.and (.vr 96) (.bn (.cm .eql .i64) (.vr 101) (.vr 106)))
  (.chk (.gd (.vr 109) true (.ldn 2 (.vr 4)))
  (.set 110 (.gd (.vr 109) true (.ldn 2 (.vr 4)))
  (.chk (.gd (.vr 109) true (.ldn 2 (.vr 4)))
  (.set 112 (.gd (.vr 109) true (.ldn 2 (.vr 4)))
  (.ifg (.vr 109) true
    (.call (some 111) 16 [(.vr 110)] [⟨49, (.vr 4), 2, (some ((.vr 109), true))⟩]
    .nil)
    (.set 111 (.cn undef)
    .nil)
  (.ifg (.vr 109) true
    (.call (some 113) 18 [(.vr 112)] []
    .nil)
    (.set 113 (.cn undef)
    .nil)
  (.chk (.gd (.vr 109) true (.bn (.eqb false) (.vr 111) (.vr 113)))
  (.chk (.and (.vr 109) (.bn (.eqb false) (.vr 111) (.vr 113)))
  (.set 8 (.and (.vr 109) (.bn (.eqb false) (.vr 111) (.vr 113)))
  .ret))))))))))))))))))))))))))))))))))))))))))))))))))))))))))))))))))))))))))))))))))))))))))))
def fc10 : Fc := ⟨116, s10, [(.vr 8)]⟩
theorem c10 : compF Try.prog 10 = some fc10 := by kernel_rfl

/-- kinora/kinoralaw31.rate · parameters 1 · 0:r 1:r -/
def s11 : S :=
  (.op (some 1) (.box 23 (.tmp 0)) 0 [(0, (.vr 0))] []
  (.op (some 2) (.alloc 23) 0 [] []
  (.chk (.un (.fa 0) (.vr 1))
  (.chk (.ld (.un (.fa 0) (.vr 1)))
  (.set 4 (.ld (.un (.fa 0) (.vr 1)))
  (.chk (.bn (.bt .and .i64) (.vr 4) (.cn (.int .i64 1048575)))
  (.chk (.un (.fa 1) (.vr 1))
  (.chk (.ld (.un (.fa 1) (.vr 1)))
  (.set 8 (.ld (.un (.fa 1) (.vr 1)))
  (.chk (.bn (.bt .and .i64) (.vr 8) (.cn (.int .i64 1048575)))
  (.chk (.bd 1 1 (.bn (.ar .add .i64) (.cn (.int .i64 1)) (.bn (.bt .and .i64) (.vr 8) (.cn (.int .i64 1048575)))) (.bd 0 1 (.bn (.ar .add .i64) (.cn (.int .i64 1)) (.bn (.bt .and .i64) (.vr 4) (.cn (.int .i64 1048575)))) (.cn (.agg #[(.int .i64 0), (.int .i64 0)]))))
  (.st 2 (.vr 2) (.bd 1 1 (.bn (.ar .add .i64) (.cn (.int .i64 1)) (.bn (.bt .and .i64) (.vr 8) (.cn (.int .i64 1048575)))) (.bd 0 1 (.bn (.ar .add .i64) (.cn (.int .i64 1)) (.bn (.bt .and .i64) (.vr 4) (.cn (.int .i64 1048575)))) (.cn (.agg #[(.int .i64 0), (.int .i64 0)])))) []
  .ret))))))))))))
def fc11 : Fc := ⟨12, s11, [(.ldn 2 (.vr 2))]⟩
theorem c11 : compF Try.prog 11 = some fc11 := by kernel_rfl

/-- kinora/kinoralaw31.known · parameters 0 · 1:r 2:a 3:ok 4:n 5:is 6:m 8:f 9:e 10:in 11:l 12:was -/
def s12 : S :=
  (.set 0 (.cn (.bool false))
  (.chk (.bd 1 1 (.cn (.int .i64 10)) (.bd 0 1 (.cn (.int .i64 3)) (.cn (.agg #[(.int .i64 0), (.int .i64 0)]))))
  (.op (some 1) (.alloc 23) 0 [] []
  (.st 2 (.vr 1) (.bd 1 1 (.cn (.int .i64 10)) (.bd 0 1 (.cn (.int .i64 3)) (.cn (.agg #[(.int .i64 0), (.int .i64 0)])))) []
  (.chk (.ldn 2 (.vr 1))
  (.set 15 (.ldn 2 (.vr 1))
  (.call (some 16) 13 [(.vr 15), (.cn (.int .i64 2))] []
  (.chk (.un (.ex 0) (.vr 16))
  (.chk (.un (.ex 1) (.vr 16))
  (.set 2 (.un (.ex 0) (.vr 16))
  (.set 3 (.un (.ex 1) (.vr 16))
  (.chk (.ldn 2 (.vr 1))
  (.set 20 (.ldn 2 (.vr 1))
  (.call (some 21) 14 [(.vr 20), (.cn (.int .i64 6))] []
  (.chk (.un (.ex 0) (.vr 21))
  (.chk (.un (.ex 1) (.vr 21))
  (.set 4 (.un (.ex 0) (.vr 21))
  (.set 5 (.un (.ex 1) (.vr 21))
  (.chk (.ldn 2 (.vr 1))
  (.set 25 (.ldn 2 (.vr 1))
  (.call (some 26) 14 [(.vr 25), (.cn (.int .i64 5))] []
  (.chk (.un (.ex 0) (.vr 26))
  (.chk (.un (.ex 1) (.vr 26))
  (.set 6 (.un (.ex 0) (.vr 26))
  (.chk (.ldn 2 (.vr 1))
  (.set 30 (.ldn 2 (.vr 1))
  (.call (some 31) 22 [(.vr 30), (.cn (.int .i64 3)), (.cn (.int .i64 10))] []
  (.chk (.un (.ex 0) (.vr 31))
  (.chk (.un (.ex 1) (.vr 31))
  (.chk (.un (.ex 2) (.vr 31))
  (.set 8 (.un (.ex 0) (.vr 31))
  (.set 9 (.un (.ex 1) (.vr 31))
  (.set 10 (.un (.ex 2) (.vr 31))
  (.chk (.bd 1 1 (.cn (.int .i64 10)) (.bd 0 1 (.cn (.int .i64 3)) (.cn (.agg #[(.int .i64 0), (.int .i64 0)]))))
  (.chk (.bd 1 1 (.cn (.int .i64 4)) (.bd 0 1 (.cn (.int .i64 2)) (.cn (.agg #[(.int .i64 0), (.int .i64 0)]))))
  (.op (some 38) (.buildSlice 24 2 #[(0, (.tmp 36)), (1, (.tmp 37))]) 24 [(36, (.bd 1 1 (.cn (.int .i64 10)) (.bd 0 1 (.cn (.int .i64 3)) (.cn (.agg #[(.int .i64 0), (.int .i64 0)]))))), (37, (.bd 1 1 (.cn (.int .i64 4)) (.bd 0 1 (.cn (.int .i64 2)) (.cn (.agg #[(.int .i64 0), (.int .i64 0)])))))] []
  (.call (some 39) 8 [(.vr 38)] []
  (.chk (.un (.ex 0) (.vr 39))
  (.chk (.un (.ex 1) (.vr 39))
  (.set 11 (.un (.ex 0) (.vr 39))
  (.set 12 (.un (.ex 1) (.vr 39))
  (.set 43 (.vr 3)
  (.chk (.gd (.vr 43) true (.bn (.cm .eql .i64) (.vr 2) (.cn (.int .i64 6))))
  (.chk (.and (.vr 43) (.bn (.cm .eql .i64) (.vr 2) (.cn (.int .i64 6))))
  (.set 47 (.and (.vr 43) (.bn (.cm .eql .i64) (.vr 2) (.cn (.int .i64 6))))
  (.chk (.pk (.vr 47) (.vr 5) (.cn (.bool false)))
  (.set 50 (.pk (.vr 47) (.vr 5) (.cn (.bool false)))
  (.chk (.gd (.vr 50) true (.bn (.cm .eql .i64) (.vr 4) (.cn (.int .i64 3))))
  (.chk (.and (.vr 50) (.bn (.cm .eql .i64) (.vr 4) (.cn (.int .i64 3))))
  (.set 54 (.and (.vr 50) (.bn (.cm .eql .i64) (.vr 4) (.cn (.int .i64 3))))
  (.chk (.gd (.vr 54) true (.bn (.cm .eql .i64) (.vr 6) (.cn (.int .i64 2))))
  (.chk (.and (.vr 54) (.bn (.cm .eql .i64) (.vr 6) (.cn (.int .i64 2))))
  (.set 58 (.and (.vr 54) (.bn (.cm .eql .i64) (.vr 6) (.cn (.int .i64 2))))
  (.chk (.pk (.vr 58) (.vr 10) (.cn (.bool false)))
  (.set 61 (.pk (.vr 58) (.vr 10) (.cn (.bool false)))
  (.chk (.gd (.vr 61) true (.bn (.cm .eql .i64) (.vr 8) (.cn (.int .i64 1))))
  (.chk (.and (.vr 61) (.bn (.cm .eql .i64) (.vr 8) (.cn (.int .i64 1))))
  (.set 65 (.and (.vr 61) (.bn (.cm .eql .i64) (.vr 8) (.cn (.int .i64 1))))
  (.chk (.gd (.vr 65) true (.bn (.cm .eql .i64) (.vr 9) (.cn (.int .i64 3))))
  (.chk (.and (.vr 65) (.bn (.cm .eql .i64) (.vr 9) (.cn (.int .i64 3))))
  (.set 69 (.and (.vr 65) (.bn (.cm .eql .i64) (.vr 9) (.cn (.int .i64 3))))
  (.chk (.pk (.vr 69) (.vr 12) (.cn (.bool false)))
  (.set 72 (.pk (.vr 69) (.vr 12) (.cn (.bool false)))
  (.chk (.gd (.vr 72) true (.bn (.cm .eql .i64) (.vr 11) (.cn (.int .i64 10))))
  (.chk (.and (.vr 72) (.bn (.cm .eql .i64) (.vr 11) (.cn (.int .i64 10))))
  (.set 76 (.and (.vr 72) (.bn (.cm .eql .i64) (.vr 11) (.cn (.int .i64 10))))
  (.chk (.gd (.vr 76) true (.ldn 2 (.vr 1)))
  (.set 77 (.gd (.vr 76) true (.ldn 2 (.vr 1)))
  (.chk (.gd (.vr 76) true (.bd 1 1 (.cn (.int .i64 1)) (.bd 0 1 (.cn (.int .i64 1)) (.cn (.agg #[(.int .i64 0), (.int .i64 0)])))))
  (.ifg (.vr 76) true
    (.call (some 79) 15 [(.vr 77), (.cn (.int .i64 3)), (.bd 1 1 (.cn (.int .i64 1)) (.bd 0 1 (.cn (.int .i64 1)) (.cn (.agg #[(.int .i64 0), (.int .i64 0)])))), (.cn (.int .i64 10))] []
    .nil)
    (.set 79 (.cn undef)
    .nil)
  (.chk (.gd (.vr 76) true (.bn (.cm .eql .i64) (.vr 79) (.cn (.int .i64 0))))
  (.chk (.and (.vr 76) (.bn (.cm .eql .i64) (.vr 79) (.cn (.int .i64 0))))
  (.set 82 (.and (.vr 76) (.bn (.cm .eql .i64) (.vr 79) (.cn (.int .i64 0))))
  (.chk (.gd (.vr 82) true (.ldn 2 (.vr 1)))
  (.set 83 (.gd (.vr 82) true (.ldn 2 (.vr 1)))
  (.chk (.gd (.vr 82) true (.bd 1 1 (.cn (.int .i64 1)) (.bd 0 1 (.cn (.int .i64 1)) (.cn (.agg #[(.int .i64 0), (.int .i64 0)])))))
  (.ifg (.vr 82) true
    (.call (some 85) 15 [(.vr 83), (.cn (.int .i64 1)), (.bd 1 1 (.cn (.int .i64 1)) (.bd 0 1 (.cn (.int .i64 1)) (.cn (.agg #[(.int .i64 0), (.int .i64 0)])))), (.cn (.int .i64 3))] []
    .nil)
    (.set 85 (.cn undef)
    .nil)
  (.chk (.gd (.vr 82) true (.bn (.cm .eql .i64) (.vr 85) (.cn (.int .i64 1))))
  (.chk (.and (.vr 82) (.bn (.cm .eql .i64) (.vr 85) (.cn (.int .i64 1))))
  (.set 0 (.and (.vr 82) (.bn (.cm .eql .i64) (.vr 85) (.cn (.int .i64 1))))
  .ret))))))))))))))))))))))))))))))))))))))))))))))))))))))))))))))))))))))))))))))))
def fc12 : Fc := ⟨88, s12, [(.vr 0)]⟩
theorem c12 : compF Try.prog 12 = some fc12 := by kernel_rfl

/-- kinora/tick.At · parameters 2 · 0:r 1:n 2:r 6:t -/
def s13 : S :=
  (.op (some 2) (.box 23 (.tmp 0)) 0 [(0, (.vr 0))] []
  (.set 4 (.cn (.int .i64 0))
  (.set 5 (.cn (.bool false))
  (.chk (.ldn 2 (.vr 2))
  (.set 7 (.ldn 2 (.vr 2))
  (.call (some 8) 16 [(.vr 7)] []
  (.chk (.un .not (.vr 8))
  (.set 10 (.un .not (.vr 8))
  (.ifg (.vr 10) false
    (.call (some 12) 25 [(.vr 1)] []
    .nil)
    (.set 12 (.cn undef)
    .nil)
  (.chk (.gd (.vr 10) false (.un .not (.vr 12)))
  (.chk (.or (.vr 10) (.un .not (.vr 12)))
  (.set 14 (.or (.vr 10) (.un .not (.vr 12)))
  (.ite (.vr 14)
    (.set 4 (.cn (.int .i64 0))
    (.set 5 (.cn (.bool false))
    .ret))
    .nil
  (.chk (.un (.fa 1) (.vr 2))
  (.chk (.ld (.un (.fa 1) (.vr 2)))
  (.chk (.bn (.ar .mul .i64) (.vr 1) (.ld (.un (.fa 1) (.vr 2))))
  (.chk (.un (.fa 0) (.vr 2))
  (.chk (.ld (.un (.fa 0) (.vr 2)))
  (.chk (.bn (.dv false .i64) (.bn (.ar .mul .i64) (.vr 1) (.ld (.un (.fa 1) (.vr 2)))) (.ld (.un (.fa 0) (.vr 2))))
  (.set 6 (.bn (.dv false .i64) (.bn (.ar .mul .i64) (.vr 1) (.ld (.un (.fa 1) (.vr 2)))) (.ld (.un (.fa 0) (.vr 2))))
  (.chk (.bn (.cm .gtr .i64) (.vr 6) (.cn (.int .i64 1125899906842624)))
  (.set 23 (.bn (.cm .gtr .i64) (.vr 6) (.cn (.int .i64 1125899906842624)))
  (.ite (.vr 23)
    (.set 4 (.cn (.int .i64 0))
    (.set 5 (.cn (.bool false))
    .ret))
    .nil
  (.set 4 (.vr 6)
  (.set 5 (.cn (.bool true))
  .ret)))))))))))))))))))))))))
def fc13 : Fc := ⟨25, s13, [(.vr 4), (.vr 5)]⟩
theorem c13 : compF Try.prog 13 = some fc13 := by kernel_rfl

/-- kinora/tick.Count · parameters 2 · 0:r 1:t 2:r -/
def s14 : S :=
  (.op (some 2) (.box 23 (.tmp 0)) 0 [(0, (.vr 0))] []
  (.set 4 (.cn (.int .i64 0))
  (.set 5 (.cn (.bool false))
  (.chk (.ldn 2 (.vr 2))
  (.set 6 (.ldn 2 (.vr 2))
  (.call (some 7) 16 [(.vr 6)] []
  (.chk (.un .not (.vr 7))
  (.set 9 (.un .not (.vr 7))
  (.ifg (.vr 9) false
    (.call (some 11) 25 [(.vr 1)] []
    .nil)
    (.set 11 (.cn undef)
    .nil)
  (.chk (.gd (.vr 9) false (.un .not (.vr 11)))
  (.chk (.or (.vr 9) (.un .not (.vr 11)))
  (.set 13 (.or (.vr 9) (.un .not (.vr 11)))
  (.ite (.vr 13)
    (.set 4 (.cn (.int .i64 0))
    (.set 5 (.cn (.bool false))
    .ret))
    .nil
  (.chk (.ldn 2 (.vr 2))
  (.set 14 (.ldn 2 (.vr 2))
  (.chk (.bn (.ar .add .i64) (.vr 1) (.cn (.int .i64 1)))
  (.call (some 17) 26 [(.vr 14), (.bn (.ar .add .i64) (.vr 1) (.cn (.int .i64 1)))] []
  (.set 4 (.vr 17)
  (.set 5 (.cn (.bool true))
  .ret)))))))))))))))))))
def fc14 : Fc := ⟨18, s14, [(.vr 4), (.vr 5)]⟩
theorem c14 : compF Try.prog 14 = some fc14 := by kernel_rfl

/-- kinora/tick.Cmp · parameters 4 · 0:a 1:n 2:b 3:m 4:a 6:b 9:highA 10:lowA 11:highB 12:lowB -/
def s15 : S :=
  (.op (some 4) (.box 23 (.tmp 0)) 0 [(0, (.vr 0))] []
  (.op (some 6) (.box 23 (.tmp 2)) 0 [(2, (.vr 2))] []
  (.set 8 (.cn (.int .i64 0))
  (.chk (.ldn 2 (.vr 4))
  (.set 13 (.ldn 2 (.vr 4))
  (.call (some 14) 16 [(.vr 13)] []
  (.chk (.un .not (.vr 14))
  (.set 16 (.un .not (.vr 14))
  (.chk (.gd (.vr 16) false (.ldn 2 (.vr 6)))
  (.set 17 (.gd (.vr 16) false (.ldn 2 (.vr 6)))
  (.ifg (.vr 16) false
    (.call (some 18) 16 [(.vr 17)] []
    .nil)
    (.set 18 (.cn undef)
    .nil)
  (.chk (.gd (.vr 16) false (.un .not (.vr 18)))
  (.chk (.or (.vr 16) (.un .not (.vr 18)))
  (.set 21 (.or (.vr 16) (.un .not (.vr 18)))
  (.ifg (.vr 21) false
    (.call (some 23) 25 [(.vr 1)] []
    .nil)
    (.set 23 (.cn undef)
    .nil)
  (.chk (.gd (.vr 21) false (.un .not (.vr 23)))
  (.chk (.or (.vr 21) (.un .not (.vr 23)))
  (.set 26 (.or (.vr 21) (.un .not (.vr 23)))
  (.ifg (.vr 26) false
    (.call (some 28) 25 [(.vr 3)] []
    .nil)
    (.set 28 (.cn undef)
    .nil)
  (.chk (.gd (.vr 26) false (.un .not (.vr 28)))
  (.chk (.or (.vr 26) (.un .not (.vr 28)))
  (.set 30 (.or (.vr 26) (.un .not (.vr 28)))
  (.ite (.vr 30)
    (.set 8 (.cn (.int .i64 0))
    .ret)
    .nil
  (.chk (.un (.fa 1) (.vr 4))
  (.chk (.ld (.un (.fa 1) (.vr 4)))
  (.set 34 (.ld (.un (.fa 1) (.vr 4)))
  (.chk (.bn (.ar .mul .i64) (.vr 1) (.vr 34))
  (.chk (.un (.fa 0) (.vr 6))
  (.chk (.ld (.un (.fa 0) (.vr 6)))
  (.set 38 (.ld (.un (.fa 0) (.vr 6)))
  (.chk (.un (.cv .u64) (.vr 38))
  (.call (some 40) 27 [(.un (.cv .u64) (.bn (.ar .mul .i64) (.vr 1) (.vr 34))), (.un (.cv .u64) (.vr 38))] []
  (.chk (.un (.ex 0) (.vr 40))
  (.chk (.un (.ex 1) (.vr 40))
  (.set 9 (.un (.ex 0) (.vr 40))
  (.set 10 (.un (.ex 1) (.vr 40))
  (.chk (.un (.fa 1) (.vr 6))
  (.chk (.ld (.un (.fa 1) (.vr 6)))
  (.set 46 (.ld (.un (.fa 1) (.vr 6)))
  (.chk (.bn (.ar .mul .i64) (.vr 3) (.vr 46))
  (.chk (.un (.fa 0) (.vr 4))
  (.chk (.ld (.un (.fa 0) (.vr 4)))
  (.set 50 (.ld (.un (.fa 0) (.vr 4)))
  (.chk (.un (.cv .u64) (.vr 50))
  (.call (some 52) 27 [(.un (.cv .u64) (.bn (.ar .mul .i64) (.vr 3) (.vr 46))), (.un (.cv .u64) (.vr 50))] []
  (.chk (.un (.ex 0) (.vr 52))
  (.chk (.un (.ex 1) (.vr 52))
  (.set 11 (.un (.ex 0) (.vr 52))
  (.set 12 (.un (.ex 1) (.vr 52))
  (.chk (.bn (.cm .neq .u64) (.vr 9) (.vr 11))
  (.set 57 (.bn (.cm .neq .u64) (.vr 9) (.vr 11))
  (.ite (.vr 57)
    (.call (some 60) 28 [(.vr 9), (.vr 11)] []
    (.set 8 (.vr 60)
    .ret))
    .nil
  (.call (some 63) 28 [(.vr 10), (.vr 12)] []
  (.set 8 (.vr 63)
  .ret))))))))))))))))))))))))))))))))))))))))))))))))))))))
def fc15 : Fc := ⟨64, s15, [(.vr 8)]⟩
theorem c15 : compF Try.prog 15 = some fc15 := by kernel_rfl

/-- kinora/tick.May · parameters 1 · 0:r 1:r -/
def s16 : S :=
  (.op (some 1) (.box 23 (.tmp 0)) 0 [(0, (.vr 0))] []
  (.set 2 (.cn (.bool false))
  (.chk (.un (.fa 0) (.vr 1))
  (.chk (.ld (.un (.fa 0) (.vr 1)))
  (.chk (.bn (.cm .geq .i64) (.ld (.un (.fa 0) (.vr 1))) (.cn (.int .i64 1)))
  (.chk (.gd (.bn (.cm .geq .i64) (.ld (.un (.fa 0) (.vr 1))) (.cn (.int .i64 1))) true (.un (.fa 0) (.vr 1)))
  (.chk (.gd (.bn (.cm .geq .i64) (.ld (.un (.fa 0) (.vr 1))) (.cn (.int .i64 1))) true (.ld (.un (.fa 0) (.vr 1))))
  (.chk (.gd (.bn (.cm .geq .i64) (.ld (.un (.fa 0) (.vr 1))) (.cn (.int .i64 1))) true (.bn (.cm .leq .i64) (.ld (.un (.fa 0) (.vr 1))) (.cn (.int .i64 1048576))))
  (.chk (.gd (.and (.bn (.cm .geq .i64) (.ld (.un (.fa 0) (.vr 1))) (.cn (.int .i64 1))) (.bn (.cm .leq .i64) (.ld (.un (.fa 0) (.vr 1))) (.cn (.int .i64 1048576)))) true (.un (.fa 1) (.vr 1)))
  (.chk (.gd (.and (.bn (.cm .geq .i64) (.ld (.un (.fa 0) (.vr 1))) (.cn (.int .i64 1))) (.bn (.cm .leq .i64) (.ld (.un (.fa 0) (.vr 1))) (.cn (.int .i64 1048576)))) true (.ld (.un (.fa 1) (.vr 1))))
  (.chk (.gd (.and (.bn (.cm .geq .i64) (.ld (.un (.fa 0) (.vr 1))) (.cn (.int .i64 1))) (.bn (.cm .leq .i64) (.ld (.un (.fa 0) (.vr 1))) (.cn (.int .i64 1048576)))) true (.bn (.cm .geq .i64) (.ld (.un (.fa 1) (.vr 1))) (.cn (.int .i64 1))))
  (.chk (.gd (.and (.and (.bn (.cm .geq .i64) (.ld (.un (.fa 0) (.vr 1))) (.cn (.int .i64 1))) (.bn (.cm .leq .i64) (.ld (.un (.fa 0) (.vr 1))) (.cn (.int .i64 1048576)))) (.bn (.cm .geq .i64) (.ld (.un (.fa 1) (.vr 1))) (.cn (.int .i64 1)))) true (.un (.fa 1) (.vr 1)))
  (.chk (.gd (.and (.and (.bn (.cm .geq .i64) (.ld (.un (.fa 0) (.vr 1))) (.cn (.int .i64 1))) (.bn (.cm .leq .i64) (.ld (.un (.fa 0) (.vr 1))) (.cn (.int .i64 1048576)))) (.bn (.cm .geq .i64) (.ld (.un (.fa 1) (.vr 1))) (.cn (.int .i64 1)))) true (.ld (.un (.fa 1) (.vr 1))))
  (.chk (.gd (.and (.and (.bn (.cm .geq .i64) (.ld (.un (.fa 0) (.vr 1))) (.cn (.int .i64 1))) (.bn (.cm .leq .i64) (.ld (.un (.fa 0) (.vr 1))) (.cn (.int .i64 1048576)))) (.bn (.cm .geq .i64) (.ld (.un (.fa 1) (.vr 1))) (.cn (.int .i64 1)))) true (.bn (.cm .leq .i64) (.ld (.un (.fa 1) (.vr 1))) (.cn (.int .i64 1048576))))
  (.set 2 (.and (.and (.and (.bn (.cm .geq .i64) (.ld (.un (.fa 0) (.vr 1))) (.cn (.int .i64 1))) (.bn (.cm .leq .i64) (.ld (.un (.fa 0) (.vr 1))) (.cn (.int .i64 1048576)))) (.bn (.cm .geq .i64) (.ld (.un (.fa 1) (.vr 1))) (.cn (.int .i64 1)))) (.bn (.cm .leq .i64) (.ld (.un (.fa 1) (.vr 1))) (.cn (.int .i64 1048576))))
  .ret)))))))))))))))
def fc16 : Fc := ⟨21, s16, [(.vr 2)]⟩
theorem c16 : compF Try.prog 16 = some fc16 := by kernel_rfl

/-- kinora/tick.common · parameters 2 · 0:a 1:b -/
def s17 : S :=
  (.set 4 (.cn (.int .i64 0))
  (.blk 0
    (.loop
      (.chk (.bn (.cm .neq .i64) (.vr 1) (.cn (.int .i64 0)))
      (.set 6 (.bn (.cm .neq .i64) (.vr 1) (.cn (.int .i64 0)))
      (.ite (.vr 6)
        .nil
        (.exit 0)
      (.blk 1
        (.draw
        (.chk (.bn (.dv true .i64) (.vr 0) (.vr 1))
        (.set 10 (.bn (.dv true .i64) (.vr 0) (.vr 1))
        (.set 0 (.vr 1)
        (.set 1 (.vr 10)
        .nil)))))
      .nil)))))
  (.set 4 (.vr 0)
  .ret)))
def fc17 : Fc := ⟨12, s17, [(.vr 4)]⟩
theorem c17 : compF Try.prog 17 = some fc17 := by kernel_rfl

/-- kinora/kinoraref35.TickMay · parameters 1 · 0:r 1:r -/
def s18 : S :=
  (.op (some 1) (.box 23 (.tmp 0)) 0 [(0, (.vr 0))] []
  (.set 2 (.cn (.bool false))
  (.chk (.un (.fa 0) (.vr 1))
  (.chk (.ld (.un (.fa 0) (.vr 1)))
  (.chk (.bn (.cm .geq .i64) (.ld (.un (.fa 0) (.vr 1))) (.cn (.int .i64 1)))
  (.chk (.gd (.bn (.cm .geq .i64) (.ld (.un (.fa 0) (.vr 1))) (.cn (.int .i64 1))) true (.un (.fa 0) (.vr 1)))
  (.chk (.gd (.bn (.cm .geq .i64) (.ld (.un (.fa 0) (.vr 1))) (.cn (.int .i64 1))) true (.ld (.un (.fa 0) (.vr 1))))
  (.chk (.gd (.bn (.cm .geq .i64) (.ld (.un (.fa 0) (.vr 1))) (.cn (.int .i64 1))) true (.bn (.cm .leq .i64) (.ld (.un (.fa 0) (.vr 1))) (.cn (.int .i64 1048576))))
  (.chk (.gd (.and (.bn (.cm .geq .i64) (.ld (.un (.fa 0) (.vr 1))) (.cn (.int .i64 1))) (.bn (.cm .leq .i64) (.ld (.un (.fa 0) (.vr 1))) (.cn (.int .i64 1048576)))) true (.un (.fa 1) (.vr 1)))
  (.chk (.gd (.and (.bn (.cm .geq .i64) (.ld (.un (.fa 0) (.vr 1))) (.cn (.int .i64 1))) (.bn (.cm .leq .i64) (.ld (.un (.fa 0) (.vr 1))) (.cn (.int .i64 1048576)))) true (.ld (.un (.fa 1) (.vr 1))))
  (.chk (.gd (.and (.bn (.cm .geq .i64) (.ld (.un (.fa 0) (.vr 1))) (.cn (.int .i64 1))) (.bn (.cm .leq .i64) (.ld (.un (.fa 0) (.vr 1))) (.cn (.int .i64 1048576)))) true (.bn (.cm .geq .i64) (.ld (.un (.fa 1) (.vr 1))) (.cn (.int .i64 1))))
  (.chk (.gd (.and (.and (.bn (.cm .geq .i64) (.ld (.un (.fa 0) (.vr 1))) (.cn (.int .i64 1))) (.bn (.cm .leq .i64) (.ld (.un (.fa 0) (.vr 1))) (.cn (.int .i64 1048576)))) (.bn (.cm .geq .i64) (.ld (.un (.fa 1) (.vr 1))) (.cn (.int .i64 1)))) true (.un (.fa 1) (.vr 1)))
  (.chk (.gd (.and (.and (.bn (.cm .geq .i64) (.ld (.un (.fa 0) (.vr 1))) (.cn (.int .i64 1))) (.bn (.cm .leq .i64) (.ld (.un (.fa 0) (.vr 1))) (.cn (.int .i64 1048576)))) (.bn (.cm .geq .i64) (.ld (.un (.fa 1) (.vr 1))) (.cn (.int .i64 1)))) true (.ld (.un (.fa 1) (.vr 1))))
  (.chk (.gd (.and (.and (.bn (.cm .geq .i64) (.ld (.un (.fa 0) (.vr 1))) (.cn (.int .i64 1))) (.bn (.cm .leq .i64) (.ld (.un (.fa 0) (.vr 1))) (.cn (.int .i64 1048576)))) (.bn (.cm .geq .i64) (.ld (.un (.fa 1) (.vr 1))) (.cn (.int .i64 1)))) true (.bn (.cm .leq .i64) (.ld (.un (.fa 1) (.vr 1))) (.cn (.int .i64 1048576))))
  (.set 2 (.and (.and (.and (.bn (.cm .geq .i64) (.ld (.un (.fa 0) (.vr 1))) (.cn (.int .i64 1))) (.bn (.cm .leq .i64) (.ld (.un (.fa 0) (.vr 1))) (.cn (.int .i64 1048576)))) (.bn (.cm .geq .i64) (.ld (.un (.fa 1) (.vr 1))) (.cn (.int .i64 1)))) (.bn (.cm .leq .i64) (.ld (.un (.fa 1) (.vr 1))) (.cn (.int .i64 1048576))))
  .ret)))))))))))))))
def fc18 : Fc := ⟨21, s18, [(.vr 2)]⟩
theorem c18 : compF Try.prog 18 = some fc18 := by kernel_rfl

/-- kinora/kinoraref35.shared · parameters 2 · 0:a 1:b -/
def s19 : S :=
  (.set 4 (.cn (.int .i64 0))
  (.blk 0
    (.loop
      (.chk (.bn (.cm .gtr .i64) (.vr 1) (.cn (.int .i64 0)))
      (.set 6 (.bn (.cm .gtr .i64) (.vr 1) (.cn (.int .i64 0)))
      (.ite (.vr 6)
        .nil
        (.exit 0)
      (.blk 1
        (.draw
        (.chk (.bn (.dv true .i64) (.vr 0) (.vr 1))
        (.set 10 (.bn (.dv true .i64) (.vr 0) (.vr 1))
        (.set 0 (.vr 1)
        (.set 1 (.vr 10)
        .nil)))))
      .nil)))))
  (.set 4 (.vr 0)
  .ret)))
def fc19 : Fc := ⟨12, s19, [(.vr 4)]⟩
theorem c19 : compF Try.prog 19 = some fc19 := by kernel_rfl

/-- kinora/kinoraref35.TickAt · parameters 2 · 0:r 1:n 2:r -/
def s20 : S :=
  (.op (some 2) (.box 23 (.tmp 0)) 0 [(0, (.vr 0))] []
  (.set 4 (.cn (.int .i64 0))
  (.set 5 (.cn (.bool false))
  (.chk (.ldn 2 (.vr 2))
  (.set 6 (.ldn 2 (.vr 2))
  (.call (some 7) 18 [(.vr 6)] []
  (.chk (.un .not (.vr 7))
  (.set 9 (.un .not (.vr 7))
  (.ifg (.vr 9) false
    (.call (some 11) 29 [(.vr 1)] []
    .nil)
    (.set 11 (.cn undef)
    .nil)
  (.chk (.gd (.vr 9) false (.un .not (.vr 11)))
  (.chk (.or (.vr 9) (.un .not (.vr 11)))
  (.set 14 (.or (.vr 9) (.un .not (.vr 11)))
  (.chk (.gd (.vr 14) false (.un (.fa 1) (.vr 2)))
  (.chk (.gd (.vr 14) false (.ld (.un (.fa 1) (.vr 2))))
  (.set 17 (.gd (.vr 14) false (.ld (.un (.fa 1) (.vr 2))))
  (.chk (.gd (.vr 14) false (.bn (.ar .mul .i64) (.vr 1) (.vr 17)))
  (.chk (.gd (.vr 14) false (.un (.fa 0) (.vr 2)))
  (.chk (.gd (.vr 14) false (.ld (.un (.fa 0) (.vr 2))))
  (.set 20 (.gd (.vr 14) false (.ld (.un (.fa 0) (.vr 2))))
  (.chk (.gd (.vr 14) false (.bn (.dv false .i64) (.bn (.ar .mul .i64) (.vr 1) (.vr 17)) (.vr 20)))
  (.chk (.or (.vr 14) (.bn (.cm .gtr .i64) (.bn (.dv false .i64) (.bn (.ar .mul .i64) (.vr 1) (.vr 17)) (.vr 20)) (.cn (.int .i64 1125899906842624))))
  (.set 23 (.or (.vr 14) (.bn (.cm .gtr .i64) (.bn (.dv false .i64) (.bn (.ar .mul .i64) (.vr 1) (.vr 17)) (.vr 20)) (.cn (.int .i64 1125899906842624))))
  (.ite (.vr 23)
    (.set 4 (.cn (.int .i64 0))
    (.set 5 (.cn (.bool false))
    .ret))
    .nil
  (.chk (.un (.fa 1) (.vr 2))
  (.chk (.ld (.un (.fa 1) (.vr 2)))
  (.chk (.bn (.ar .mul .i64) (.vr 1) (.ld (.un (.fa 1) (.vr 2))))
  (.chk (.un (.fa 0) (.vr 2))
  (.chk (.ld (.un (.fa 0) (.vr 2)))
  (.chk (.bn (.dv false .i64) (.bn (.ar .mul .i64) (.vr 1) (.ld (.un (.fa 1) (.vr 2)))) (.ld (.un (.fa 0) (.vr 2))))
  (.set 4 (.bn (.dv false .i64) (.bn (.ar .mul .i64) (.vr 1) (.ld (.un (.fa 1) (.vr 2)))) (.ld (.un (.fa 0) (.vr 2))))
  (.set 5 (.cn (.bool true))
  .ret)))))))))))))))))))))))))))))))
def fc20 : Fc := ⟨31, s20, [(.vr 4), (.vr 5)]⟩
theorem c20 : compF Try.prog 20 = some fc20 := by kernel_rfl

/-- kinora/kinoraref35.TickCount · parameters 2 · 0:r 1:t 2:r -/
def s21 : S :=
  (.op (some 2) (.box 23 (.tmp 0)) 0 [(0, (.vr 0))] []
  (.set 4 (.cn (.int .i64 0))
  (.set 5 (.cn (.bool false))
  (.chk (.ldn 2 (.vr 2))
  (.set 6 (.ldn 2 (.vr 2))
  (.call (some 7) 18 [(.vr 6)] []
  (.chk (.un .not (.vr 7))
  (.set 9 (.un .not (.vr 7))
  (.ifg (.vr 9) false
    (.call (some 11) 29 [(.vr 1)] []
    .nil)
    (.set 11 (.cn undef)
    .nil)
  (.chk (.gd (.vr 9) false (.un .not (.vr 11)))
  (.chk (.or (.vr 9) (.un .not (.vr 11)))
  (.set 13 (.or (.vr 9) (.un .not (.vr 11)))
  (.ite (.vr 13)
    (.set 4 (.cn (.int .i64 0))
    (.set 5 (.cn (.bool false))
    .ret))
    .nil
  (.chk (.bn (.ar .add .i64) (.vr 1) (.cn (.int .i64 1)))
  (.chk (.un (.fa 0) (.vr 2))
  (.chk (.ld (.un (.fa 0) (.vr 2)))
  (.chk (.bn (.ar .mul .i64) (.bn (.ar .add .i64) (.vr 1) (.cn (.int .i64 1))) (.ld (.un (.fa 0) (.vr 2))))
  (.chk (.un (.fa 1) (.vr 2))
  (.chk (.ld (.un (.fa 1) (.vr 2)))
  (.chk (.bn (.dv false .i64) (.bn (.ar .sub .i64) (.bn (.ar .mul .i64) (.bn (.ar .add .i64) (.vr 1) (.cn (.int .i64 1))) (.ld (.un (.fa 0) (.vr 2)))) (.cn (.int .i64 1))) (.ld (.un (.fa 1) (.vr 2))))
  (.set 4 (.bn (.ar .add .i64) (.bn (.dv false .i64) (.bn (.ar .sub .i64) (.bn (.ar .mul .i64) (.bn (.ar .add .i64) (.vr 1) (.cn (.int .i64 1))) (.ld (.un (.fa 0) (.vr 2)))) (.cn (.int .i64 1))) (.ld (.un (.fa 1) (.vr 2)))) (.cn (.int .i64 1)))
  (.set 5 (.cn (.bool true))
  .ret))))))))))))))))))))))
def fc21 : Fc := ⟨24, s21, [(.vr 4), (.vr 5)]⟩
theorem c21 : compF Try.prog 21 = some fc21 := by kernel_rfl

/-- kinora/tick.Within · parameters 3 · 0:r 1:from 2:to 3:r 6:first 7:end 8:ok -/
def s22 : S :=
  (.op (some 3) (.box 23 (.tmp 0)) 0 [(0, (.vr 0))] []
  (.set 6 (.cn (.int .i64 0))
  (.set 7 (.cn (.int .i64 0))
  (.set 8 (.cn (.bool false))
  (.chk (.ldn 2 (.vr 3))
  (.set 9 (.ldn 2 (.vr 3))
  (.call (some 10) 16 [(.vr 9)] []
  (.chk (.un .not (.vr 10))
  (.set 12 (.un .not (.vr 10))
  (.ifg (.vr 12) false
    (.call (some 14) 25 [(.vr 1)] []
    .nil)
    (.set 14 (.cn undef)
    .nil)
  (.chk (.gd (.vr 12) false (.un .not (.vr 14)))
  (.chk (.or (.vr 12) (.un .not (.vr 14)))
  (.set 17 (.or (.vr 12) (.un .not (.vr 14)))
  (.ifg (.vr 17) false
    (.call (some 19) 25 [(.vr 2)] []
    .nil)
    (.set 19 (.cn undef)
    .nil)
  (.chk (.gd (.vr 17) false (.un .not (.vr 19)))
  (.chk (.or (.vr 17) (.un .not (.vr 19)))
  (.set 22 (.or (.vr 17) (.un .not (.vr 19)))
  (.chk (.gd (.vr 22) false (.bn (.cm .gtr .i64) (.vr 1) (.vr 2)))
  (.chk (.or (.vr 22) (.bn (.cm .gtr .i64) (.vr 1) (.vr 2)))
  (.set 26 (.or (.vr 22) (.bn (.cm .gtr .i64) (.vr 1) (.vr 2)))
  (.ite (.vr 26)
    (.set 6 (.cn (.int .i64 0))
    (.set 7 (.cn (.int .i64 0))
    (.set 8 (.cn (.bool false))
    .ret)))
    .nil
  (.draw
  (.chk (.ldn 2 (.vr 3))
  (.set 27 (.ldn 2 (.vr 3))
  (.chk (.ldn 2 (.vr 3))
  (.set 30 (.ldn 2 (.vr 3))
  (.call (some 29) 26 [(.vr 27), (.vr 1)] [⟨3, (.vr 3), 2, none⟩]
  (.call (some 32) 26 [(.vr 30), (.vr 2)] []
  (.set 6 (.vr 29)
  (.set 7 (.vr 32)
  (.set 8 (.cn (.bool true))
  .ret)))))))))))))))))))))))))))))))
def fc22 : Fc := ⟨33, s22, [(.vr 6), (.vr 7), (.vr 8)]⟩
theorem c22 : compF Try.prog 22 = some fc22 := by kernel_rfl

/-- kinora/kinoraref35.TickWithin · parameters 3 · 0:r 1:from 2:to 3:r -/
def s23 : S :=
  (.op (some 3) (.box 23 (.tmp 0)) 0 [(0, (.vr 0))] []
  (.set 6 (.cn (.int .i64 0))
  (.set 7 (.cn (.int .i64 0))
  (.set 8 (.cn (.bool false))
  (.chk (.ldn 2 (.vr 3))
  (.set 9 (.ldn 2 (.vr 3))
  (.call (some 10) 18 [(.vr 9)] []
  (.chk (.un .not (.vr 10))
  (.set 12 (.un .not (.vr 10))
  (.ifg (.vr 12) false
    (.call (some 14) 29 [(.vr 1)] []
    .nil)
    (.set 14 (.cn undef)
    .nil)
  (.chk (.gd (.vr 12) false (.un .not (.vr 14)))
  (.chk (.or (.vr 12) (.un .not (.vr 14)))
  (.set 17 (.or (.vr 12) (.un .not (.vr 14)))
  (.ifg (.vr 17) false
    (.call (some 19) 29 [(.vr 2)] []
    .nil)
    (.set 19 (.cn undef)
    .nil)
  (.chk (.gd (.vr 17) false (.un .not (.vr 19)))
  (.chk (.or (.vr 17) (.un .not (.vr 19)))
  (.set 22 (.or (.vr 17) (.un .not (.vr 19)))
  (.chk (.gd (.vr 22) false (.bn (.cm .gtr .i64) (.vr 1) (.vr 2)))
  (.chk (.or (.vr 22) (.bn (.cm .gtr .i64) (.vr 1) (.vr 2)))
  (.set 26 (.or (.vr 22) (.bn (.cm .gtr .i64) (.vr 1) (.vr 2)))
  (.ite (.vr 26)
    (.set 6 (.cn (.int .i64 0))
    (.set 7 (.cn (.int .i64 0))
    (.set 8 (.cn (.bool false))
    .ret)))
    .nil
  (.draw
  (.chk (.ldn 2 (.vr 3))
  (.set 27 (.ldn 2 (.vr 3))
  (.chk (.ldn 2 (.vr 3))
  (.set 30 (.ldn 2 (.vr 3))
  (.call (some 29) 30 [(.vr 27), (.vr 1)] [⟨3, (.vr 3), 2, none⟩]
  (.call (some 32) 30 [(.vr 30), (.vr 2)] []
  (.set 6 (.vr 29)
  (.set 7 (.vr 32)
  (.set 8 (.cn (.bool true))
  .ret)))))))))))))))))))))))))))))))
def fc23 : Fc := ⟨33, s23, [(.vr 6), (.vr 7), (.vr 8)]⟩
theorem c23 : compF Try.prog 23 = some fc23 := by kernel_rfl

/-- kinora/kinoraref35.TickCmp · parameters 4 · 0:a 1:n 2:b 3:m 4:a 6:b 9:x 10:y -/
def s24 : S :=
  (.op (some 4) (.box 23 (.tmp 0)) 0 [(0, (.vr 0))] []
  (.op (some 6) (.box 23 (.tmp 2)) 0 [(2, (.vr 2))] []
  (.set 8 (.cn (.int .i64 0))
  (.chk (.ldn 2 (.vr 4))
  (.set 11 (.ldn 2 (.vr 4))
  (.call (some 12) 18 [(.vr 11)] []
  (.chk (.un .not (.vr 12))
  (.set 14 (.un .not (.vr 12))
  (.chk (.gd (.vr 14) false (.ldn 2 (.vr 6)))
  (.set 15 (.gd (.vr 14) false (.ldn 2 (.vr 6)))
  (.ifg (.vr 14) false
    (.call (some 16) 18 [(.vr 15)] []
    .nil)
    (.set 16 (.cn undef)
    .nil)
  (.chk (.gd (.vr 14) false (.un .not (.vr 16)))
  (.chk (.or (.vr 14) (.un .not (.vr 16)))
  (.set 19 (.or (.vr 14) (.un .not (.vr 16)))
  (.ifg (.vr 19) false
    (.call (some 21) 29 [(.vr 1)] []
    .nil)
    (.set 21 (.cn undef)
    .nil)
  (.chk (.gd (.vr 19) false (.un .not (.vr 21)))
  (.chk (.or (.vr 19) (.un .not (.vr 21)))
  (.set 24 (.or (.vr 19) (.un .not (.vr 21)))
  (.ifg (.vr 24) false
    (.call (some 26) 29 [(.vr 3)] []
    .nil)
    (.set 26 (.cn undef)
    .nil)
  (.chk (.gd (.vr 24) false (.un .not (.vr 26)))
  (.chk (.or (.vr 24) (.un .not (.vr 26)))
  (.set 28 (.or (.vr 24) (.un .not (.vr 26)))
  (.ite (.vr 28)
    (.set 8 (.cn (.int .i64 0))
    .ret)
    .nil
  (.draw
  (.chk (.un (.fa 1) (.vr 4))
  (.chk (.ld (.un (.fa 1) (.vr 4)))
  (.chk (.bn (.ar .mul .i64) (.vr 1) (.ld (.un (.fa 1) (.vr 4))))
  (.chk (.un (.fa 1) (.vr 6))
  (.chk (.ld (.un (.fa 1) (.vr 6)))
  (.chk (.bn (.ar .mul .i64) (.vr 3) (.ld (.un (.fa 1) (.vr 6))))
  (.set 9 (.bn (.ar .mul .i64) (.vr 1) (.ld (.un (.fa 1) (.vr 4))))
  (.set 10 (.bn (.ar .mul .i64) (.vr 3) (.ld (.un (.fa 1) (.vr 6))))
  (.draw
  (.chk (.un (.fa 0) (.vr 4))
  (.chk (.ld (.un (.fa 0) (.vr 4)))
  (.chk (.bn (.dv false .i64) (.vr 9) (.ld (.un (.fa 0) (.vr 4))))
  (.chk (.un (.fa 0) (.vr 6))
  (.chk (.ld (.un (.fa 0) (.vr 6)))
  (.chk (.bn (.dv false .i64) (.vr 10) (.ld (.un (.fa 0) (.vr 6))))
  (.set 45 (.bn (.cm .neq .i64) (.bn (.dv false .i64) (.vr 9) (.ld (.un (.fa 0) (.vr 4)))) (.bn (.dv false .i64) (.vr 10) (.ld (.un (.fa 0) (.vr 6)))))
  (.ite (.vr 45)
    (.draw
    (.chk (.un (.fa 0) (.vr 4))
    (.chk (.ld (.un (.fa 0) (.vr 4)))
    (.set 48 (.ld (.un (.fa 0) (.vr 4)))
    (.chk (.bn (.dv false .i64) (.vr 9) (.vr 48))
    (.chk (.un (.fa 0) (.vr 6))
    (.chk (.ld (.un (.fa 0) (.vr 6)))
    (.set 52 (.ld (.un (.fa 0) (.vr 6)))
    (.chk (.bn (.dv false .i64) (.vr 10) (.vr 52))
    (.call (some 54) 31 [(.bn (.dv false .i64) (.vr 9) (.vr 48)), (.bn (.dv false .i64) (.vr 10) (.vr 52))] []
    (.set 8 (.vr 54)
    .ret)))))))))))
    .nil
  (.draw
  (.chk (.un (.fa 0) (.vr 4))
  (.chk (.ld (.un (.fa 0) (.vr 4)))
  (.set 57 (.ld (.un (.fa 0) (.vr 4)))
  (.chk (.bn (.dv true .i64) (.vr 9) (.vr 57))
  (.chk (.un (.fa 0) (.vr 6))
  (.chk (.ld (.un (.fa 0) (.vr 6)))
  (.set 60 (.ld (.un (.fa 0) (.vr 6)))
  (.chk (.bn (.ar .mul .i64) (.bn (.dv true .i64) (.vr 9) (.vr 57)) (.vr 60))
  (.chk (.un (.fa 0) (.vr 6))
  (.chk (.ld (.un (.fa 0) (.vr 6)))
  (.set 64 (.ld (.un (.fa 0) (.vr 6)))
  (.chk (.bn (.dv true .i64) (.vr 10) (.vr 64))
  (.chk (.un (.fa 0) (.vr 4))
  (.chk (.ld (.un (.fa 0) (.vr 4)))
  (.set 67 (.ld (.un (.fa 0) (.vr 4)))
  (.chk (.bn (.ar .mul .i64) (.bn (.dv true .i64) (.vr 10) (.vr 64)) (.vr 67))
  (.call (some 69) 31 [(.bn (.ar .mul .i64) (.bn (.dv true .i64) (.vr 9) (.vr 57)) (.vr 60)), (.bn (.ar .mul .i64) (.bn (.dv true .i64) (.vr 10) (.vr 64)) (.vr 67))] []
  (.set 8 (.vr 69)
  .ret))))))))))))))))))))))))))))))))))))))))))))))))))))))))))))
def fc24 : Fc := ⟨70, s24, [(.vr 8)]⟩
theorem c24 : compF Try.prog 24 = some fc24 := by kernel_rfl

/-- kinora/tick.isCount · parameters 1 · 0:n -/
def s25 : S :=
  (.set 2 (.cn (.bool false))
  (.chk (.bn (.cm .geq .i64) (.vr 0) (.cn (.int .i64 0)))
  (.chk (.gd (.bn (.cm .geq .i64) (.vr 0) (.cn (.int .i64 0))) true (.bn (.cm .leq .i64) (.vr 0) (.cn (.int .i64 1099511627776))))
  (.set 2 (.and (.bn (.cm .geq .i64) (.vr 0) (.cn (.int .i64 0))) (.bn (.cm .leq .i64) (.vr 0) (.cn (.int .i64 1099511627776))))
  .ret))))
def fc25 : Fc := ⟨9, s25, [(.vr 2)]⟩
theorem c25 : compF Try.prog 25 = some fc25 := by kernel_rfl

/-- kinora/tick.reach · parameters 2 · 0:r 1:t 2:r -/
def s26 : S :=
  (.op (some 2) (.box 23 (.tmp 0)) 0 [(0, (.vr 0))] []
  (.set 4 (.cn (.int .i64 0))
  (.chk (.un (.fa 0) (.vr 2))
  (.chk (.ld (.un (.fa 0) (.vr 2)))
  (.chk (.bn (.ar .mul .i64) (.vr 1) (.ld (.un (.fa 0) (.vr 2))))
  (.chk (.un (.fa 1) (.vr 2))
  (.chk (.ld (.un (.fa 1) (.vr 2)))
  (.chk (.bn (.ar .add .i64) (.bn (.ar .mul .i64) (.vr 1) (.ld (.un (.fa 0) (.vr 2)))) (.ld (.un (.fa 1) (.vr 2))))
  (.chk (.un (.fa 1) (.vr 2))
  (.chk (.ld (.un (.fa 1) (.vr 2)))
  (.chk (.bn (.dv false .i64) (.bn (.ar .sub .i64) (.bn (.ar .add .i64) (.bn (.ar .mul .i64) (.vr 1) (.ld (.un (.fa 0) (.vr 2)))) (.ld (.un (.fa 1) (.vr 2)))) (.cn (.int .i64 1))) (.ld (.un (.fa 1) (.vr 2))))
  (.set 4 (.bn (.dv false .i64) (.bn (.ar .sub .i64) (.bn (.ar .add .i64) (.bn (.ar .mul .i64) (.vr 1) (.ld (.un (.fa 0) (.vr 2)))) (.ld (.un (.fa 1) (.vr 2)))) (.cn (.int .i64 1))) (.ld (.un (.fa 1) (.vr 2))))
  .ret))))))))))))
def fc26 : Fc := ⟨16, s26, [(.vr 4)]⟩
theorem c26 : compF Try.prog 26 = some fc26 := by kernel_rfl

/-- math/bits.Mul64 · parameters 2 · 0:x 1:y 4:hi 5:lo 6:x0 7:x1 8:y0 9:y1 10:w0 11:t 12:w1 13:w2 -/
def s27 : S :=
  (.set 4 (.cn (.int .u64 0))
  (.set 5 (.cn (.int .u64 0))
  (.chk (.bn (.bt .and .u64) (.vr 0) (.cn (.int .u64 4294967295)))
  (.set 6 (.bn (.bt .and .u64) (.vr 0) (.cn (.int .u64 4294967295)))
  (.chk (.bn (.sh false .u64) (.vr 0) (.cn (.int .u64 32)))
  (.set 7 (.bn (.sh false .u64) (.vr 0) (.cn (.int .u64 32)))
  (.chk (.bn (.bt .and .u64) (.vr 1) (.cn (.int .u64 4294967295)))
  (.set 8 (.bn (.bt .and .u64) (.vr 1) (.cn (.int .u64 4294967295)))
  (.chk (.bn (.sh false .u64) (.vr 1) (.cn (.int .u64 32)))
  (.set 9 (.bn (.sh false .u64) (.vr 1) (.cn (.int .u64 32)))
  (.chk (.bn (.ar .mul .u64) (.vr 6) (.vr 8))
  (.set 10 (.bn (.ar .mul .u64) (.vr 6) (.vr 8))
  (.chk (.bn (.ar .mul .u64) (.vr 7) (.vr 8))
  (.chk (.bn (.sh false .u64) (.vr 10) (.cn (.int .u64 32)))
  (.set 11 (.bn (.ar .add .u64) (.bn (.ar .mul .u64) (.vr 7) (.vr 8)) (.bn (.sh false .u64) (.vr 10) (.cn (.int .u64 32))))
  (.chk (.bn (.bt .and .u64) (.vr 11) (.cn (.int .u64 4294967295)))
  (.set 12 (.bn (.bt .and .u64) (.vr 11) (.cn (.int .u64 4294967295)))
  (.chk (.bn (.sh false .u64) (.vr 11) (.cn (.int .u64 32)))
  (.set 13 (.bn (.sh false .u64) (.vr 11) (.cn (.int .u64 32)))
  (.chk (.bn (.ar .mul .u64) (.vr 6) (.vr 9))
  (.chk (.bn (.ar .add .u64) (.vr 12) (.bn (.ar .mul .u64) (.vr 6) (.vr 9)))
  (.set 12 (.bn (.ar .add .u64) (.vr 12) (.bn (.ar .mul .u64) (.vr 6) (.vr 9)))
  (.chk (.bn (.ar .mul .u64) (.vr 7) (.vr 9))
  (.chk (.bn (.ar .add .u64) (.bn (.ar .mul .u64) (.vr 7) (.vr 9)) (.vr 13))
  (.chk (.bn (.sh false .u64) (.vr 12) (.cn (.int .u64 32)))
  (.set 4 (.bn (.ar .add .u64) (.bn (.ar .add .u64) (.bn (.ar .mul .u64) (.vr 7) (.vr 9)) (.vr 13)) (.bn (.sh false .u64) (.vr 12) (.cn (.int .u64 32))))
  (.chk (.bn (.ar .mul .u64) (.vr 0) (.vr 1))
  (.set 5 (.bn (.ar .mul .u64) (.vr 0) (.vr 1))
  .ret))))))))))))))))))))))))))))
def fc27 : Fc := ⟨51, s27, [(.vr 4), (.vr 5)]⟩
theorem c27 : compF Try.prog 27 = some fc27 := by kernel_rfl

/-- cmp.Compare[uint64] · parameters 2 · 0:x 1:y 5:xNaN 6:yNaN -/
def s28 : S :=
  (.set 4 (.cn (.int .i64 0))
  (.call (some 8) 32 [(.vr 0)] []
  (.set 5 (.vr 8)
  (.call (some 10) 32 [(.vr 1)] []
  (.set 6 (.vr 10)
  (.set 11 (.vr 5)
  (.ite (.vr 11)
    (.set 12 (.vr 6)
    (.ite (.vr 12)
      (.set 4 (.cn (.int .i64 0))
      .ret)
      .nil
    (.set 4 (.cn (.int .i64 (-1)))
    .ret)))
    .nil
  (.set 13 (.vr 6)
  (.ite (.vr 13)
    (.set 4 (.cn (.int .i64 1))
    .ret)
    .nil
  (.chk (.bn (.cm .lss .u64) (.vr 0) (.vr 1))
  (.set 16 (.bn (.cm .lss .u64) (.vr 0) (.vr 1))
  (.ite (.vr 16)
    (.set 4 (.cn (.int .i64 (-1)))
    .ret)
    .nil
  (.chk (.bn (.cm .gtr .u64) (.vr 0) (.vr 1))
  (.set 19 (.bn (.cm .gtr .u64) (.vr 0) (.vr 1))
  (.ite (.vr 19)
    (.set 4 (.cn (.int .i64 1))
    .ret)
    .nil
  (.set 4 (.cn (.int .i64 0))
  .ret))))))))))))))))
def fc28 : Fc := ⟨20, s28, [(.vr 4)]⟩
theorem c28 : compF Try.prog 28 = some fc28 := by kernel_rfl

/-- kinora/kinoraref35.counted · parameters 1 · 0:n -/
def s29 : S :=
  (.set 2 (.cn (.bool false))
  (.chk (.bn (.cm .geq .i64) (.vr 0) (.cn (.int .i64 0)))
  (.chk (.gd (.bn (.cm .geq .i64) (.vr 0) (.cn (.int .i64 0))) true (.bn (.cm .leq .i64) (.vr 0) (.cn (.int .i64 1099511627776))))
  (.set 2 (.and (.bn (.cm .geq .i64) (.vr 0) (.cn (.int .i64 0))) (.bn (.cm .leq .i64) (.vr 0) (.cn (.int .i64 1099511627776))))
  .ret))))
def fc29 : Fc := ⟨9, s29, [(.vr 2)]⟩
theorem c29 : compF Try.prog 29 = some fc29 := by kernel_rfl

/-- kinora/kinoraref35.ahead · parameters 2 · 0:r 1:t 2:r 5:n -/
def s30 : S :=
  (.op (some 2) (.box 23 (.tmp 0)) 0 [(0, (.vr 0))] []
  (.set 4 (.cn (.int .i64 0))
  (.chk (.ldn 2 (.vr 2))
  (.set 8 (.ldn 2 (.vr 2))
  (.chk (.bn (.ar .sub .i64) (.vr 1) (.cn (.int .i64 1)))
  (.call (some 11) 21 [(.vr 8), (.bn (.ar .sub .i64) (.vr 1) (.cn (.int .i64 1)))] []
  (.chk (.un (.ex 0) (.vr 11))
  (.chk (.un (.ex 1) (.vr 11))
  (.set 5 (.un (.ex 0) (.vr 11))
  (.set 4 (.vr 5)
  .ret))))))))))
def fc30 : Fc := ⟨15, s30, [(.vr 4)]⟩
theorem c30 : compF Try.prog 30 = some fc30 := by kernel_rfl

/-- kinora/kinoraref35.sign · parameters 2 · 0:a 1:b -/
def s31 : S :=
  (.set 4 (.cn (.int .i64 0))
  (.blk 0
    (.chk (.bn (.cm .lss .i64) (.vr 0) (.vr 1))
    (.set 5 (.bn (.cm .lss .i64) (.vr 0) (.vr 1))
    (.ite (.vr 5)
      (.set 4 (.cn (.int .i64 (-1)))
      .ret)
      (.chk (.bn (.cm .gtr .i64) (.vr 0) (.vr 1))
      (.set 9 (.bn (.cm .gtr .i64) (.vr 0) (.vr 1))
      (.ite (.vr 9)
        (.set 4 (.cn (.int .i64 1))
        .ret)
        .nil
      .nil)))
    .nil)))
  (.set 4 (.cn (.int .i64 0))
  .ret)))
def fc31 : Fc := ⟨13, s31, [(.vr 4)]⟩
theorem c31 : compF Try.prog 31 = some fc31 := by kernel_rfl

/-- cmp.isNaN[uint64] · parameters 1 · 0:x -/
def s32 : S :=
  (.set 2 (.cn (.bool false))
  (.chk (.bn (.cm .neq .u64) (.vr 0) (.vr 0))
  (.set 2 (.bn (.cm .neq .u64) (.vr 0) (.vr 0))
  .ret)))
def fc32 : Fc := ⟨6, s32, [(.vr 2)]⟩
theorem c32 : compF Try.prog 32 = some fc32 := by kernel_rfl

end Go.Proofs.Ytflglnigcidmaaa.VG
