/-
  The translations of the functions, printed by program (wip/vg/Print.lean); each is checked against the program by the kernel.
-/
import Derived.Test.YtkhjmlfnmakkpaaChecked
import Derived.Test.YtkhjmlfnmakkpaaVgH
namespace Go.Proofs.Ytkhjmlfnmakkpaa.VG
open Go
set_option maxRecDepth 100000

/-- kinora/kinoralaw5.RicePuts · parameters 3 · 0:k 1:l 2:ahead 7:w 8:x 9:e 10:f -/
def s3 : S :=
  (.set 6 (.cn (.bool false))
  (.call (some 11) 11 [] []
  (.chk (.un .not (.vr 11))
  (.set 12 (.un .not (.vr 11))
  (.ite (.vr 12)
    (.set 6 (.cn (.bool false))
    .ret)
    .nil
  (.chk (.un .ln (.vr 1))
  (.set 15 (.bn (.cm .gtr .i64) (.un .ln (.vr 1)) (.cn (.int .i64 200)))
  (.ite (.vr 15)
    (.set 6 (.cn (.bool true))
    .ret)
    .nil
  (.op (some 17) (.box 27 (.tmp 16)) 24 [(16, (.cn (.agg #[(.slice none 0 0), (.int .i64 0)])))] []
  (.op (some 19) (.box 30 (.tmp 18)) 28 [(18, (.cn (.agg #[(.slice none 0 0)])))] []
  (.set 7 (.vr 17)
  (.set 8 (.vr 19)
  (.chk (.bn (.bt .and .i64) (.vr 2) (.cn (.int .i64 7)))
  (.call (some 23) 12 [(.vr 7), (.cn (.int .u64 0)), (.bn (.bt .and .i64) (.vr 2) (.cn (.int .i64 7)))] []
  (.chk (.bn (.bt .and .i64) (.vr 2) (.cn (.int .i64 7)))
  (.call (some 27) 13 [(.vr 8), (.cn (.int .u64 0)), (.bn (.bt .and .i64) (.vr 2) (.cn (.int .i64 7)))] []
  (.call (some 31) 14 [(.vr 7), (.vr 0), (.vr 1)] []
  (.call (some 35) 15 [(.vr 8), (.vr 0), (.vr 1)] []
  (.set 9 (.vr 31)
  (.set 10 (.vr 35)
  (.chk (.bn (.cm .eql .i64) (.vr 9) (.vr 10))
  (.set 39 (.bn (.cm .eql .i64) (.vr 9) (.vr 10))
  (.ifg (.vr 39) true
    (.call (some 41) 16 [(.vr 7)] []
    .nil)
    (.set 41 (.cn undef)
    .nil)
  (.ifg (.vr 39) true
    (.call (some 43) 17 [(.vr 8)] []
    .nil)
    (.set 43 (.cn undef)
    .nil)
  (.chk (.gd (.vr 39) true (.bn (.cm .eql .i64) (.vr 41) (.vr 43)))
  (.chk (.and (.vr 39) (.bn (.cm .eql .i64) (.vr 41) (.vr 43)))
  (.set 46 (.and (.vr 39) (.bn (.cm .eql .i64) (.vr 41) (.vr 43)))
  (.ifg (.vr 46) true
    (.call (some 48) 19 [(.vr 7)] []
    .nil)
    (.set 48 (.cn undef)
    .nil)
  (.ifg (.vr 46) true
    (.call (some 50) 20 [(.vr 8)] []
    .nil)
    (.set 50 (.cn undef)
    .nil)
  (.ifg (.vr 46) true
    (.call (some 51) 18 [(.vr 48), (.vr 50)] []
    .nil)
    (.set 51 (.cn undef)
    .nil)
  (.chk (.pk (.vr 46) (.vr 51) (.cn (.bool false)))
  (.set 6 (.pk (.vr 46) (.vr 51) (.cn (.bool false)))
  .ret))))))))))))))))))))))))))))))))
def fc3 : Fc := ⟨53, s3, [(.vr 6)]⟩
theorem c3 : compF Try.prog 3 = some fc3 := by kernel_rfl

/-- kinora/kinoralaw5.RiceFolds · parameters 2 · 0:a 1:b 5:x 6:y 7:near -/
def s4 : S :=
  (.set 4 (.cn (.bool false))
  (.call (some 8) 11 [] []
  (.chk (.un .not (.vr 8))
  (.set 9 (.un .not (.vr 8))
  (.ite (.vr 9)
    (.set 4 (.cn (.bool false))
    .ret)
    .nil
  (.call (some 11) 21 [(.vr 0)] []
  (.chk (.un .not (.vr 11))
  (.set 13 (.un .not (.vr 11))
  (.ifg (.vr 13) false
    (.call (some 15) 21 [(.vr 1)] []
    .nil)
    (.set 15 (.cn undef)
    .nil)
  (.chk (.gd (.vr 13) false (.un .not (.vr 15)))
  (.chk (.or (.vr 13) (.un .not (.vr 15)))
  (.set 17 (.or (.vr 13) (.un .not (.vr 15)))
  (.ite (.vr 17)
    (.set 4 (.cn (.bool true))
    .ret)
    .nil
  (.call (some 19) 22 [(.vr 0)] []
  (.call (some 21) 22 [(.vr 1)] []
  (.set 5 (.vr 19)
  (.set 6 (.vr 21)
  (.call (some 23) 23 [(.vr 5)] []
  (.chk (.bn (.cm .neq .i64) (.vr 23) (.vr 0))
  (.set 26 (.bn (.cm .neq .i64) (.vr 23) (.vr 0))
  (.chk (.gd (.vr 26) false (.bn (.cm .geq .u64) (.vr 5) (.cn (.int .u64 2147483648))))
  (.chk (.or (.vr 26) (.bn (.cm .geq .u64) (.vr 5) (.cn (.int .u64 2147483648))))
  (.set 30 (.or (.vr 26) (.bn (.cm .geq .u64) (.vr 5) (.cn (.int .u64 2147483648))))
  (.chk (.gd (.vr 30) false (.bn (.cm .eql .u64) (.vr 5) (.vr 6)))
  (.chk (.gd (.vr 30) false (.bn (.cm .eql .i64) (.vr 0) (.vr 1)))
  (.chk (.or (.vr 30) (.bn (.eqb true) (.bn (.cm .eql .u64) (.vr 5) (.vr 6)) (.bn (.cm .eql .i64) (.vr 0) (.vr 1))))
  (.set 38 (.or (.vr 30) (.bn (.eqb true) (.bn (.cm .eql .u64) (.vr 5) (.vr 6)) (.bn (.cm .eql .i64) (.vr 0) (.vr 1))))
  (.ite (.vr 38)
    (.set 4 (.cn (.bool false))
    .ret)
    .nil
  (.chk (.bn (.ar .sub .i64) (.cn (.int .i64 (-1))) (.vr 0))
  (.chk (.bn (.mx .i64) (.vr 0) (.bn (.ar .sub .i64) (.cn (.int .i64 (-1))) (.vr 0)))
  (.chk (.bn (.ar .sub .i64) (.cn (.int .i64 (-1))) (.vr 1))
  (.chk (.bn (.mx .i64) (.vr 1) (.bn (.ar .sub .i64) (.cn (.int .i64 (-1))) (.vr 1)))
  (.set 7 (.bn (.cm .lss .i64) (.bn (.mx .i64) (.vr 0) (.bn (.ar .sub .i64) (.cn (.int .i64 (-1))) (.vr 0))) (.bn (.mx .i64) (.vr 1) (.bn (.ar .sub .i64) (.cn (.int .i64 (-1))) (.vr 1))))
  (.chk (.un .not (.vr 7))
  (.chk (.gd (.un .not (.vr 7)) false (.bn (.cm .lss .u64) (.vr 5) (.vr 6)))
  (.set 4 (.or (.un .not (.vr 7)) (.bn (.cm .lss .u64) (.vr 5) (.vr 6)))
  .ret))))))))))))))))))))))))))))))))))))
def fc4 : Fc := ⟨55, s4, [(.vr 4)]⟩
theorem c4 : compF Try.prog 4 = some fc4 := by kernel_rfl

/-- kinora/kinoralaw5.RiceRises · parameters 3 · 0:k 1:a 2:b 7:x 8:y -/
def s5 : S :=
  (.set 6 (.cn (.bool false))
  (.call (some 9) 11 [] []
  (.chk (.un .not (.vr 9))
  (.set 10 (.un .not (.vr 9))
  (.ite (.vr 10)
    (.set 6 (.cn (.bool false))
    .ret)
    .nil
  (.call (some 12) 21 [(.vr 1)] []
  (.chk (.un .not (.vr 12))
  (.set 14 (.un .not (.vr 12))
  (.ifg (.vr 14) false
    (.call (some 16) 21 [(.vr 2)] []
    .nil)
    (.set 16 (.cn undef)
    .nil)
  (.chk (.gd (.vr 14) false (.un .not (.vr 16)))
  (.chk (.or (.vr 14) (.un .not (.vr 16)))
  (.set 18 (.or (.vr 14) (.un .not (.vr 16)))
  (.ite (.vr 18)
    (.set 6 (.cn (.bool true))
    .ret)
    .nil
  (.chk (.bn (.bt .and .i64) (.vr 0) (.cn (.int .i64 255)))
  (.set 0 (.bn (.dv true .i64) (.bn (.bt .and .i64) (.vr 0) (.cn (.int .i64 255))) (.cn (.int .i64 26)))
  (.call (some 24) 24 [(.vr 0), (.vr 1)] []
  (.call (some 27) 24 [(.vr 0), (.vr 2)] []
  (.set 7 (.vr 24)
  (.set 8 (.vr 27)
  (.chk (.bn (.cm .geq .i64) (.vr 7) (.cn (.int .i64 1)))
  (.set 30 (.bn (.cm .geq .i64) (.vr 7) (.cn (.int .i64 1)))
  (.chk (.gd (.vr 30) true (.bn (.cm .leq .i64) (.vr 7) (.cn (.int .i64 65))))
  (.chk (.and (.vr 30) (.bn (.cm .leq .i64) (.vr 7) (.cn (.int .i64 65))))
  (.set 34 (.and (.vr 30) (.bn (.cm .leq .i64) (.vr 7) (.cn (.int .i64 65))))
  (.chk (.gd (.vr 34) true (.bn (.cm .geq .i64) (.vr 8) (.cn (.int .i64 1))))
  (.chk (.and (.vr 34) (.bn (.cm .geq .i64) (.vr 8) (.cn (.int .i64 1))))
  (.set 38 (.and (.vr 34) (.bn (.cm .geq .i64) (.vr 8) (.cn (.int .i64 1))))
  (.chk (.gd (.vr 38) true (.bn (.cm .leq .i64) (.vr 8) (.cn (.int .i64 65))))
  (.chk (.and (.vr 38) (.bn (.cm .leq .i64) (.vr 8) (.cn (.int .i64 65))))
  (.set 42 (.and (.vr 38) (.bn (.cm .leq .i64) (.vr 8) (.cn (.int .i64 65))))
  (.ifg (.vr 42) true
    (.call (some 44) 22 [(.vr 1)] []
    .nil)
    (.set 44 (.cn undef)
    .nil)
  (.ifg (.vr 42) true
    (.call (some 46) 22 [(.vr 2)] []
    .nil)
    (.set 46 (.cn undef)
    .nil)
  (.chk (.gd (.vr 42) true (.bn (.cm .gtr .u64) (.vr 44) (.vr 46)))
  (.set 48 (.gd (.vr 42) true (.bn (.cm .gtr .u64) (.vr 44) (.vr 46)))
  (.chk (.gd (.vr 48) false (.bn (.cm .leq .i64) (.vr 7) (.vr 8)))
  (.chk (.gd (.vr 42) true (.or (.vr 48) (.bn (.cm .leq .i64) (.vr 7) (.vr 8))))
  (.chk (.and (.vr 42) (.or (.vr 48) (.bn (.cm .leq .i64) (.vr 7) (.vr 8))))
  (.set 6 (.and (.vr 42) (.or (.vr 48) (.bn (.cm .leq .i64) (.vr 7) (.vr 8))))
  .ret))))))))))))))))))))))))))))))))))))))
def fc5 : Fc := ⟨54, s5, [(.vr 6)]⟩
theorem c5 : compF Try.prog 5 = some fc5 := by kernel_rfl

/-- kinora/kinoralaw5.RiceGets · parameters 4 · 0:b 1:k 2:n 3:skip 9:r 10:s 11:l 12:e 13:m 14:f -/
def s6 : S :=
  (.set 8 (.cn (.bool false))
  (.call (some 15) 11 [] []
  (.chk (.un .not (.vr 15))
  (.set 16 (.un .not (.vr 15))
  (.ite (.vr 16)
    (.set 8 (.cn (.bool false))
    .ret)
    .nil
  (.chk (.un .ln (.vr 0))
  (.chk (.gd (.bn (.cm .gtr .i64) (.un .ln (.vr 0)) (.cn (.int .i64 200))) false (.bn (.cm .gtr .i64) (.vr 2) (.cn (.int .i64 1700))))
  (.chk (.gd (.gd (.bn (.cm .gtr .i64) (.un .ln (.vr 0)) (.cn (.int .i64 200))) false (.bn (.cm .gtr .i64) (.vr 2) (.cn (.int .i64 1700)))) true (.bn (.cm .leq .i64) (.vr 2) (.cn (.int .i64 4194304))))
  (.set 27 (.or (.bn (.cm .gtr .i64) (.un .ln (.vr 0)) (.cn (.int .i64 200))) (.and (.bn (.cm .gtr .i64) (.vr 2) (.cn (.int .i64 1700))) (.bn (.cm .leq .i64) (.vr 2) (.cn (.int .i64 4194304)))))
  (.ite (.vr 27)
    (.set 8 (.cn (.bool true))
    .ret)
    .nil
  (.call (some 29) 25 [(.vr 0)] []
  (.call (some 31) 26 [(.vr 0)] []
  (.set 9 (.vr 29)
  (.set 10 (.vr 31)
  (.chk (.un (.pnil false) (.vr 9))
  (.set 33 (.un (.pnil false) (.vr 9))
  (.ite (.vr 33)
    (.set 8 (.cn (.bool false))
    .ret)
    .nil
  (.call (some 36) 27 [(.vr 9), (.vr 3)] []
  (.call (some 39) 28 [(.vr 10), (.vr 3)] []
  (.call (some 44) 29 [(.vr 9), (.vr 1), (.vr 2)] []
  (.chk (.un (.ex 0) (.vr 44))
  (.chk (.un (.ex 1) (.vr 44))
  (.set 11 (.un (.ex 0) (.vr 44))
  (.set 12 (.un (.ex 1) (.vr 44))
  (.call (some 51) 30 [(.vr 10), (.vr 1), (.vr 2)] []
  (.chk (.un (.ex 0) (.vr 51))
  (.chk (.un (.ex 1) (.vr 51))
  (.set 13 (.un (.ex 0) (.vr 51))
  (.set 14 (.un (.ex 1) (.vr 51))
  (.draw
  (.call (some 56) 31 [(.vr 11), (.vr 13)] []
  (.set 57 (.vr 56)
  (.chk (.gd (.vr 57) true (.bn (.cm .eql .i64) (.vr 12) (.vr 14)))
  (.chk (.and (.vr 57) (.bn (.cm .eql .i64) (.vr 12) (.vr 14)))
  (.set 62 (.and (.vr 57) (.bn (.cm .eql .i64) (.vr 12) (.vr 14)))
  (.chk (.gd (.vr 62) true (.bn (.cm .neq .i64) (.vr 12) (.cn (.int .i64 0))))
  (.set 65 (.gd (.vr 62) true (.bn (.cm .neq .i64) (.vr 12) (.cn (.int .i64 0))))
  (.chk (.gd (.vr 65) false (.un .nck (.vr 10)))
  (.chk (.gd (.vr 65) false (.un (.fa 1) (.un .nck (.vr 10))))
  (.chk (.gd (.vr 65) false (.ld (.un (.fa 1) (.un .nck (.vr 10)))))
  (.set 71 (.gd (.vr 65) false (.ld (.un (.fa 1) (.un .nck (.vr 10)))))
  (.ifg (.vr 65) false
    (.call (some 67) 32 [(.vr 9)] [⟨17, (.un (.fa 1) (.un .nck (.vr 10))), 1, (some ((.vr 65), false))⟩]
    .nil)
    (.set 67 (.cn undef)
    .nil)
  (.chk (.gd (.vr 65) false (.bn (.cm .eql .i64) (.vr 67) (.vr 71)))
  (.chk (.gd (.vr 62) true (.or (.vr 65) (.bn (.cm .eql .i64) (.vr 67) (.vr 71))))
  (.chk (.and (.vr 62) (.or (.vr 65) (.bn (.cm .eql .i64) (.vr 67) (.vr 71))))
  (.set 8 (.and (.vr 62) (.or (.vr 65) (.bn (.cm .eql .i64) (.vr 67) (.vr 71))))
  .ret))))))))))))))))))))))))))))))))))))))))))))))
def fc6 : Fc := ⟨75, s6, [(.vr 8)]⟩
theorem c6 : compF Try.prog 6 = some fc6 := by kernel_rfl

/-- kinora/kinoralaw5.RiceJoins · parameters 3 · 0:k 1:a 2:b 7:w 8:x 9:n 10:r 11:l 12:e 13:at 14:m 15:f -/
def s7 : S :=
  (.set 6 (.cn (.bool false))
  (.call (some 16) 11 [] []
  (.chk (.un .not (.vr 16))
  (.set 17 (.un .not (.vr 16))
  (.ite (.vr 17)
    (.set 6 (.cn (.bool false))
    .ret)
    .nil
  (.chk (.un .ln (.vr 1))
  (.set 21 (.bn (.cm .gtr .i64) (.un .ln (.vr 1)) (.cn (.int .i64 100)))
  (.chk (.gd (.vr 21) false (.un .ln (.vr 2)))
  (.chk (.or (.vr 21) (.bn (.cm .gtr .i64) (.un .ln (.vr 2)) (.cn (.int .i64 100))))
  (.set 26 (.or (.vr 21) (.bn (.cm .gtr .i64) (.un .ln (.vr 2)) (.cn (.int .i64 100))))
  (.chk (.gd (.vr 26) false (.bn (.cm .lss .i64) (.vr 0) (.cn (.int .i64 0))))
  (.chk (.or (.vr 26) (.bn (.cm .lss .i64) (.vr 0) (.cn (.int .i64 0))))
  (.set 30 (.or (.vr 26) (.bn (.cm .lss .i64) (.vr 0) (.cn (.int .i64 0))))
  (.chk (.gd (.vr 30) false (.bn (.cm .gtr .i64) (.vr 0) (.cn (.int .i64 25))))
  (.chk (.or (.vr 30) (.bn (.cm .gtr .i64) (.vr 0) (.cn (.int .i64 25))))
  (.set 34 (.or (.vr 30) (.bn (.cm .gtr .i64) (.vr 0) (.cn (.int .i64 25))))
  (.ifg (.vr 34) false
    (.call (some 36) 33 [(.vr 1)] []
    .nil)
    (.set 36 (.cn undef)
    .nil)
  (.chk (.gd (.vr 34) false (.un .not (.vr 36)))
  (.chk (.or (.vr 34) (.un .not (.vr 36)))
  (.set 39 (.or (.vr 34) (.un .not (.vr 36)))
  (.ifg (.vr 39) false
    (.call (some 41) 33 [(.vr 2)] []
    .nil)
    (.set 41 (.cn undef)
    .nil)
  (.chk (.gd (.vr 39) false (.un .not (.vr 41)))
  (.chk (.or (.vr 39) (.un .not (.vr 41)))
  (.set 43 (.or (.vr 39) (.un .not (.vr 41)))
  (.ite (.vr 43)
    (.set 6 (.cn (.bool true))
    .ret)
    .nil
  (.op (some 45) (.box 27 (.tmp 44)) 24 [(44, (.cn (.agg #[(.slice none 0 0), (.int .i64 0)])))] []
  (.op (some 47) (.box 27 (.tmp 46)) 24 [(46, (.cn (.agg #[(.slice none 0 0), (.int .i64 0)])))] []
  (.set 7 (.vr 45)
  (.set 8 (.vr 47)
  (.op (some 50) (.buildSlice 22 0 #[]) 22 [] []
  (.op (some 52) (.call ⟨(.builtin .append), #[(.tmp 50), (.tmp 51)], #[22, 22]⟩) 22 [(50, (.vr 50)), (51, (.vr 1))] []
  (.op (some 54) (.call ⟨(.builtin .append), #[(.tmp 52), (.tmp 53)], #[22, 22]⟩) 22 [(52, (.vr 52)), (53, (.vr 2))] []
  (.call (some 55) 14 [(.vr 7), (.vr 0), (.vr 54)] []
  (.call (some 59) 14 [(.vr 8), (.vr 0), (.vr 1)] []
  (.call (some 61) 16 [(.vr 8)] []
  (.set 9 (.vr 61)
  (.call (some 65) 14 [(.vr 8), (.vr 0), (.vr 2)] []
  (.call (some 67) 19 [(.vr 8)] []
  (.call (some 68) 25 [(.vr 67)] []
  (.set 10 (.vr 68)
  (.chk (.un (.pnil false) (.vr 10))
  (.set 71 (.un (.pnil false) (.vr 10))
  (.ifg (.vr 71) false
    (.call (some 73) 19 [(.vr 7)] []
    .nil)
    (.set 73 (.cn undef)
    .nil)
  (.ifg (.vr 71) false
    (.call (some 75) 19 [(.vr 8)] []
    .nil)
    (.set 75 (.cn undef)
    .nil)
  (.ifg (.vr 71) false
    (.call (some 76) 18 [(.vr 73), (.vr 75)] []
    .nil)
    (.set 76 (.cn undef)
    .nil)
  (.chk (.gd (.vr 71) false (.un .not (.vr 76)))
  (.chk (.or (.vr 71) (.un .not (.vr 76)))
  (.set 79 (.or (.vr 71) (.un .not (.vr 76)))
  (.ifg (.vr 79) false
    (.call (some 81) 16 [(.vr 7)] []
    .nil)
    (.set 81 (.cn undef)
    .nil)
  (.ifg (.vr 79) false
    (.call (some 83) 16 [(.vr 8)] []
    .nil)
    (.set 83 (.cn undef)
    .nil)
  (.chk (.gd (.vr 79) false (.bn (.cm .neq .i64) (.vr 81) (.vr 83)))
  (.chk (.or (.vr 79) (.bn (.cm .neq .i64) (.vr 81) (.vr 83)))
  (.set 85 (.or (.vr 79) (.bn (.cm .neq .i64) (.vr 81) (.vr 83)))
  (.ite (.vr 85)
    (.set 6 (.cn (.bool false))
    .ret)
    .nil
  (.chk (.un .ln (.vr 1))
  (.call (some 91) 29 [(.vr 10), (.vr 0), (.un .ln (.vr 1))] []
  (.chk (.un (.ex 0) (.vr 91))
  (.chk (.un (.ex 1) (.vr 91))
  (.set 11 (.un (.ex 0) (.vr 91))
  (.set 12 (.un (.ex 1) (.vr 91))
  (.call (some 95) 32 [(.vr 10)] []
  (.set 13 (.vr 95)
  (.chk (.un .ln (.vr 2))
  (.call (some 101) 29 [(.vr 10), (.vr 0), (.un .ln (.vr 2))] []
  (.chk (.un (.ex 0) (.vr 101))
  (.chk (.un (.ex 1) (.vr 101))
  (.set 14 (.un (.ex 0) (.vr 101))
  (.set 15 (.un (.ex 1) (.vr 101))
  (.chk (.bn (.cm .eql .i64) (.vr 12) (.cn (.int .i64 0)))
  (.set 106 (.bn (.cm .eql .i64) (.vr 12) (.cn (.int .i64 0)))
  (.chk (.gd (.vr 106) true (.bn (.cm .eql .i64) (.vr 15) (.cn (.int .i64 0))))
  (.chk (.and (.vr 106) (.bn (.cm .eql .i64) (.vr 15) (.cn (.int .i64 0))))
  (.set 110 (.and (.vr 106) (.bn (.cm .eql .i64) (.vr 15) (.cn (.int .i64 0))))
  (.chk (.gd (.vr 110) true (.bn (.cm .eql .i64) (.vr 13) (.vr 9)))
  (.chk (.and (.vr 110) (.bn (.cm .eql .i64) (.vr 13) (.vr 9)))
  (.set 115 (.and (.vr 110) (.bn (.cm .eql .i64) (.vr 13) (.vr 9)))
  (.ifg (.vr 115) true
    (.call (some 118) 31 [(.vr 11), (.vr 1)] []
    .nil)
    (.set 118 (.cn undef)
    .nil)
  (.chk (.pk (.vr 115) (.vr 118) (.cn (.bool false)))
  (.set 120 (.pk (.vr 115) (.vr 118) (.cn (.bool false)))
  (.ifg (.vr 120) true
    (.call (some 123) 31 [(.vr 14), (.vr 2)] []
    .nil)
    (.set 123 (.cn undef)
    .nil)
  (.chk (.pk (.vr 120) (.vr 123) (.cn (.bool false)))
  (.set 6 (.pk (.vr 120) (.vr 123) (.cn (.bool false)))
  .ret))))))))))))))))))))))))))))))))))))))))))))))))))))))))))))))))))))))))))))))))))
def fc7 : Fc := ⟨125, s7, [(.vr 6)]⟩
theorem c7 : compF Try.prog 7 = some fc7 := by kernel_rfl

/-- kinora/kinoralaw5.RiceBack · parameters 3 · 0:k 1:l 2:behind 7:w 8:r 9:m 10:e -/
def s8 : S :=
  (.set 6 (.cn (.bool false))
  (.call (some 11) 11 [] []
  (.chk (.un .not (.vr 11))
  (.set 12 (.un .not (.vr 11))
  (.ite (.vr 12)
    (.set 6 (.cn (.bool false))
    .ret)
    .nil
  (.chk (.un .ln (.vr 1))
  (.set 16 (.bn (.cm .gtr .i64) (.un .ln (.vr 1)) (.cn (.int .i64 200)))
  (.chk (.gd (.vr 16) false (.bn (.cm .lss .i64) (.vr 0) (.cn (.int .i64 0))))
  (.chk (.or (.vr 16) (.bn (.cm .lss .i64) (.vr 0) (.cn (.int .i64 0))))
  (.set 20 (.or (.vr 16) (.bn (.cm .lss .i64) (.vr 0) (.cn (.int .i64 0))))
  (.chk (.gd (.vr 20) false (.bn (.cm .gtr .i64) (.vr 0) (.cn (.int .i64 25))))
  (.chk (.or (.vr 20) (.bn (.cm .gtr .i64) (.vr 0) (.cn (.int .i64 25))))
  (.set 24 (.or (.vr 20) (.bn (.cm .gtr .i64) (.vr 0) (.cn (.int .i64 25))))
  (.ifg (.vr 24) false
    (.call (some 26) 33 [(.vr 1)] []
    .nil)
    (.set 26 (.cn undef)
    .nil)
  (.chk (.gd (.vr 24) false (.un .not (.vr 26)))
  (.chk (.or (.vr 24) (.un .not (.vr 26)))
  (.set 28 (.or (.vr 24) (.un .not (.vr 26)))
  (.ite (.vr 28)
    (.set 6 (.cn (.bool true))
    .ret)
    .nil
  (.op (some 30) (.box 27 (.tmp 29)) 24 [(29, (.cn (.agg #[(.slice none 0 0), (.int .i64 0)])))] []
  (.set 7 (.vr 30)
  (.call (some 34) 14 [(.vr 7), (.vr 0), (.vr 1)] []
  (.chk (.bn (.cm .neq .i64) (.vr 34) (.cn (.int .i64 0)))
  (.set 36 (.bn (.cm .neq .i64) (.vr 34) (.cn (.int .i64 0)))
  (.ifg (.vr 36) false
    (.call (some 38) 16 [(.vr 7)] []
    .nil)
    (.set 38 (.cn undef)
    .nil)
  (.ifg (.vr 36) false
    (.call (some 41) 34 [(.vr 0), (.vr 1)] []
    .nil)
    (.set 41 (.cn undef)
    .nil)
  (.chk (.gd (.vr 36) false (.bn (.cm .neq .i64) (.vr 38) (.vr 41)))
  (.chk (.or (.vr 36) (.bn (.cm .neq .i64) (.vr 38) (.vr 41)))
  (.set 43 (.or (.vr 36) (.bn (.cm .neq .i64) (.vr 38) (.vr 41)))
  (.ite (.vr 43)
    (.set 6 (.cn (.bool false))
    .ret)
    .nil
  (.chk (.bn (.bt .and .u64) (.vr 2) (.cn (.int .u64 65535)))
  (.call (some 47) 12 [(.vr 7), (.bn (.bt .and .u64) (.vr 2) (.cn (.int .u64 65535))), (.cn (.int .i64 16))] []
  (.call (some 49) 19 [(.vr 7)] []
  (.call (some 50) 25 [(.vr 49)] []
  (.set 8 (.vr 50)
  (.chk (.un (.pnil false) (.vr 8))
  (.set 52 (.un (.pnil false) (.vr 8))
  (.ite (.vr 52)
    (.set 6 (.cn (.bool false))
    .ret)
    .nil
  (.chk (.un .ln (.vr 1))
  (.call (some 58) 29 [(.vr 8), (.vr 0), (.un .ln (.vr 1))] []
  (.chk (.un (.ex 0) (.vr 58))
  (.chk (.un (.ex 1) (.vr 58))
  (.set 9 (.un (.ex 0) (.vr 58))
  (.set 10 (.un (.ex 1) (.vr 58))
  (.chk (.bn (.cm .eql .i64) (.vr 10) (.cn (.int .i64 0)))
  (.set 63 (.bn (.cm .eql .i64) (.vr 10) (.cn (.int .i64 0)))
  (.ifg (.vr 63) true
    (.call (some 66) 31 [(.vr 1), (.vr 9)] []
    .nil)
    (.set 66 (.cn undef)
    .nil)
  (.chk (.pk (.vr 63) (.vr 66) (.cn (.bool false)))
  (.set 68 (.pk (.vr 63) (.vr 66) (.cn (.bool false)))
  (.ifg (.vr 68) true
    (.call (some 70) 32 [(.vr 8)] []
    .nil)
    (.set 70 (.cn undef)
    .nil)
  (.ifg (.vr 68) true
    (.call (some 73) 34 [(.vr 0), (.vr 1)] []
    .nil)
    (.set 73 (.cn undef)
    .nil)
  (.chk (.gd (.vr 68) true (.bn (.cm .eql .i64) (.vr 70) (.vr 73)))
  (.chk (.and (.vr 68) (.bn (.cm .eql .i64) (.vr 70) (.vr 73)))
  (.set 76 (.and (.vr 68) (.bn (.cm .eql .i64) (.vr 70) (.vr 73)))
  (.ifg (.vr 76) true
    (.call (some 78) 27 [(.vr 8), (.cn (.int .i64 16))] []
    .nil)
    (.set 78 (.cn undef)
    .nil)
  (.chk (.gd (.vr 76) true (.bn (.bt .and .u64) (.vr 2) (.cn (.int .u64 65535))))
  (.chk (.gd (.vr 76) true (.bn (.cm .eql .u64) (.vr 78) (.bn (.bt .and .u64) (.vr 2) (.cn (.int .u64 65535)))))
  (.chk (.and (.vr 76) (.bn (.cm .eql .u64) (.vr 78) (.bn (.bt .and .u64) (.vr 2) (.cn (.int .u64 65535)))))
  (.set 6 (.and (.vr 76) (.bn (.cm .eql .u64) (.vr 78) (.bn (.bt .and .u64) (.vr 2) (.cn (.int .u64 65535)))))
  .ret))))))))))))))))))))))))))))))))))))))))))))))))))))))))))
def fc8 : Fc := ⟨83, s8, [(.vr 6)]⟩
theorem c8 : compF Try.prog 8 = some fc8 := by kernel_rfl

/-- kinora/kinoralaw5.RiceTells · parameters 4 · 0:k 1:x 2:u 3:l -/
def s9 : S :=
  (.set 8 (.cn (.bool false))
  (.call (some 9) 11 [] []
  (.chk (.un .not (.vr 9))
  (.set 10 (.un .not (.vr 9))
  (.ite (.vr 10)
    (.set 8 (.cn (.bool false))
    .ret)
    .nil
  (.chk (.un .ln (.vr 3))
  (.set 13 (.bn (.cm .gtr .i64) (.un .ln (.vr 3)) (.cn (.int .i64 120)))
  (.ite (.vr 13)
    (.set 8 (.cn (.bool true))
    .ret)
    .nil
  (.call (some 15) 22 [(.vr 1)] []
  (.call (some 17) 35 [(.vr 1)] []
  (.chk (.bn (.cm .eql .u64) (.vr 15) (.vr 17))
  (.set 19 (.bn (.cm .eql .u64) (.vr 15) (.vr 17))
  (.ifg (.vr 19) true
    (.call (some 21) 23 [(.vr 2)] []
    .nil)
    (.set 21 (.cn undef)
    .nil)
  (.ifg (.vr 19) true
    (.call (some 23) 36 [(.vr 2)] []
    .nil)
    (.set 23 (.cn undef)
    .nil)
  (.chk (.gd (.vr 19) true (.bn (.cm .eql .i64) (.vr 21) (.vr 23)))
  (.chk (.and (.vr 19) (.bn (.cm .eql .i64) (.vr 21) (.vr 23)))
  (.set 26 (.and (.vr 19) (.bn (.cm .eql .i64) (.vr 21) (.vr 23)))
  (.ifg (.vr 26) true
    (.call (some 29) 24 [(.vr 0), (.vr 1)] []
    .nil)
    (.set 29 (.cn undef)
    .nil)
  (.ifg (.vr 26) true
    (.call (some 32) 37 [(.vr 0), (.vr 1)] []
    .nil)
    (.set 32 (.cn undef)
    .nil)
  (.chk (.gd (.vr 26) true (.bn (.cm .eql .i64) (.vr 29) (.vr 32)))
  (.chk (.and (.vr 26) (.bn (.cm .eql .i64) (.vr 29) (.vr 32)))
  (.set 35 (.and (.vr 26) (.bn (.cm .eql .i64) (.vr 29) (.vr 32)))
  (.ifg (.vr 35) true
    (.call (some 38) 34 [(.vr 0), (.vr 3)] []
    .nil)
    (.set 38 (.cn undef)
    .nil)
  (.ifg (.vr 35) true
    (.call (some 41) 38 [(.vr 0), (.vr 3)] []
    .nil)
    (.set 41 (.cn undef)
    .nil)
  (.chk (.gd (.vr 35) true (.bn (.cm .eql .i64) (.vr 38) (.vr 41)))
  (.chk (.and (.vr 35) (.bn (.cm .eql .i64) (.vr 38) (.vr 41)))
  (.set 44 (.and (.vr 35) (.bn (.cm .eql .i64) (.vr 38) (.vr 41)))
  (.ifg (.vr 44) true
    (.call (some 46) 39 [(.vr 3)] []
    .nil)
    (.set 46 (.cn undef)
    .nil)
  (.ifg (.vr 44) true
    (.call (some 48) 40 [(.vr 3)] []
    .nil)
    (.set 48 (.cn undef)
    .nil)
  (.chk (.gd (.vr 44) true (.bn (.cm .eql .i64) (.vr 46) (.vr 48)))
  (.chk (.and (.vr 44) (.bn (.cm .eql .i64) (.vr 46) (.vr 48)))
  (.set 8 (.and (.vr 44) (.bn (.cm .eql .i64) (.vr 46) (.vr 48)))
  .ret))))))))))))))))))))))))))))))))
def fc9 : Fc := ⟨51, s9, [(.vr 8)]⟩
theorem c9 : compF Try.prog 9 = some fc9 := by kernel_rfl

/-- kinora/kinoralaw5.RiceLeast · parameters 2 · 0:l 1:k 5:b -/
def s10 : S :=
  (.set 4 (.cn (.bool false))
  (.call (some 6) 11 [] []
  (.chk (.un .not (.vr 6))
  (.set 7 (.un .not (.vr 6))
  (.ite (.vr 7)
    (.set 4 (.cn (.bool false))
    .ret)
    .nil
  (.chk (.un .ln (.vr 0))
  (.set 11 (.bn (.cm .gtr .i64) (.un .ln (.vr 0)) (.cn (.int .i64 150)))
  (.ifg (.vr 11) false
    (.call (some 13) 33 [(.vr 0)] []
    .nil)
    (.set 13 (.cn undef)
    .nil)
  (.chk (.gd (.vr 11) false (.un .not (.vr 13)))
  (.chk (.or (.vr 11) (.un .not (.vr 13)))
  (.set 15 (.or (.vr 11) (.un .not (.vr 13)))
  (.ite (.vr 15)
    (.set 4 (.cn (.bool true))
    .ret)
    .nil
  (.chk (.bn (.bt .and .i64) (.vr 1) (.cn (.int .i64 255)))
  (.set 1 (.bn (.dv true .i64) (.bn (.bt .and .i64) (.vr 1) (.cn (.int .i64 255))) (.cn (.int .i64 26)))
  (.call (some 20) 39 [(.vr 0)] []
  (.set 5 (.vr 20)
  (.chk (.bn (.cm .lss .i64) (.vr 5) (.cn (.int .i64 0)))
  (.chk (.gd (.bn (.cm .lss .i64) (.vr 5) (.cn (.int .i64 0))) false (.bn (.cm .gtr .i64) (.vr 5) (.cn (.int .i64 25))))
  (.set 26 (.or (.bn (.cm .lss .i64) (.vr 5) (.cn (.int .i64 0))) (.bn (.cm .gtr .i64) (.vr 5) (.cn (.int .i64 25))))
  (.ite (.vr 26)
    (.set 4 (.cn (.bool false))
    .ret)
    .nil
  (.call (some 29) 34 [(.vr 5), (.vr 0)] []
  (.call (some 32) 34 [(.vr 1), (.vr 0)] []
  (.chk (.bn (.cm .leq .i64) (.vr 29) (.vr 32))
  (.set 34 (.bn (.cm .leq .i64) (.vr 29) (.vr 32))
  (.chk (.gd (.vr 34) true (.bn (.cm .geq .i64) (.vr 1) (.vr 5)))
  (.set 38 (.gd (.vr 34) true (.bn (.cm .geq .i64) (.vr 1) (.vr 5)))
  (.ifg (.vr 38) false
    (.call (some 41) 34 [(.vr 5), (.vr 0)] []
    .nil)
    (.set 41 (.cn undef)
    .nil)
  (.ifg (.vr 38) false
    (.call (some 44) 34 [(.vr 1), (.vr 0)] []
    .nil)
    (.set 44 (.cn undef)
    .nil)
  (.chk (.gd (.vr 38) false (.bn (.cm .lss .i64) (.vr 41) (.vr 44)))
  (.chk (.gd (.vr 34) true (.or (.vr 38) (.bn (.cm .lss .i64) (.vr 41) (.vr 44))))
  (.chk (.and (.vr 34) (.or (.vr 38) (.bn (.cm .lss .i64) (.vr 41) (.vr 44))))
  (.set 4 (.and (.vr 34) (.or (.vr 38) (.bn (.cm .lss .i64) (.vr 41) (.vr 44))))
  .ret))))))))))))))))))))))))))))))))
def fc10 : Fc := ⟨48, s10, [(.vr 4)]⟩
theorem c10 : compF Try.prog 10 = some fc10 := by kernel_rfl

/-- kinora/kinoralaw5.known · parameters 0 · 1:w 2:e 3:r 4:l 5:f -/
def s11 : S :=
  (.set 0 (.cn (.bool false))
  (.op (some 7) (.box 27 (.tmp 6)) 24 [(6, (.cn (.agg #[(.slice none 0 0), (.int .i64 0)])))] []
  (.set 1 (.vr 7)
  (.op (some 9) (.buildSlice 22 2 #[(0, (.const (.int .i64 (-3)))), (1, (.const (.int .i64 0)))]) 22 [] []
  (.call (some 10) 14 [(.vr 1), (.cn (.int .i64 2)), (.vr 9)] []
  (.set 2 (.vr 10)
  (.call (some 12) 19 [(.vr 1)] []
  (.call (some 13) 25 [(.vr 12)] []
  (.set 3 (.vr 13)
  (.chk (.un (.pnil false) (.vr 3))
  (.set 15 (.un (.pnil false) (.vr 3))
  (.ite (.vr 15)
    (.set 0 (.cn (.bool false))
    .ret)
    .nil
  (.call (some 18) 29 [(.vr 3), (.cn (.int .i64 2)), (.cn (.int .i64 2))] []
  (.chk (.un (.ex 0) (.vr 18))
  (.chk (.un (.ex 1) (.vr 18))
  (.set 4 (.un (.ex 0) (.vr 18))
  (.set 5 (.un (.ex 1) (.vr 18))
  (.chk (.bn (.cm .eql .i64) (.vr 2) (.cn (.int .i64 0)))
  (.set 23 (.bn (.cm .eql .i64) (.vr 2) (.cn (.int .i64 0)))
  (.chk (.gd (.vr 23) true (.bn (.cm .eql .i64) (.vr 5) (.cn (.int .i64 0))))
  (.chk (.and (.vr 23) (.bn (.cm .eql .i64) (.vr 5) (.cn (.int .i64 0))))
  (.set 27 (.and (.vr 23) (.bn (.cm .eql .i64) (.vr 5) (.cn (.int .i64 0))))
  (.ifg (.vr 27) true
    (.call (some 29) 16 [(.vr 1)] []
    .nil)
    (.set 29 (.cn undef)
    .nil)
  (.chk (.gd (.vr 27) true (.bn (.cm .eql .i64) (.vr 29) (.cn (.int .i64 7))))
  (.chk (.and (.vr 27) (.bn (.cm .eql .i64) (.vr 29) (.cn (.int .i64 7))))
  (.set 32 (.and (.vr 27) (.bn (.cm .eql .i64) (.vr 29) (.cn (.int .i64 7))))
  (.ifg (.vr 32) true
    (.call (some 34) 19 [(.vr 1)] []
    .nil)
    (.set 34 (.cn undef)
    .nil)
  (.ifg (.vr 32) true
    (.op (some 35) (.convert 25 9 (.tmp 34)) 9 [(34, (.vr 34))] []
    .nil)
    (.set 35 (.cn undef)
    .nil)
  (.chk (.gd (.vr 32) true (.bn (.eqs false) (.vr 35) (.cn (.string ⟨#[88]⟩))))
  (.chk (.and (.vr 32) (.bn (.eqs false) (.vr 35) (.cn (.string ⟨#[88]⟩))))
  (.set 38 (.and (.vr 32) (.bn (.eqs false) (.vr 35) (.cn (.string ⟨#[88]⟩))))
  (.ifg (.vr 38) true
    (.op (some 40) (.buildSlice 22 2 #[(0, (.const (.int .i64 (-3)))), (1, (.const (.int .i64 0)))]) 22 [] []
    .nil)
    (.set 40 (.cn undef)
    .nil)
  (.ifg (.vr 38) true
    (.call (some 41) 31 [(.vr 4), (.vr 40)] []
    .nil)
    (.set 41 (.cn undef)
    .nil)
  (.chk (.pk (.vr 38) (.vr 41) (.cn (.bool false)))
  (.set 43 (.pk (.vr 38) (.vr 41) (.cn (.bool false)))
  (.ifg (.vr 43) true
    (.call (some 44) 22 [(.cn (.int .i64 (-3)))] []
    .nil)
    (.set 44 (.cn undef)
    .nil)
  (.chk (.gd (.vr 43) true (.bn (.cm .eql .u64) (.vr 44) (.cn (.int .u64 5))))
  (.chk (.and (.vr 43) (.bn (.cm .eql .u64) (.vr 44) (.cn (.int .u64 5))))
  (.set 47 (.and (.vr 43) (.bn (.cm .eql .u64) (.vr 44) (.cn (.int .u64 5))))
  (.ifg (.vr 47) true
    (.call (some 48) 24 [(.cn (.int .i64 0)), (.cn (.int .i64 1073741823))] []
    .nil)
    (.set 48 (.cn undef)
    .nil)
  (.chk (.gd (.vr 47) true (.bn (.cm .eql .i64) (.vr 48) (.cn (.int .i64 65))))
  (.chk (.and (.vr 47) (.bn (.cm .eql .i64) (.vr 48) (.cn (.int .i64 65))))
  (.set 0 (.and (.vr 47) (.bn (.cm .eql .i64) (.vr 48) (.cn (.int .i64 65))))
  .ret)))))))))))))))))))))))))))))))))))))))))))
def fc11 : Fc := ⟨51, s11, [(.vr 0)]⟩
theorem c11 : compF Try.prog 11 = some fc11 := by kernel_rfl

/-- (*kinora/bits.Writer).Put · parameters 3 · 0:w 1:v 2:n 7:i -/
def s12 : S :=
  (.set 6 (.cn (.int .i64 0))
  (.chk (.bn (.cm .lss .i64) (.vr 2) (.cn (.int .i64 0)))
  (.chk (.gd (.bn (.cm .lss .i64) (.vr 2) (.cn (.int .i64 0))) false (.bn (.cm .gtr .i64) (.vr 2) (.cn (.int .i64 64))))
  (.chk (.gd (.or (.bn (.cm .lss .i64) (.vr 2) (.cn (.int .i64 0))) (.bn (.cm .gtr .i64) (.vr 2) (.cn (.int .i64 64)))) false (.bn (.sh false .u64) (.vr 1) (.vr 2)))
  (.set 19 (.or (.or (.bn (.cm .lss .i64) (.vr 2) (.cn (.int .i64 0))) (.bn (.cm .gtr .i64) (.vr 2) (.cn (.int .i64 64)))) (.bn (.cm .neq .u64) (.bn (.sh false .u64) (.vr 1) (.vr 2)) (.cn (.int .u64 0))))
  (.ite (.vr 19)
    (.set 6 (.cn (.int .i64 1))
    .ret)
    .nil
  (.chk (.bn (.ar .sub .i64) (.vr 2) (.cn (.int .i64 1)))
  (.set 7 (.bn (.ar .sub .i64) (.vr 2) (.cn (.int .i64 1)))
  (.blk 0
    (.loop
      (.chk (.bn (.cm .geq .i64) (.vr 7) (.cn (.int .i64 0)))
      (.set 23 (.bn (.cm .geq .i64) (.vr 7) (.cn (.int .i64 0)))
      (.ite (.vr 23)
        .nil
        (.exit 0)
      (.blk 1
        (.chk (.bn (.sh false .u64) (.vr 1) (.vr 7))
        (.call (some 32) 41 [(.vr 0), (.un (.cv .u8) (.bn (.bt .and .u64) (.bn (.sh false .u64) (.vr 1) (.vr 7)) (.cn (.int .u64 1))))] []
        .nil))
      (.chk (.bn (.ar .sub .i64) (.vr 7) (.cn (.int .i64 1)))
      (.set 7 (.bn (.ar .sub .i64) (.vr 7) (.cn (.int .i64 1)))
      .nil)))))))
  (.set 6 (.cn (.int .i64 0))
  .ret))))))))))
def fc12 : Fc := ⟨33, s12, [(.vr 6)]⟩
theorem c12 : compF Try.prog 12 = some fc12 := by kernel_rfl

/-- (*kinora/kinoraref2.Writer).Put · parameters 3 · 0:w 1:v 2:n 7:i -/
def s13 : S :=
  (.set 6 (.cn (.int .i64 0))
  (.chk (.bn (.cm .lss .i64) (.vr 2) (.cn (.int .i64 0)))
  (.chk (.gd (.bn (.cm .lss .i64) (.vr 2) (.cn (.int .i64 0))) false (.bn (.cm .gtr .i64) (.vr 2) (.cn (.int .i64 64))))
  (.chk (.gd (.or (.bn (.cm .lss .i64) (.vr 2) (.cn (.int .i64 0))) (.bn (.cm .gtr .i64) (.vr 2) (.cn (.int .i64 64)))) false (.bn (.cm .lss .i64) (.vr 2) (.cn (.int .i64 64))))
  (.chk (.gd (.gd (.or (.bn (.cm .lss .i64) (.vr 2) (.cn (.int .i64 0))) (.bn (.cm .gtr .i64) (.vr 2) (.cn (.int .i64 64)))) false (.bn (.cm .lss .i64) (.vr 2) (.cn (.int .i64 64)))) true (.un (.cv .u64) (.vr 2)))
  (.chk (.gd (.gd (.or (.bn (.cm .lss .i64) (.vr 2) (.cn (.int .i64 0))) (.bn (.cm .gtr .i64) (.vr 2) (.cn (.int .i64 64)))) false (.bn (.cm .lss .i64) (.vr 2) (.cn (.int .i64 64)))) true (.bn (.sh false .u64) (.vr 1) (.un (.cv .u64) (.vr 2))))
  (.set 24 (.or (.or (.bn (.cm .lss .i64) (.vr 2) (.cn (.int .i64 0))) (.bn (.cm .gtr .i64) (.vr 2) (.cn (.int .i64 64)))) (.and (.bn (.cm .lss .i64) (.vr 2) (.cn (.int .i64 64))) (.bn (.cm .neq .u64) (.bn (.sh false .u64) (.vr 1) (.un (.cv .u64) (.vr 2))) (.cn (.int .u64 0)))))
  (.ite (.vr 24)
    (.set 6 (.cn (.int .i64 1))
    .ret)
    .nil
  (.chk (.bn (.ar .sub .i64) (.vr 2) (.cn (.int .i64 1)))
  (.set 7 (.bn (.ar .sub .i64) (.vr 2) (.cn (.int .i64 1)))
  (.blk 0
    (.loop
      (.chk (.bn (.cm .geq .i64) (.vr 7) (.cn (.int .i64 0)))
      (.set 28 (.bn (.cm .geq .i64) (.vr 7) (.cn (.int .i64 0)))
      (.ite (.vr 28)
        .nil
        (.exit 0)
      (.blk 1
        (.chk (.un .nck (.vr 0))
        (.chk (.un (.fa 0) (.un .nck (.vr 0)))
        (.chk (.ld (.un (.fa 0) (.un .nck (.vr 0))))
        (.set 35 (.ld (.un (.fa 0) (.un .nck (.vr 0))))
        (.chk (.un (.cv .u64) (.vr 7))
        (.chk (.bn (.sh false .u64) (.vr 1) (.un (.cv .u64) (.vr 7)))
        (.op (some 42) (.buildSlice 25 1 #[(0, (.tmp 41))]) 25 [(41, (.un (.cv .u8) (.bn (.bt .and .u64) (.bn (.sh false .u64) (.vr 1) (.un (.cv .u64) (.vr 7))) (.cn (.int .u64 1)))))] []
        (.op (some 43) (.call ⟨(.builtin .append), #[(.tmp 35), (.tmp 42)], #[25, 25]⟩) 25 [(35, (.vr 35)), (42, (.vr 42))] []
        (.chk (.un .nck (.vr 0))
        (.chk (.un (.fa 0) (.un .nck (.vr 0)))
        (.st 1 (.un (.fa 0) (.un .nck (.vr 0))) (.vr 43) []
        .nil)))))))))))
      (.chk (.bn (.ar .sub .i64) (.vr 7) (.cn (.int .i64 1)))
      (.set 7 (.bn (.ar .sub .i64) (.vr 7) (.cn (.int .i64 1)))
      .nil)))))))
  (.set 6 (.cn (.int .i64 0))
  .ret))))))))))))
def fc13 : Fc := ⟨46, s13, [(.vr 6)]⟩
theorem c13 : compF Try.prog 13 = some fc13 := by kernel_rfl

/-- kinora/rice.Put · parameters 3 · 0:w 1:k 2:l 8:x 10:x 11:u 12:q -/
def s14 : S :=
  (.set 6 (.cn (.int .i64 0))
  (.call (some 14) 42 [(.vr 1)] []
  (.chk (.un .not (.vr 14))
  (.set 15 (.un .not (.vr 14))
  (.ite (.vr 15)
    (.set 6 (.cn (.int .i64 1))
    .ret)
    .nil
  (.set 16 (.vr 2)
  (.chk (.un .ln (.vr 16))
  (.set 17 (.un .ln (.vr 16))
  (.set 18 (.cn (.int .i64 0))
  (.blk 0
    (.loop
      (.chk (.bn (.cm .lss .i64) (.vr 18) (.vr 17))
      (.set 19 (.bn (.cm .lss .i64) (.vr 18) (.vr 17))
      (.ite (.vr 19)
        .nil
        (.exit 0)
      (.blk 1
        (.chk (.bn (.ia 1) (.vr 16) (.vr 18))
        (.chk (.ld (.bn (.ia 1) (.vr 16) (.vr 18)))
        (.set 8 (.ld (.bn (.ia 1) (.vr 16) (.vr 18)))
        (.call (some 23) 43 [(.vr 8)] []
        (.chk (.un .not (.vr 23))
        (.set 24 (.un .not (.vr 23))
        (.ite (.vr 24)
          (.set 6 (.cn (.int .i64 1))
          .ret)
          .nil
        .nil)))))))
      (.chk (.bn (.ar .add .i64) (.vr 18) (.cn (.int .i64 1)))
      (.set 18 (.bn (.ar .add .i64) (.vr 18) (.cn (.int .i64 1)))
      .nil)))))))
  (.set 26 (.vr 2)
  (.chk (.un .ln (.vr 26))
  (.set 27 (.un .ln (.vr 26))
  (.set 28 (.cn (.int .i64 0))
  (.blk 2
    (.loop
      (.chk (.bn (.cm .lss .i64) (.vr 28) (.vr 27))
      (.set 29 (.bn (.cm .lss .i64) (.vr 28) (.vr 27))
      (.ite (.vr 29)
        .nil
        (.exit 2)
      (.blk 3
        (.chk (.bn (.ia 1) (.vr 26) (.vr 28))
        (.chk (.ld (.bn (.ia 1) (.vr 26) (.vr 28)))
        (.set 10 (.ld (.bn (.ia 1) (.vr 26) (.vr 28)))
        (.call (some 33) 22 [(.vr 10)] []
        (.set 11 (.vr 33)
        (.chk (.bn (.sh false .u64) (.vr 11) (.vr 1))
        (.set 12 (.bn (.sh false .u64) (.vr 11) (.vr 1))
        (.chk (.bn (.cm .lss .u64) (.vr 12) (.cn (.int .u64 32)))
        (.set 38 (.bn (.cm .lss .u64) (.vr 12) (.cn (.int .u64 32)))
        (.ite (.vr 38)
          (.chk (.un (.cv .i64) (.vr 12))
          (.call (some 42) 44 [(.vr 0), (.un (.cv .i64) (.vr 12))] []
          (.chk (.bn (.sh true .u64) (.vr 12) (.vr 1))
          (.chk (.bn (.ar .sub .u64) (.vr 11) (.bn (.sh true .u64) (.vr 12) (.vr 1)))
          (.call (some 50) 12 [(.vr 0), (.bn (.ar .sub .u64) (.vr 11) (.bn (.sh true .u64) (.vr 12) (.vr 1))), (.vr 1)] []
          .nil)))))
          (.call (some 52) 44 [(.vr 0), (.cn (.int .i64 32))] []
          (.call (some 55) 12 [(.vr 0), (.vr 11), (.cn (.int .i64 32))] []
          .nil))
        .nil))))))))))
      (.chk (.bn (.ar .add .i64) (.vr 28) (.cn (.int .i64 1)))
      (.set 28 (.bn (.ar .add .i64) (.vr 28) (.cn (.int .i64 1)))
      .nil)))))))
  (.set 6 (.cn (.int .i64 0))
  .ret))))))))))))))))
def fc14 : Fc := ⟨57, s14, [(.vr 6)]⟩
theorem c14 : compF Try.prog 14 = some fc14 := by kernel_rfl

/-- kinora/kinoraref8.RicePut · parameters 3 · 0:w 1:k 2:l 7:i 8:u 9:q -/
def s15 : S :=
  (.set 6 (.cn (.int .i64 0))
  (.call (some 11) 45 [(.vr 1)] []
  (.chk (.un .not (.vr 11))
  (.set 13 (.un .not (.vr 11))
  (.ifg (.vr 13) false
    (.call (some 15) 33 [(.vr 2)] []
    .nil)
    (.set 15 (.cn undef)
    .nil)
  (.chk (.gd (.vr 13) false (.un .not (.vr 15)))
  (.chk (.or (.vr 13) (.un .not (.vr 15)))
  (.set 17 (.or (.vr 13) (.un .not (.vr 15)))
  (.ite (.vr 17)
    (.set 6 (.cn (.int .i64 1))
    .ret)
    .nil
  (.set 7 (.cn (.int .i64 0))
  (.blk 0
    (.loop
      (.chk (.un .ln (.vr 2))
      (.chk (.bn (.cm .lss .i64) (.vr 7) (.un .ln (.vr 2)))
      (.set 21 (.bn (.cm .lss .i64) (.vr 7) (.un .ln (.vr 2)))
      (.ite (.vr 21)
        .nil
        (.exit 0)
      (.blk 1
        (.chk (.bn (.ia 1) (.vr 2) (.vr 7))
        (.chk (.ld (.bn (.ia 1) (.vr 2) (.vr 7)))
        (.set 27 (.ld (.bn (.ia 1) (.vr 2) (.vr 7)))
        (.call (some 28) 35 [(.vr 27)] []
        (.set 8 (.vr 28)
        (.chk (.un (.cv .u64) (.vr 1))
        (.chk (.bn (.sh false .u64) (.vr 8) (.un (.cv .u64) (.vr 1)))
        (.set 9 (.un (.cv .i64) (.bn (.sh false .u64) (.vr 8) (.un (.cv .u64) (.vr 1))))
        (.chk (.bn (.cm .lss .i64) (.vr 9) (.cn (.int .i64 32)))
        (.set 35 (.bn (.cm .lss .i64) (.vr 9) (.cn (.int .i64 32)))
        (.ite (.vr 35)
          (.call (some 38) 46 [(.vr 0), (.vr 9)] []
          (.chk (.un (.cv .u64) (.vr 1))
          (.chk (.bn (.sh true .u64) (.cn (.int .u64 1)) (.un (.cv .u64) (.vr 1)))
          (.chk (.bn (.bt .and .u64) (.vr 8) (.bn (.ar .sub .u64) (.bn (.sh true .u64) (.cn (.int .u64 1)) (.un (.cv .u64) (.vr 1))) (.cn (.int .u64 1))))
          (.call (some 47) 13 [(.vr 0), (.bn (.bt .and .u64) (.vr 8) (.bn (.ar .sub .u64) (.bn (.sh true .u64) (.cn (.int .u64 1)) (.un (.cv .u64) (.vr 1))) (.cn (.int .u64 1)))), (.vr 1)] []
          .nil)))))
          (.call (some 49) 46 [(.vr 0), (.cn (.int .i64 32))] []
          (.call (some 52) 13 [(.vr 0), (.vr 8), (.cn (.int .i64 32))] []
          .nil))
        .nil)))))))))))
      (.chk (.bn (.ar .add .i64) (.vr 7) (.cn (.int .i64 1)))
      (.set 7 (.bn (.ar .add .i64) (.vr 7) (.cn (.int .i64 1)))
      .nil))))))))
  (.set 6 (.cn (.int .i64 0))
  .ret))))))))))))
def fc15 : Fc := ⟨53, s15, [(.vr 6)]⟩
theorem c15 : compF Try.prog 15 = some fc15 := by kernel_rfl

/-- (*kinora/bits.Writer).Len · parameters 1 · 0:w -/
def s16 : S :=
  (.set 2 (.cn (.int .i64 0))
  (.chk (.un .nck (.vr 0))
  (.chk (.un (.fa 1) (.un .nck (.vr 0)))
  (.chk (.ld (.un (.fa 1) (.un .nck (.vr 0))))
  (.set 2 (.ld (.un (.fa 1) (.un .nck (.vr 0))))
  .ret)))))
def fc16 : Fc := ⟨7, s16, [(.vr 2)]⟩
theorem c16 : compF Try.prog 16 = some fc16 := by kernel_rfl

/-- (*kinora/kinoraref2.Writer).Len · parameters 1 · 0:w -/
def s17 : S :=
  (.set 2 (.cn (.int .i64 0))
  (.chk (.un .nck (.vr 0))
  (.chk (.un (.fa 0) (.un .nck (.vr 0)))
  (.chk (.ld (.un (.fa 0) (.un .nck (.vr 0))))
  (.chk (.un .ln (.ld (.un (.fa 0) (.un .nck (.vr 0)))))
  (.set 2 (.un .ln (.ld (.un (.fa 0) (.un .nck (.vr 0)))))
  .ret))))))
def fc17 : Fc := ⟨8, s17, [(.vr 2)]⟩
theorem c17 : compF Try.prog 17 = some fc17 := by kernel_rfl

/-- kinora/kinoraref2.Same · parameters 2 · 0:a 1:b -/
def s18 : S :=
  (.set 4 (.cn (.bool false))
  (.op (some 6) (.convert 25 9 (.tmp 5)) 9 [(5, (.vr 0))] []
  (.op (some 8) (.convert 25 9 (.tmp 7)) 9 [(7, (.vr 1))] []
  (.chk (.bn (.eqs false) (.vr 6) (.vr 8))
  (.set 4 (.bn (.eqs false) (.vr 6) (.vr 8))
  .ret)))))
def fc18 : Fc := ⟨10, s18, [(.vr 4)]⟩
theorem c18 : compF Try.prog 18 = some fc18 := by kernel_rfl

/-- (*kinora/bits.Writer).Bytes · parameters 1 · 0:w -/
def s19 : S :=
  (.set 2 (.cn (.slice none 0 0))
  (.chk (.un .nck (.vr 0))
  (.chk (.un (.fa 0) (.un .nck (.vr 0)))
  (.chk (.ld (.un (.fa 0) (.un .nck (.vr 0))))
  (.set 6 (.ld (.un (.fa 0) (.un .nck (.vr 0))))
  (.op (some 7) (.call ⟨(.builtin .append), #[(.const (.slice none 0 0)), (.tmp 6)], #[25, 25]⟩) 25 [(6, (.vr 6))] []
  (.set 2 (.vr 7)
  .ret)))))))
def fc19 : Fc := ⟨8, s19, [(.vr 2)]⟩
theorem c19 : compF Try.prog 19 = some fc19 := by kernel_rfl

/-- (*kinora/kinoraref2.Writer).Bytes · parameters 1 · 0:w 3:out 4:i -/
def s20 : S :=
  (.set 2 (.cn (.slice none 0 0))
  (.chk (.un .nck (.vr 0))
  (.chk (.un (.fa 0) (.un .nck (.vr 0)))
  (.chk (.ld (.un (.fa 0) (.un .nck (.vr 0))))
  (.set 8 (.ld (.un (.fa 0) (.un .nck (.vr 0))))
  (.chk (.un .ln (.vr 8))
  (.op (some 12) (.makeSlice 25 (.tmp 11) (.tmp 11)) 25 [(11, (.bn (.dv false .i64) (.bn (.ar .add .i64) (.un .ln (.vr 8)) (.cn (.int .i64 7))) (.cn (.int .i64 8)))), (11, (.bn (.dv false .i64) (.bn (.ar .add .i64) (.un .ln (.vr 8)) (.cn (.int .i64 7))) (.cn (.int .i64 8))))] []
  (.set 3 (.vr 12)
  (.set 4 (.cn (.int .i64 0))
  (.blk 0
    (.loop
      (.chk (.un .nck (.vr 0))
      (.chk (.un (.fa 0) (.un .nck (.vr 0)))
      (.chk (.ld (.un (.fa 0) (.un .nck (.vr 0))))
      (.chk (.un .ln (.ld (.un (.fa 0) (.un .nck (.vr 0)))))
      (.chk (.bn (.cm .lss .i64) (.vr 4) (.un .ln (.ld (.un (.fa 0) (.un .nck (.vr 0))))))
      (.set 19 (.bn (.cm .lss .i64) (.vr 4) (.un .ln (.ld (.un (.fa 0) (.un .nck (.vr 0))))))
      (.ite (.vr 19)
        .nil
        (.exit 0)
      (.blk 1
        (.draw
        (.chk (.bn (.dv false .i64) (.vr 4) (.cn (.int .i64 8)))
        (.chk (.bn (.dv false .i64) (.vr 4) (.cn (.int .i64 8)))
        (.chk (.bn (.ia 1) (.vr 3) (.bn (.dv false .i64) (.vr 4) (.cn (.int .i64 8))))
        (.chk (.ld (.bn (.ia 1) (.vr 3) (.bn (.dv false .i64) (.vr 4) (.cn (.int .i64 8)))))
        (.set 29 (.ld (.bn (.ia 1) (.vr 3) (.bn (.dv false .i64) (.vr 4) (.cn (.int .i64 8)))))
        (.chk (.un .nck (.vr 0))
        (.chk (.un (.fa 0) (.un .nck (.vr 0)))
        (.chk (.ld (.un (.fa 0) (.un .nck (.vr 0))))
        (.set 33 (.ld (.un (.fa 0) (.un .nck (.vr 0))))
        (.chk (.bn (.ia 1) (.vr 33) (.vr 4))
        (.chk (.ld (.bn (.ia 1) (.vr 33) (.vr 4)))
        (.set 36 (.ld (.bn (.ia 1) (.vr 33) (.vr 4)))
        (.chk (.bn (.dv true .i64) (.vr 4) (.cn (.int .i64 8)))
        (.chk (.bn (.sh true .u8) (.vr 36) (.un (.cv .u64) (.bn (.ar .sub .i64) (.cn (.int .i64 7)) (.bn (.dv true .i64) (.vr 4) (.cn (.int .i64 8))))))
        (.chk (.bn (.bt .or .u8) (.vr 29) (.bn (.sh true .u8) (.vr 36) (.un (.cv .u64) (.bn (.ar .sub .i64) (.cn (.int .i64 7)) (.bn (.dv true .i64) (.vr 4) (.cn (.int .i64 8)))))))
        (.chk (.bn (.ia 1) (.vr 3) (.bn (.dv false .i64) (.vr 4) (.cn (.int .i64 8))))
        (.st 1 (.bn (.ia 1) (.vr 3) (.bn (.dv false .i64) (.vr 4) (.cn (.int .i64 8)))) (.bn (.bt .or .u8) (.vr 29) (.bn (.sh true .u8) (.vr 36) (.un (.cv .u64) (.bn (.ar .sub .i64) (.cn (.int .i64 7)) (.bn (.dv true .i64) (.vr 4) (.cn (.int .i64 8))))))) []
        .nil))))))))))))))))))
      (.chk (.bn (.ar .add .i64) (.vr 4) (.cn (.int .i64 1)))
      (.set 4 (.bn (.ar .add .i64) (.vr 4) (.cn (.int .i64 1)))
      .nil)))))))))))
  (.set 2 (.vr 3)
  .ret)))))))))))
def fc20 : Fc := ⟨45, s20, [(.vr 2)]⟩
theorem c20 : compF Try.prog 20 = some fc20 := by kernel_rfl

/-- kinora/kinoraref2.Wide · parameters 1 · 0:x -/
def s21 : S :=
  (.set 2 (.cn (.bool false))
  (.chk (.bn (.cm .geq .i64) (.vr 0) (.cn (.int .i64 (-1073741824))))
  (.chk (.gd (.bn (.cm .geq .i64) (.vr 0) (.cn (.int .i64 (-1073741824)))) true (.bn (.cm .lss .i64) (.vr 0) (.cn (.int .i64 1073741824))))
  (.set 2 (.and (.bn (.cm .geq .i64) (.vr 0) (.cn (.int .i64 (-1073741824)))) (.bn (.cm .lss .i64) (.vr 0) (.cn (.int .i64 1073741824))))
  .ret))))
def fc21 : Fc := ⟨9, s21, [(.vr 2)]⟩
theorem c21 : compF Try.prog 21 = some fc21 := by kernel_rfl

/-- kinora/rice.Fold · parameters 1 · 0:x -/
def s22 : S :=
  (.set 2 (.cn (.int .u64 0))
  (.blk 0
    (.call (some 5) 43 [(.vr 0)] []
    (.chk (.un .not (.vr 5))
    (.set 3 (.un .not (.vr 5))
    (.ite (.vr 3)
      (.set 2 (.cn (.int .u64 0))
      .ret)
      (.chk (.bn (.cm .geq .i64) (.vr 0) (.cn (.int .i64 0)))
      (.set 7 (.bn (.cm .geq .i64) (.vr 0) (.cn (.int .i64 0)))
      (.ite (.vr 7)
        (.chk (.bn (.ar .mul .i64) (.cn (.int .i64 2)) (.vr 0))
        (.set 2 (.un (.cv .u64) (.bn (.ar .mul .i64) (.cn (.int .i64 2)) (.vr 0)))
        .ret))
        .nil
      .nil)))
    .nil))))
  (.chk (.bn (.ar .mul .i64) (.cn (.int .i64 (-2))) (.vr 0))
  (.set 2 (.un (.cv .u64) (.bn (.ar .sub .i64) (.bn (.ar .mul .i64) (.cn (.int .i64 (-2))) (.vr 0)) (.cn (.int .i64 1))))
  .ret))))
def fc22 : Fc := ⟨17, s22, [(.vr 2)]⟩
theorem c22 : compF Try.prog 22 = some fc22 := by kernel_rfl

/-- kinora/rice.Unfold · parameters 1 · 0:u -/
def s23 : S :=
  (.set 2 (.cn (.int .i64 0))
  (.blk 0
    (.chk (.bn (.cm .geq .u64) (.vr 0) (.cn (.int .u64 2147483648)))
    (.set 3 (.bn (.cm .geq .u64) (.vr 0) (.cn (.int .u64 2147483648)))
    (.ite (.vr 3)
      (.set 2 (.cn (.int .i64 0))
      .ret)
      (.chk (.bn (.dv true .u64) (.vr 0) (.cn (.int .u64 2)))
      (.set 6 (.bn (.cm .eql .u64) (.bn (.dv true .u64) (.vr 0) (.cn (.int .u64 2))) (.cn (.int .u64 0)))
      (.ite (.vr 6)
        (.chk (.bn (.dv false .u64) (.vr 0) (.cn (.int .u64 2)))
        (.set 2 (.un (.cv .i64) (.bn (.dv false .u64) (.vr 0) (.cn (.int .u64 2))))
        .ret))
        .nil
      .nil)))
    .nil)))
  (.chk (.bn (.dv false .u64) (.vr 0) (.cn (.int .u64 2)))
  (.set 2 (.bn (.ar .sub .i64) (.un (.neg .i64) (.un (.cv .i64) (.bn (.dv false .u64) (.vr 0) (.cn (.int .u64 2))))) (.cn (.int .i64 1)))
  .ret))))
def fc23 : Fc := ⟨18, s23, [(.vr 2)]⟩
theorem c23 : compF Try.prog 23 = some fc23 := by kernel_rfl

/-- kinora/rice.Cost · parameters 2 · 0:k 1:x 5:q -/
def s24 : S :=
  (.set 4 (.cn (.int .i64 0))
  (.call (some 7) 42 [(.vr 0)] []
  (.chk (.un .not (.vr 7))
  (.set 9 (.un .not (.vr 7))
  (.ifg (.vr 9) false
    (.call (some 11) 43 [(.vr 1)] []
    .nil)
    (.set 11 (.cn undef)
    .nil)
  (.chk (.gd (.vr 9) false (.un .not (.vr 11)))
  (.chk (.or (.vr 9) (.un .not (.vr 11)))
  (.set 13 (.or (.vr 9) (.un .not (.vr 11)))
  (.ite (.vr 13)
    (.set 4 (.cn (.int .i64 0))
    .ret)
    .nil
  (.call (some 15) 22 [(.vr 1)] []
  (.chk (.bn (.sh false .u64) (.vr 15) (.vr 0))
  (.set 5 (.un (.cv .i64) (.bn (.sh false .u64) (.vr 15) (.vr 0)))
  (.chk (.bn (.cm .lss .i64) (.vr 5) (.cn (.int .i64 32)))
  (.set 20 (.bn (.cm .lss .i64) (.vr 5) (.cn (.int .i64 32)))
  (.ite (.vr 20)
    (.chk (.bn (.ar .add .i64) (.vr 5) (.cn (.int .i64 1)))
    (.chk (.bn (.ar .add .i64) (.bn (.ar .add .i64) (.vr 5) (.cn (.int .i64 1))) (.vr 0))
    (.set 4 (.bn (.ar .add .i64) (.bn (.ar .add .i64) (.vr 5) (.cn (.int .i64 1))) (.vr 0))
    .ret)))
    .nil
  (.set 4 (.cn (.int .i64 65))
  .ret))))))))))))))))
def fc24 : Fc := ⟨25, s24, [(.vr 4)]⟩
theorem c24 : compF Try.prog 24 = some fc24 := by kernel_rfl

/-- kinora/bits.New · parameters 1 · 0:b -/
def s25 : S :=
  (.set 2 (.cn (.pointer none))
  (.op (some 4) (.call ⟨(.builtin .append), #[(.const (.slice none 0 0)), (.tmp 3)], #[25, 25]⟩) 25 [(3, (.vr 0))] []
  (.chk (.bd 0 1 (.vr 4) (.cn (.agg #[(.slice none 0 0), (.int .i64 0), (.int .i64 0)])))
  (.op (some 6) (.box 68 (.tmp 5)) 46 [(5, (.bd 0 1 (.vr 4) (.cn (.agg #[(.slice none 0 0), (.int .i64 0), (.int .i64 0)]))))] []
  (.set 2 (.vr 6)
  .ret)))))
def fc25 : Fc := ⟨7, s25, [(.vr 2)]⟩
theorem c25 : compF Try.prog 25 = some fc25 := by kernel_rfl

/-- kinora/kinoraref2.NewReader · parameters 1 · 0:b -/
def s26 : S :=
  (.set 2 (.cn (.pointer none))
  (.chk (.bd 0 1 (.vr 0) (.cn (.agg #[(.slice none 0 0), (.int .i64 0), (.int .i64 0)])))
  (.op (some 5) (.box 55 (.tmp 4)) 48 [(4, (.bd 0 1 (.vr 0) (.cn (.agg #[(.slice none 0 0), (.int .i64 0), (.int .i64 0)]))))] []
  (.set 2 (.vr 5)
  .ret))))
def fc26 : Fc := ⟨6, s26, [(.vr 2)]⟩
theorem c26 : compF Try.prog 26 = some fc26 := by kernel_rfl

/-- (*kinora/bits.Reader).Get · parameters 2 · 0:r 1:n 5:v -/
def s27 : S :=
  (.set 4 (.cn (.int .u64 0))
  (.chk (.un .nck (.vr 0))
  (.chk (.un (.fa 2) (.un .nck (.vr 0)))
  (.chk (.ld (.un (.fa 2) (.un .nck (.vr 0))))
  (.chk (.bn (.cm .neq .i64) (.ld (.un (.fa 2) (.un .nck (.vr 0)))) (.cn (.int .i64 0)))
  (.set 10 (.bn (.cm .neq .i64) (.ld (.un (.fa 2) (.un .nck (.vr 0)))) (.cn (.int .i64 0)))
  (.ite (.vr 10)
    (.set 4 (.cn (.int .u64 0))
    .ret)
    .nil
  (.chk (.bn (.cm .lss .i64) (.vr 1) (.cn (.int .i64 0)))
  (.chk (.gd (.bn (.cm .lss .i64) (.vr 1) (.cn (.int .i64 0))) false (.bn (.cm .gtr .i64) (.vr 1) (.cn (.int .i64 64))))
  (.set 16 (.or (.bn (.cm .lss .i64) (.vr 1) (.cn (.int .i64 0))) (.bn (.cm .gtr .i64) (.vr 1) (.cn (.int .i64 64))))
  (.ite (.vr 16)
    (.chk (.un .nck (.vr 0))
    (.chk (.un (.fa 2) (.un .nck (.vr 0)))
    (.st 1 (.un (.fa 2) (.un .nck (.vr 0))) (.cn (.int .i64 1)) []
    (.set 4 (.cn (.int .u64 0))
    .ret))))
    .nil
  (.call (some 22) 47 [(.vr 0)] []
  (.chk (.bn (.cm .gtr .i64) (.vr 1) (.vr 22))
  (.set 23 (.bn (.cm .gtr .i64) (.vr 1) (.vr 22))
  (.ite (.vr 23)
    (.chk (.un .nck (.vr 0))
    (.chk (.un (.fa 2) (.un .nck (.vr 0)))
    (.st 1 (.un (.fa 2) (.un .nck (.vr 0))) (.cn (.int .i64 3)) []
    (.set 4 (.cn (.int .u64 0))
    .ret))))
    .nil
  (.set 5 (.cn (.int .u64 0))
  (.set 27 (.vr 1)
  (.set 28 (.cn (.int .i64 0))
  (.blk 0
    (.loop
      (.chk (.bn (.cm .lss .i64) (.vr 28) (.vr 27))
      (.set 29 (.bn (.cm .lss .i64) (.vr 28) (.vr 27))
      (.ite (.vr 29)
        .nil
        (.exit 0)
      (.blk 1
        (.chk (.bn (.sh true .u64) (.vr 5) (.cn (.int .u64 1)))
        (.chk (.un .nck (.vr 0))
        (.chk (.un (.fa 1) (.un .nck (.vr 0)))
        (.chk (.ld (.un (.fa 1) (.un .nck (.vr 0))))
        (.set 36 (.ld (.un (.fa 1) (.un .nck (.vr 0))))
        (.call (some 37) 48 [(.vr 0), (.vr 36)] []
        (.chk (.un (.cv .u64) (.vr 37))
        (.set 5 (.bn (.bt .or .u64) (.bn (.sh true .u64) (.vr 5) (.cn (.int .u64 1))) (.un (.cv .u64) (.vr 37)))
        (.chk (.un .nck (.vr 0))
        (.chk (.un (.fa 1) (.un .nck (.vr 0)))
        (.chk (.ld (.un (.fa 1) (.un .nck (.vr 0))))
        (.set 43 (.ld (.un (.fa 1) (.un .nck (.vr 0))))
        (.chk (.bn (.ar .add .i64) (.vr 43) (.cn (.int .i64 1)))
        (.chk (.un .nck (.vr 0))
        (.chk (.un (.fa 1) (.un .nck (.vr 0)))
        (.st 1 (.un (.fa 1) (.un .nck (.vr 0))) (.bn (.ar .add .i64) (.vr 43) (.cn (.int .i64 1))) []
        .nil))))))))))))))))
      (.chk (.bn (.ar .add .i64) (.vr 28) (.cn (.int .i64 1)))
      (.set 28 (.bn (.ar .add .i64) (.vr 28) (.cn (.int .i64 1)))
      .nil)))))))
  (.set 4 (.vr 5)
  .ret))))))))))))))))))))
def fc27 : Fc := ⟨49, s27, [(.vr 4)]⟩
theorem c27 : compF Try.prog 27 = some fc27 := by kernel_rfl

/-- (*kinora/kinoraref2.Reader).Get · parameters 2 · 0:r 1:n 5:v 6:i -/
def s28 : S :=
  (.set 4 (.cn (.int .u64 0))
  (.chk (.un .nck (.vr 0))
  (.chk (.un (.fa 2) (.un .nck (.vr 0)))
  (.chk (.ld (.un (.fa 2) (.un .nck (.vr 0))))
  (.chk (.bn (.cm .neq .i64) (.ld (.un (.fa 2) (.un .nck (.vr 0)))) (.cn (.int .i64 0)))
  (.set 11 (.bn (.cm .neq .i64) (.ld (.un (.fa 2) (.un .nck (.vr 0)))) (.cn (.int .i64 0)))
  (.ite (.vr 11)
    (.set 4 (.cn (.int .u64 0))
    .ret)
    .nil
  (.chk (.bn (.cm .lss .i64) (.vr 1) (.cn (.int .i64 0)))
  (.chk (.gd (.bn (.cm .lss .i64) (.vr 1) (.cn (.int .i64 0))) false (.bn (.cm .gtr .i64) (.vr 1) (.cn (.int .i64 64))))
  (.set 17 (.or (.bn (.cm .lss .i64) (.vr 1) (.cn (.int .i64 0))) (.bn (.cm .gtr .i64) (.vr 1) (.cn (.int .i64 64))))
  (.ite (.vr 17)
    (.chk (.un .nck (.vr 0))
    (.chk (.un (.fa 2) (.un .nck (.vr 0)))
    (.st 1 (.un (.fa 2) (.un .nck (.vr 0))) (.cn (.int .i64 1)) []
    (.set 4 (.cn (.int .u64 0))
    .ret))))
    .nil
  (.call (some 23) 49 [(.vr 0)] []
  (.chk (.bn (.cm .gtr .i64) (.vr 1) (.vr 23))
  (.set 24 (.bn (.cm .gtr .i64) (.vr 1) (.vr 23))
  (.ite (.vr 24)
    (.chk (.un .nck (.vr 0))
    (.chk (.un (.fa 2) (.un .nck (.vr 0)))
    (.st 1 (.un (.fa 2) (.un .nck (.vr 0))) (.cn (.int .i64 3)) []
    (.set 4 (.cn (.int .u64 0))
    .ret))))
    .nil
  (.set 5 (.cn (.int .u64 0))
  (.set 6 (.cn (.int .i64 0))
  (.blk 0
    (.loop
      (.chk (.bn (.cm .lss .i64) (.vr 6) (.vr 1))
      (.set 30 (.bn (.cm .lss .i64) (.vr 6) (.vr 1))
      (.ite (.vr 30)
        .nil
        (.exit 0)
      (.blk 1
        (.chk (.bn (.sh true .u64) (.vr 5) (.cn (.int .u64 1)))
        (.chk (.un .nck (.vr 0))
        (.chk (.un (.fa 1) (.un .nck (.vr 0)))
        (.chk (.ld (.un (.fa 1) (.un .nck (.vr 0))))
        (.set 39 (.ld (.un (.fa 1) (.un .nck (.vr 0))))
        (.chk (.bn (.ar .add .i64) (.vr 39) (.vr 6))
        (.call (some 42) 50 [(.vr 0), (.bn (.ar .add .i64) (.vr 39) (.vr 6))] []
        (.chk (.bn (.bt .or .u64) (.bn (.sh true .u64) (.vr 5) (.cn (.int .u64 1))) (.vr 42))
        (.set 5 (.bn (.bt .or .u64) (.bn (.sh true .u64) (.vr 5) (.cn (.int .u64 1))) (.vr 42))
        .nil)))))))))
      (.chk (.bn (.ar .add .i64) (.vr 6) (.cn (.int .i64 1)))
      (.set 6 (.bn (.ar .add .i64) (.vr 6) (.cn (.int .i64 1)))
      .nil)))))))
  (.chk (.un .nck (.vr 0))
  (.chk (.un (.fa 1) (.un .nck (.vr 0)))
  (.chk (.ld (.un (.fa 1) (.un .nck (.vr 0))))
  (.set 48 (.ld (.un (.fa 1) (.un .nck (.vr 0))))
  (.chk (.bn (.ar .add .i64) (.vr 48) (.vr 1))
  (.chk (.un .nck (.vr 0))
  (.chk (.un (.fa 1) (.un .nck (.vr 0)))
  (.st 1 (.un (.fa 1) (.un .nck (.vr 0))) (.bn (.ar .add .i64) (.vr 48) (.vr 1)) []
  (.set 4 (.vr 5)
  .ret)))))))))))))))))))))))))))
def fc28 : Fc := ⟨54, s28, [(.vr 4)]⟩
theorem c28 : compF Try.prog 28 = some fc28 := by kernel_rfl

/-- kinora/rice.Get · parameters 3 · 0:r 1:k 2:n 8:out 9:x 10:err -/
def s29 : S :=
  (.set 6 (.cn (.slice none 0 0))
  (.set 7 (.cn (.int .i64 0))
  (.call (some 12) 42 [(.vr 1)] []
  (.chk (.un .not (.vr 12))
  (.set 14 (.un .not (.vr 12))
  (.chk (.gd (.vr 14) false (.bn (.cm .lss .i64) (.vr 2) (.cn (.int .i64 0))))
  (.chk (.or (.vr 14) (.bn (.cm .lss .i64) (.vr 2) (.cn (.int .i64 0))))
  (.set 18 (.or (.vr 14) (.bn (.cm .lss .i64) (.vr 2) (.cn (.int .i64 0))))
  (.chk (.gd (.vr 18) false (.bn (.cm .gtr .i64) (.vr 2) (.cn (.int .i64 4194304))))
  (.chk (.or (.vr 18) (.bn (.cm .gtr .i64) (.vr 2) (.cn (.int .i64 4194304))))
  (.set 21 (.or (.vr 18) (.bn (.cm .gtr .i64) (.vr 2) (.cn (.int .i64 4194304))))
  (.ite (.vr 21)
    (.set 6 (.cn (.slice none 0 0))
    (.set 7 (.cn (.int .i64 1))
    .ret))
    .nil
  (.call (some 23) 51 [(.vr 0)] []
  (.chk (.bn (.cm .neq .i64) (.vr 23) (.cn (.int .i64 0)))
  (.set 24 (.bn (.cm .neq .i64) (.vr 23) (.cn (.int .i64 0)))
  (.ite (.vr 24)
    (.call (some 26) 51 [(.vr 0)] []
    (.set 6 (.cn (.slice none 0 0))
    (.set 7 (.vr 26)
    .ret)))
    .nil
  (.set 8 (.cn (.slice none 0 0))
  (.set 27 (.vr 2)
  (.set 28 (.cn (.int .i64 0))
  (.blk 0
    (.loop
      (.chk (.bn (.cm .lss .i64) (.vr 28) (.vr 27))
      (.set 29 (.bn (.cm .lss .i64) (.vr 28) (.vr 27))
      (.ite (.vr 29)
        .nil
        (.exit 0)
      (.blk 1
        (.call (some 33) 52 [(.vr 0), (.vr 1)] []
        (.chk (.un (.ex 0) (.vr 33))
        (.chk (.un (.ex 1) (.vr 33))
        (.set 9 (.un (.ex 0) (.vr 33))
        (.set 10 (.un (.ex 1) (.vr 33))
        (.chk (.bn (.cm .neq .i64) (.vr 10) (.cn (.int .i64 0)))
        (.set 37 (.bn (.cm .neq .i64) (.vr 10) (.cn (.int .i64 0)))
        (.ite (.vr 37)
          (.set 6 (.cn (.slice none 0 0))
          (.set 7 (.vr 10)
          .ret))
          .nil
        (.op (some 41) (.buildSlice 22 1 #[(0, (.tmp 40))]) 22 [(40, (.vr 9))] []
        (.op (some 42) (.call ⟨(.builtin .append), #[(.tmp 39), (.tmp 41)], #[22, 22]⟩) 22 [(39, (.vr 8)), (41, (.vr 41))] []
        (.set 8 (.vr 42)
        .nil)))))))))))
      (.chk (.bn (.ar .add .i64) (.vr 28) (.cn (.int .i64 1)))
      (.set 28 (.bn (.ar .add .i64) (.vr 28) (.cn (.int .i64 1)))
      .nil)))))))
  (.set 6 (.vr 8)
  (.set 7 (.cn (.int .i64 0))
  .ret))))))))))))))))))))))
def fc29 : Fc := ⟨45, s29, [(.vr 6), (.vr 7)]⟩
theorem c29 : compF Try.prog 29 = some fc29 := by kernel_rfl

/-- kinora/kinoraref8.RiceGet · parameters 3 · 0:r 1:k 2:n 8:out 9:i 10:q 11:u -/
def s30 : S :=
  (.set 6 (.cn (.slice none 0 0))
  (.set 7 (.cn (.int .i64 0))
  (.call (some 13) 45 [(.vr 1)] []
  (.chk (.un .not (.vr 13))
  (.set 15 (.un .not (.vr 13))
  (.chk (.gd (.vr 15) false (.bn (.cm .lss .i64) (.vr 2) (.cn (.int .i64 0))))
  (.chk (.or (.vr 15) (.bn (.cm .lss .i64) (.vr 2) (.cn (.int .i64 0))))
  (.set 19 (.or (.vr 15) (.bn (.cm .lss .i64) (.vr 2) (.cn (.int .i64 0))))
  (.chk (.gd (.vr 19) false (.bn (.cm .gtr .i64) (.vr 2) (.cn (.int .i64 4194304))))
  (.chk (.or (.vr 19) (.bn (.cm .gtr .i64) (.vr 2) (.cn (.int .i64 4194304))))
  (.set 22 (.or (.vr 19) (.bn (.cm .gtr .i64) (.vr 2) (.cn (.int .i64 4194304))))
  (.ite (.vr 22)
    (.set 6 (.cn (.slice none 0 0))
    (.set 7 (.cn (.int .i64 1))
    .ret))
    .nil
  (.chk (.un .nck (.vr 0))
  (.chk (.un (.fa 2) (.un .nck (.vr 0)))
  (.chk (.ld (.un (.fa 2) (.un .nck (.vr 0))))
  (.chk (.bn (.cm .neq .i64) (.ld (.un (.fa 2) (.un .nck (.vr 0)))) (.cn (.int .i64 0)))
  (.set 27 (.bn (.cm .neq .i64) (.ld (.un (.fa 2) (.un .nck (.vr 0)))) (.cn (.int .i64 0)))
  (.ite (.vr 27)
    (.draw
    (.chk (.un .nck (.vr 0))
    (.chk (.un (.fa 2) (.un .nck (.vr 0)))
    (.chk (.ld (.un (.fa 2) (.un .nck (.vr 0))))
    (.set 6 (.cn (.slice none 0 0))
    (.set 7 (.ld (.un (.fa 2) (.un .nck (.vr 0))))
    .ret))))))
    .nil
  (.set 8 (.cn (.slice none 0 0))
  (.set 9 (.cn (.int .i64 0))
  (.blk 0
    (.loop
      (.chk (.bn (.cm .lss .i64) (.vr 9) (.vr 2))
      (.set 34 (.bn (.cm .lss .i64) (.vr 9) (.vr 2))
      (.ite (.vr 34)
        .nil
        (.exit 0)
      (.blk 1
        (.call (some 38) 53 [(.vr 0), (.cn (.int .i64 32))] []
        (.set 10 (.vr 38)
        (.set 11 (.cn (.int .u64 0))
        (.chk (.bn (.cm .lss .i64) (.vr 10) (.cn (.int .i64 32)))
        (.set 40 (.bn (.cm .lss .i64) (.vr 10) (.cn (.int .i64 32)))
        (.ite (.vr 40)
          (.chk (.un (.cv .u64) (.vr 10))
          (.chk (.un (.cv .u64) (.vr 1))
          (.chk (.bn (.sh true .u64) (.un (.cv .u64) (.vr 10)) (.un (.cv .u64) (.vr 1)))
          (.call (some 48) 28 [(.vr 0), (.vr 1)] []
          (.chk (.bn (.bt .or .u64) (.bn (.sh true .u64) (.un (.cv .u64) (.vr 10)) (.un (.cv .u64) (.vr 1))) (.vr 48))
          (.set 11 (.bn (.bt .or .u64) (.bn (.sh true .u64) (.un (.cv .u64) (.vr 10)) (.un (.cv .u64) (.vr 1))) (.vr 48))
          .nil))))))
          (.call (some 51) 28 [(.vr 0), (.cn (.int .i64 32))] []
          (.set 11 (.vr 51)
          (.chk (.un .nck (.vr 0))
          (.chk (.un (.fa 2) (.un .nck (.vr 0)))
          (.chk (.ld (.un (.fa 2) (.un .nck (.vr 0))))
          (.chk (.bn (.cm .eql .i64) (.ld (.un (.fa 2) (.un .nck (.vr 0)))) (.cn (.int .i64 0)))
          (.chk (.gd (.bn (.cm .eql .i64) (.ld (.un (.fa 2) (.un .nck (.vr 0)))) (.cn (.int .i64 0))) true (.bn (.cm .geq .u64) (.vr 11) (.cn (.int .u64 2147483648))))
          (.chk (.gd (.gd (.bn (.cm .eql .i64) (.ld (.un (.fa 2) (.un .nck (.vr 0)))) (.cn (.int .i64 0))) true (.bn (.cm .geq .u64) (.vr 11) (.cn (.int .u64 2147483648)))) false (.un (.cv .u64) (.vr 1)))
          (.chk (.gd (.gd (.bn (.cm .eql .i64) (.ld (.un (.fa 2) (.un .nck (.vr 0)))) (.cn (.int .i64 0))) true (.bn (.cm .geq .u64) (.vr 11) (.cn (.int .u64 2147483648)))) false (.bn (.sh false .u64) (.vr 11) (.un (.cv .u64) (.vr 1))))
          (.set 67 (.and (.bn (.cm .eql .i64) (.ld (.un (.fa 2) (.un .nck (.vr 0)))) (.cn (.int .i64 0))) (.or (.bn (.cm .geq .u64) (.vr 11) (.cn (.int .u64 2147483648))) (.bn (.cm .lss .u64) (.bn (.sh false .u64) (.vr 11) (.un (.cv .u64) (.vr 1))) (.cn (.int .u64 32)))))
          (.ite (.vr 67)
            (.set 6 (.cn (.slice none 0 0))
            (.set 7 (.cn (.int .i64 2))
            .ret))
            .nil
          .nil)))))))))))
        (.chk (.un .nck (.vr 0))
        (.chk (.un (.fa 2) (.un .nck (.vr 0)))
        (.chk (.ld (.un (.fa 2) (.un .nck (.vr 0))))
        (.chk (.bn (.cm .neq .i64) (.ld (.un (.fa 2) (.un .nck (.vr 0)))) (.cn (.int .i64 0)))
        (.set 72 (.bn (.cm .neq .i64) (.ld (.un (.fa 2) (.un .nck (.vr 0)))) (.cn (.int .i64 0)))
        (.ite (.vr 72)
          (.draw
          (.chk (.un .nck (.vr 0))
          (.chk (.un (.fa 2) (.un .nck (.vr 0)))
          (.chk (.ld (.un (.fa 2) (.un .nck (.vr 0))))
          (.set 6 (.cn (.slice none 0 0))
          (.set 7 (.ld (.un (.fa 2) (.un .nck (.vr 0))))
          .ret))))))
          .nil
        (.call (some 79) 36 [(.vr 11)] []
        (.op (some 80) (.buildSlice 22 1 #[(0, (.tmp 79))]) 22 [(79, (.vr 79))] []
        (.op (some 81) (.call ⟨(.builtin .append), #[(.tmp 77), (.tmp 80)], #[22, 22]⟩) 22 [(77, (.vr 8)), (80, (.vr 80))] []
        (.set 8 (.vr 81)
        .nil))))))))))))))))
      (.chk (.bn (.ar .add .i64) (.vr 9) (.cn (.int .i64 1)))
      (.set 9 (.bn (.ar .add .i64) (.vr 9) (.cn (.int .i64 1)))
      .nil)))))))
  (.set 6 (.vr 8)
  (.set 7 (.cn (.int .i64 0))
  .ret)))))))))))))))))))))))
def fc30 : Fc := ⟨83, s30, [(.vr 6), (.vr 7)]⟩
theorem c30 : compF Try.prog 30 = some fc30 := by kernel_rfl

/-- kinora/kinoraref2.SameInts · parameters 2 · 0:a 1:b 5:i -/
def s31 : S :=
  (.set 4 (.cn (.bool false))
  (.chk (.un .ln (.vr 0))
  (.chk (.un .ln (.vr 1))
  (.set 10 (.bn (.cm .neq .i64) (.un .ln (.vr 0)) (.un .ln (.vr 1)))
  (.ite (.vr 10)
    (.set 4 (.cn (.bool false))
    .ret)
    .nil
  (.set 5 (.cn (.int .i64 0))
  (.blk 0
    (.loop
      (.chk (.un .ln (.vr 0))
      (.chk (.bn (.cm .lss .i64) (.vr 5) (.un .ln (.vr 0)))
      (.set 14 (.bn (.cm .lss .i64) (.vr 5) (.un .ln (.vr 0)))
      (.ite (.vr 14)
        .nil
        (.exit 0)
      (.blk 1
        (.draw
        (.chk (.bn (.ia 1) (.vr 0) (.vr 5))
        (.chk (.ld (.bn (.ia 1) (.vr 0) (.vr 5)))
        (.chk (.bn (.ia 1) (.vr 1) (.vr 5))
        (.chk (.ld (.bn (.ia 1) (.vr 1) (.vr 5)))
        (.chk (.bn (.cm .neq .i64) (.ld (.bn (.ia 1) (.vr 0) (.vr 5))) (.ld (.bn (.ia 1) (.vr 1) (.vr 5))))
        (.set 25 (.bn (.cm .neq .i64) (.ld (.bn (.ia 1) (.vr 0) (.vr 5))) (.ld (.bn (.ia 1) (.vr 1) (.vr 5))))
        (.ite (.vr 25)
          (.set 4 (.cn (.bool false))
          .ret)
          .nil
        .nil))))))))
      (.chk (.bn (.ar .add .i64) (.vr 5) (.cn (.int .i64 1)))
      (.set 5 (.bn (.ar .add .i64) (.vr 5) (.cn (.int .i64 1)))
      .nil))))))))
  (.set 4 (.cn (.bool true))
  .ret))))))))
def fc31 : Fc := ⟨26, s31, [(.vr 4)]⟩
theorem c31 : compF Try.prog 31 = some fc31 := by kernel_rfl

/-- (*kinora/bits.Reader).At · parameters 1 · 0:r -/
def s32 : S :=
  (.set 2 (.cn (.int .i64 0))
  (.chk (.un .nck (.vr 0))
  (.chk (.un (.fa 1) (.un .nck (.vr 0)))
  (.chk (.ld (.un (.fa 1) (.un .nck (.vr 0))))
  (.set 2 (.ld (.un (.fa 1) (.un .nck (.vr 0))))
  .ret)))))
def fc32 : Fc := ⟨7, s32, [(.vr 2)]⟩
theorem c32 : compF Try.prog 32 = some fc32 := by kernel_rfl

/-- kinora/kinoraref2.AllWide · parameters 1 · 0:l 3:i -/
def s33 : S :=
  (.set 2 (.cn (.bool false))
  (.set 3 (.cn (.int .i64 0))
  (.blk 0
    (.loop
      (.chk (.un .ln (.vr 0))
      (.chk (.bn (.cm .lss .i64) (.vr 3) (.un .ln (.vr 0)))
      (.set 7 (.bn (.cm .lss .i64) (.vr 3) (.un .ln (.vr 0)))
      (.ite (.vr 7)
        .nil
        (.exit 0)
      (.blk 1
        (.chk (.bn (.ia 1) (.vr 0) (.vr 3))
        (.chk (.ld (.bn (.ia 1) (.vr 0) (.vr 3)))
        (.set 13 (.ld (.bn (.ia 1) (.vr 0) (.vr 3)))
        (.call (some 14) 21 [(.vr 13)] []
        (.chk (.un .not (.vr 14))
        (.set 15 (.un .not (.vr 14))
        (.ite (.vr 15)
          (.set 2 (.cn (.bool false))
          .ret)
          .nil
        .nil)))))))
      (.chk (.bn (.ar .add .i64) (.vr 3) (.cn (.int .i64 1)))
      (.set 3 (.bn (.ar .add .i64) (.vr 3) (.cn (.int .i64 1)))
      .nil))))))))
  (.set 2 (.cn (.bool true))
  .ret))))
def fc33 : Fc := ⟨16, s33, [(.vr 2)]⟩
theorem c33 : compF Try.prog 33 = some fc33 := by kernel_rfl

/-- kinora/rice.Sum · parameters 2 · 0:k 1:l 5:sum 7:x -/
def s34 : S :=
  (.set 4 (.cn (.int .i64 0))
  (.set 5 (.cn (.int .i64 0))
  (.set 8 (.vr 1)
  (.chk (.un .ln (.vr 8))
  (.set 9 (.un .ln (.vr 8))
  (.set 10 (.cn (.int .i64 0))
  (.blk 0
    (.loop
      (.chk (.bn (.cm .lss .i64) (.vr 10) (.vr 9))
      (.set 11 (.bn (.cm .lss .i64) (.vr 10) (.vr 9))
      (.ite (.vr 11)
        .nil
        (.exit 0)
      (.blk 1
        (.chk (.bn (.ia 1) (.vr 8) (.vr 10))
        (.chk (.ld (.bn (.ia 1) (.vr 8) (.vr 10)))
        (.set 7 (.ld (.bn (.ia 1) (.vr 8) (.vr 10)))
        (.call (some 17) 24 [(.vr 0), (.vr 7)] []
        (.chk (.bn (.ar .add .i64) (.vr 5) (.vr 17))
        (.set 5 (.bn (.ar .add .i64) (.vr 5) (.vr 17))
        .nil))))))
      (.chk (.bn (.ar .add .i64) (.vr 10) (.cn (.int .i64 1)))
      (.set 10 (.bn (.ar .add .i64) (.vr 10) (.cn (.int .i64 1)))
      .nil)))))))
  (.set 4 (.vr 5)
  .ret))))))))
def fc34 : Fc := ⟨21, s34, [(.vr 4)]⟩
theorem c34 : compF Try.prog 34 = some fc34 := by kernel_rfl

/-- kinora/kinoraref8.Fold · parameters 1 · 0:x -/
def s35 : S :=
  (.set 2 (.cn (.int .u64 0))
  (.call (some 4) 21 [(.vr 0)] []
  (.chk (.un .not (.vr 4))
  (.set 5 (.un .not (.vr 4))
  (.ite (.vr 5)
    (.set 2 (.cn (.int .u64 0))
    .ret)
    .nil
  (.call (some 7) 54 [(.vr 0)] []
  (.set 2 (.vr 7)
  .ret)))))))
def fc35 : Fc := ⟨8, s35, [(.vr 2)]⟩
theorem c35 : compF Try.prog 35 = some fc35 := by kernel_rfl

/-- kinora/kinoraref8.Unfold · parameters 1 · 0:u -/
def s36 : S :=
  (.set 2 (.cn (.int .i64 0))
  (.chk (.bn (.cm .geq .u64) (.vr 0) (.cn (.int .u64 2147483648)))
  (.set 4 (.bn (.cm .geq .u64) (.vr 0) (.cn (.int .u64 2147483648)))
  (.ite (.vr 4)
    (.set 2 (.cn (.int .i64 0))
    .ret)
    .nil
  (.call (some 6) 55 [(.vr 0)] []
  (.set 2 (.vr 6)
  .ret))))))
def fc36 : Fc := ⟨7, s36, [(.vr 2)]⟩
theorem c36 : compF Try.prog 36 = some fc36 := by kernel_rfl

/-- kinora/kinoraref8.RiceCost · parameters 2 · 0:k 1:x 5:q -/
def s37 : S :=
  (.set 4 (.cn (.int .i64 0))
  (.call (some 7) 45 [(.vr 0)] []
  (.chk (.un .not (.vr 7))
  (.set 9 (.un .not (.vr 7))
  (.ifg (.vr 9) false
    (.call (some 11) 21 [(.vr 1)] []
    .nil)
    (.set 11 (.cn undef)
    .nil)
  (.chk (.gd (.vr 9) false (.un .not (.vr 11)))
  (.chk (.or (.vr 9) (.un .not (.vr 11)))
  (.set 13 (.or (.vr 9) (.un .not (.vr 11)))
  (.ite (.vr 13)
    (.set 4 (.cn (.int .i64 0))
    .ret)
    .nil
  (.call (some 15) 35 [(.vr 1)] []
  (.chk (.un (.cv .u64) (.vr 0))
  (.chk (.bn (.sh false .u64) (.vr 15) (.un (.cv .u64) (.vr 0)))
  (.set 5 (.un (.cv .i64) (.bn (.sh false .u64) (.vr 15) (.un (.cv .u64) (.vr 0))))
  (.chk (.bn (.cm .lss .i64) (.vr 5) (.cn (.int .i64 32)))
  (.set 21 (.bn (.cm .lss .i64) (.vr 5) (.cn (.int .i64 32)))
  (.ite (.vr 21)
    (.chk (.bn (.ar .add .i64) (.vr 5) (.cn (.int .i64 1)))
    (.chk (.bn (.ar .add .i64) (.bn (.ar .add .i64) (.vr 5) (.cn (.int .i64 1))) (.vr 0))
    (.set 4 (.bn (.ar .add .i64) (.bn (.ar .add .i64) (.vr 5) (.cn (.int .i64 1))) (.vr 0))
    .ret)))
    .nil
  (.set 4 (.cn (.int .i64 65))
  .ret)))))))))))))))))
def fc37 : Fc := ⟨26, s37, [(.vr 4)]⟩
theorem c37 : compF Try.prog 37 = some fc37 := by kernel_rfl

/-- kinora/kinoraref8.RiceSum · parameters 2 · 0:k 1:l 5:n 6:i -/
def s38 : S :=
  (.set 4 (.cn (.int .i64 0))
  (.set 5 (.cn (.int .i64 0))
  (.set 6 (.cn (.int .i64 0))
  (.blk 0
    (.loop
      (.chk (.un .ln (.vr 1))
      (.chk (.bn (.cm .lss .i64) (.vr 6) (.un .ln (.vr 1)))
      (.set 10 (.bn (.cm .lss .i64) (.vr 6) (.un .ln (.vr 1)))
      (.ite (.vr 10)
        .nil
        (.exit 0)
      (.blk 1
        (.chk (.bn (.ia 1) (.vr 1) (.vr 6))
        (.chk (.ld (.bn (.ia 1) (.vr 1) (.vr 6)))
        (.set 18 (.ld (.bn (.ia 1) (.vr 1) (.vr 6)))
        (.call (some 19) 37 [(.vr 0), (.vr 18)] []
        (.chk (.bn (.ar .add .i64) (.vr 5) (.vr 19))
        (.set 5 (.bn (.ar .add .i64) (.vr 5) (.vr 19))
        .nil))))))
      (.chk (.bn (.ar .add .i64) (.vr 6) (.cn (.int .i64 1)))
      (.set 6 (.bn (.ar .add .i64) (.vr 6) (.cn (.int .i64 1)))
      .nil))))))))
  (.set 4 (.vr 5)
  .ret)))))
def fc38 : Fc := ⟨22, s38, [(.vr 4)]⟩
theorem c38 : compF Try.prog 38 = some fc38 := by kernel_rfl

/-- kinora/rice.Best · parameters 1 · 0:l 3:best 4:least 5:k 6:sum -/
def s39 : S :=
  (.set 2 (.cn (.int .i64 0))
  (.call (some 8) 34 [(.cn (.int .i64 0)), (.vr 0)] []
  (.set 3 (.cn (.int .i64 0))
  (.set 4 (.vr 8)
  (.set 5 (.cn (.int .i64 1))
  (.blk 0
    (.loop
      (.chk (.bn (.cm .leq .i64) (.vr 5) (.cn (.int .i64 25)))
      (.set 10 (.bn (.cm .leq .i64) (.vr 5) (.cn (.int .i64 25)))
      (.ite (.vr 10)
        .nil
        (.exit 0)
      (.blk 1
        (.call (some 15) 34 [(.vr 5), (.vr 0)] []
        (.set 6 (.vr 15)
        (.chk (.bn (.cm .lss .i64) (.vr 6) (.vr 4))
        (.set 18 (.bn (.cm .lss .i64) (.vr 6) (.vr 4))
        (.ite (.vr 18)
          (.set 3 (.vr 5)
          (.set 4 (.vr 6)
          .nil))
          .nil
        .nil)))))
      (.chk (.bn (.ar .add .i64) (.vr 5) (.cn (.int .i64 1)))
      (.set 5 (.bn (.ar .add .i64) (.vr 5) (.cn (.int .i64 1)))
      .nil)))))))
  (.set 2 (.vr 3)
  .ret)))))))
def fc39 : Fc := ⟨22, s39, [(.vr 2)]⟩
theorem c39 : compF Try.prog 39 = some fc39 := by kernel_rfl

/-- kinora/kinoraref8.RiceBest · parameters 1 · 0:l 3:best 4:k -/
def s40 : S :=
  (.set 2 (.cn (.int .i64 0))
  (.set 3 (.cn (.int .i64 0))
  (.set 4 (.cn (.int .i64 1))
  (.blk 0
    (.loop
      (.chk (.bn (.cm .leq .i64) (.vr 4) (.cn (.int .i64 25)))
      (.set 6 (.bn (.cm .leq .i64) (.vr 4) (.cn (.int .i64 25)))
      (.ite (.vr 6)
        .nil
        (.exit 0)
      (.blk 1
        (.call (some 11) 38 [(.vr 4), (.vr 0)] []
        (.call (some 14) 38 [(.vr 3), (.vr 0)] []
        (.chk (.bn (.cm .lss .i64) (.vr 11) (.vr 14))
        (.set 15 (.bn (.cm .lss .i64) (.vr 11) (.vr 14))
        (.ite (.vr 15)
          (.set 3 (.vr 4)
          .nil)
          .nil
        .nil)))))
      (.chk (.bn (.ar .add .i64) (.vr 4) (.cn (.int .i64 1)))
      (.set 4 (.bn (.ar .add .i64) (.vr 4) (.cn (.int .i64 1)))
      .nil)))))))
  (.set 2 (.vr 3)
  .ret)))))
def fc40 : Fc := ⟨18, s40, [(.vr 2)]⟩
theorem c40 : compF Try.prog 40 = some fc40 := by kernel_rfl

/-- (*kinora/bits.Writer).bit · parameters 2 · 0:w 1:b -/
def s41 : S :=
  (.chk (.un .nck (.vr 0))
  (.chk (.un (.fa 1) (.un .nck (.vr 0)))
  (.chk (.ld (.un (.fa 1) (.un .nck (.vr 0))))
  (.chk (.bn (.dv true .i64) (.ld (.un (.fa 1) (.un .nck (.vr 0)))) (.cn (.int .i64 8)))
  (.set 9 (.bn (.cm .eql .i64) (.bn (.dv true .i64) (.ld (.un (.fa 1) (.un .nck (.vr 0)))) (.cn (.int .i64 8))) (.cn (.int .i64 0)))
  (.ite (.vr 9)
    (.chk (.un .nck (.vr 0))
    (.chk (.un (.fa 0) (.un .nck (.vr 0)))
    (.chk (.ld (.un (.fa 0) (.un .nck (.vr 0))))
    (.set 14 (.ld (.un (.fa 0) (.un .nck (.vr 0))))
    (.op (some 15) (.buildSlice 25 1 #[(0, (.const (.int .u8 0)))]) 25 [] []
    (.op (some 16) (.call ⟨(.builtin .append), #[(.tmp 14), (.tmp 15)], #[25, 25]⟩) 25 [(14, (.vr 14)), (15, (.vr 15))] []
    (.chk (.un .nck (.vr 0))
    (.chk (.un (.fa 0) (.un .nck (.vr 0)))
    (.st 1 (.un (.fa 0) (.un .nck (.vr 0))) (.vr 16) []
    .nil)))))))))
    .nil
  (.draw
  (.chk (.un .nck (.vr 0))
  (.chk (.un (.fa 0) (.un .nck (.vr 0)))
  (.chk (.ld (.un (.fa 0) (.un .nck (.vr 0))))
  (.set 22 (.ld (.un (.fa 0) (.un .nck (.vr 0))))
  (.chk (.un .nck (.vr 0))
  (.chk (.un (.fa 1) (.un .nck (.vr 0)))
  (.chk (.ld (.un (.fa 1) (.un .nck (.vr 0))))
  (.set 26 (.ld (.un (.fa 1) (.un .nck (.vr 0))))
  (.chk (.bn (.dv false .i64) (.vr 26) (.cn (.int .i64 8)))
  (.chk (.bn (.ia 1) (.vr 22) (.bn (.dv false .i64) (.vr 26) (.cn (.int .i64 8))))
  (.chk (.ld (.bn (.ia 1) (.vr 22) (.bn (.dv false .i64) (.vr 26) (.cn (.int .i64 8)))))
  (.set 29 (.ld (.bn (.ia 1) (.vr 22) (.bn (.dv false .i64) (.vr 26) (.cn (.int .i64 8)))))
  (.chk (.un .nck (.vr 0))
  (.chk (.un (.fa 1) (.un .nck (.vr 0)))
  (.chk (.ld (.un (.fa 1) (.un .nck (.vr 0))))
  (.set 34 (.ld (.un (.fa 1) (.un .nck (.vr 0))))
  (.chk (.bn (.dv true .i64) (.vr 34) (.cn (.int .i64 8)))
  (.chk (.bn (.sh true .u8) (.vr 1) (.bn (.ar .sub .i64) (.cn (.int .i64 7)) (.bn (.dv true .i64) (.vr 34) (.cn (.int .i64 8)))))
  (.chk (.bn (.bt .or .u8) (.vr 29) (.bn (.sh true .u8) (.vr 1) (.bn (.ar .sub .i64) (.cn (.int .i64 7)) (.bn (.dv true .i64) (.vr 34) (.cn (.int .i64 8))))))
  (.chk (.bn (.ia 1) (.vr 22) (.bn (.dv false .i64) (.vr 26) (.cn (.int .i64 8))))
  (.st 1 (.bn (.ia 1) (.vr 22) (.bn (.dv false .i64) (.vr 26) (.cn (.int .i64 8)))) (.bn (.bt .or .u8) (.vr 29) (.bn (.sh true .u8) (.vr 1) (.bn (.ar .sub .i64) (.cn (.int .i64 7)) (.bn (.dv true .i64) (.vr 34) (.cn (.int .i64 8)))))) []
  (.chk (.un .nck (.vr 0))
  (.chk (.un (.fa 1) (.un .nck (.vr 0)))
  (.chk (.ld (.un (.fa 1) (.un .nck (.vr 0))))
  (.set 43 (.ld (.un (.fa 1) (.un .nck (.vr 0))))
  (.chk (.bn (.ar .add .i64) (.vr 43) (.cn (.int .i64 1)))
  (.chk (.un .nck (.vr 0))
  (.chk (.un (.fa 1) (.un .nck (.vr 0)))
  (.st 1 (.un (.fa 1) (.un .nck (.vr 0))) (.bn (.ar .add .i64) (.vr 43) (.cn (.int .i64 1))) []
  .nil))))))))))))))))))))))))))))))))))))
def fc41 : Fc := ⟨47, s41, []⟩
theorem c41 : compF Try.prog 41 = some fc41 := by kernel_rfl

/-- kinora/rice.parameter · parameters 1 · 0:k -/
def s42 : S :=
  (.set 2 (.cn (.bool false))
  (.chk (.bn (.cm .leq .i64) (.cn (.int .i64 0)) (.vr 0))
  (.chk (.gd (.bn (.cm .leq .i64) (.cn (.int .i64 0)) (.vr 0)) true (.bn (.cm .leq .i64) (.vr 0) (.cn (.int .i64 25))))
  (.set 2 (.and (.bn (.cm .leq .i64) (.cn (.int .i64 0)) (.vr 0)) (.bn (.cm .leq .i64) (.vr 0) (.cn (.int .i64 25))))
  .ret))))
def fc42 : Fc := ⟨9, s42, [(.vr 2)]⟩
theorem c42 : compF Try.prog 42 = some fc42 := by kernel_rfl

/-- kinora/rice.wide · parameters 1 · 0:x -/
def s43 : S :=
  (.set 2 (.cn (.bool false))
  (.chk (.bn (.cm .leq .i64) (.cn (.int .i64 (-1073741824))) (.vr 0))
  (.chk (.gd (.bn (.cm .leq .i64) (.cn (.int .i64 (-1073741824))) (.vr 0)) true (.bn (.cm .lss .i64) (.vr 0) (.cn (.int .i64 1073741824))))
  (.set 2 (.and (.bn (.cm .leq .i64) (.cn (.int .i64 (-1073741824))) (.vr 0)) (.bn (.cm .lss .i64) (.vr 0) (.cn (.int .i64 1073741824))))
  .ret))))
def fc43 : Fc := ⟨9, s43, [(.vr 2)]⟩
theorem c43 : compF Try.prog 43 = some fc43 := by kernel_rfl

/-- (*kinora/bits.Writer).Unary · parameters 2 · 0:w 1:n -/
def s44 : S :=
  (.set 4 (.cn (.int .i64 0))
  (.chk (.bn (.cm .lss .i64) (.vr 1) (.cn (.int .i64 0)))
  (.chk (.gd (.bn (.cm .lss .i64) (.vr 1) (.cn (.int .i64 0))) false (.bn (.cm .gtr .i64) (.vr 1) (.cn (.int .i64 4096))))
  (.set 10 (.or (.bn (.cm .lss .i64) (.vr 1) (.cn (.int .i64 0))) (.bn (.cm .gtr .i64) (.vr 1) (.cn (.int .i64 4096))))
  (.ite (.vr 10)
    (.set 4 (.cn (.int .i64 1))
    .ret)
    .nil
  (.set 11 (.vr 1)
  (.set 12 (.cn (.int .i64 0))
  (.blk 0
    (.loop
      (.chk (.bn (.cm .lss .i64) (.vr 12) (.vr 11))
      (.set 13 (.bn (.cm .lss .i64) (.vr 12) (.vr 11))
      (.ite (.vr 13)
        .nil
        (.exit 0)
      (.blk 1
        (.call (some 15) 41 [(.vr 0), (.cn (.int .u8 0))] []
        .nil)
      (.chk (.bn (.ar .add .i64) (.vr 12) (.cn (.int .i64 1)))
      (.set 12 (.bn (.ar .add .i64) (.vr 12) (.cn (.int .i64 1)))
      .nil)))))))
  (.call (some 18) 41 [(.vr 0), (.cn (.int .u8 1))] []
  (.set 4 (.cn (.int .i64 0))
  .ret))))))))))
def fc44 : Fc := ⟨19, s44, [(.vr 4)]⟩
theorem c44 : compF Try.prog 44 = some fc44 := by kernel_rfl

/-- kinora/kinoraref8.parameter · parameters 1 · 0:k -/
def s45 : S :=
  (.set 2 (.cn (.bool false))
  (.chk (.bn (.cm .geq .i64) (.vr 0) (.cn (.int .i64 0)))
  (.chk (.gd (.bn (.cm .geq .i64) (.vr 0) (.cn (.int .i64 0))) true (.bn (.cm .leq .i64) (.vr 0) (.cn (.int .i64 25))))
  (.set 2 (.and (.bn (.cm .geq .i64) (.vr 0) (.cn (.int .i64 0))) (.bn (.cm .leq .i64) (.vr 0) (.cn (.int .i64 25))))
  .ret))))
def fc45 : Fc := ⟨9, s45, [(.vr 2)]⟩
theorem c45 : compF Try.prog 45 = some fc45 := by kernel_rfl

/-- (*kinora/kinoraref2.Writer).Unary · parameters 2 · 0:w 1:n 5:i -/
def s46 : S :=
  (.set 4 (.cn (.int .i64 0))
  (.chk (.bn (.cm .lss .i64) (.vr 1) (.cn (.int .i64 0)))
  (.chk (.gd (.bn (.cm .lss .i64) (.vr 1) (.cn (.int .i64 0))) false (.bn (.cm .gtr .i64) (.vr 1) (.cn (.int .i64 4096))))
  (.set 11 (.or (.bn (.cm .lss .i64) (.vr 1) (.cn (.int .i64 0))) (.bn (.cm .gtr .i64) (.vr 1) (.cn (.int .i64 4096))))
  (.ite (.vr 11)
    (.set 4 (.cn (.int .i64 1))
    .ret)
    .nil
  (.set 5 (.cn (.int .i64 0))
  (.blk 0
    (.loop
      (.chk (.bn (.cm .lss .i64) (.vr 5) (.vr 1))
      (.set 14 (.bn (.cm .lss .i64) (.vr 5) (.vr 1))
      (.ite (.vr 14)
        .nil
        (.exit 0)
      (.blk 1
        (.chk (.un .nck (.vr 0))
        (.chk (.un (.fa 0) (.un .nck (.vr 0)))
        (.chk (.ld (.un (.fa 0) (.un .nck (.vr 0))))
        (.set 21 (.ld (.un (.fa 0) (.un .nck (.vr 0))))
        (.op (some 22) (.buildSlice 25 1 #[(0, (.const (.int .u8 0)))]) 25 [] []
        (.op (some 23) (.call ⟨(.builtin .append), #[(.tmp 21), (.tmp 22)], #[25, 25]⟩) 25 [(21, (.vr 21)), (22, (.vr 22))] []
        (.chk (.un .nck (.vr 0))
        (.chk (.un (.fa 0) (.un .nck (.vr 0)))
        (.st 1 (.un (.fa 0) (.un .nck (.vr 0))) (.vr 23) []
        .nil)))))))))
      (.chk (.bn (.ar .add .i64) (.vr 5) (.cn (.int .i64 1)))
      (.set 5 (.bn (.ar .add .i64) (.vr 5) (.cn (.int .i64 1)))
      .nil)))))))
  (.chk (.un .nck (.vr 0))
  (.chk (.un (.fa 0) (.un .nck (.vr 0)))
  (.chk (.ld (.un (.fa 0) (.un .nck (.vr 0))))
  (.set 30 (.ld (.un (.fa 0) (.un .nck (.vr 0))))
  (.op (some 31) (.buildSlice 25 1 #[(0, (.const (.int .u8 1)))]) 25 [] []
  (.op (some 32) (.call ⟨(.builtin .append), #[(.tmp 30), (.tmp 31)], #[25, 25]⟩) 25 [(30, (.vr 30)), (31, (.vr 31))] []
  (.chk (.un .nck (.vr 0))
  (.chk (.un (.fa 0) (.un .nck (.vr 0)))
  (.st 1 (.un (.fa 0) (.un .nck (.vr 0))) (.vr 32) []
  (.set 4 (.cn (.int .i64 0))
  .ret)))))))))))))))))
def fc46 : Fc := ⟨35, s46, [(.vr 4)]⟩
theorem c46 : compF Try.prog 46 = some fc46 := by kernel_rfl

/-- (*kinora/bits.Reader).Left · parameters 1 · 0:r -/
def s47 : S :=
  (.set 2 (.cn (.int .i64 0))
  (.draw
  (.chk (.un .nck (.vr 0))
  (.chk (.un (.fa 0) (.un .nck (.vr 0)))
  (.chk (.ld (.un (.fa 0) (.un .nck (.vr 0))))
  (.chk (.un .ln (.ld (.un (.fa 0) (.un .nck (.vr 0)))))
  (.chk (.un .nck (.vr 0))
  (.chk (.un (.fa 1) (.un .nck (.vr 0)))
  (.chk (.ld (.un (.fa 1) (.un .nck (.vr 0))))
  (.chk (.bn (.ar .sub .i64) (.bn (.ar .mul .i64) (.cn (.int .i64 8)) (.un .ln (.ld (.un (.fa 0) (.un .nck (.vr 0)))))) (.ld (.un (.fa 1) (.un .nck (.vr 0)))))
  (.set 2 (.bn (.ar .sub .i64) (.bn (.ar .mul .i64) (.cn (.int .i64 8)) (.un .ln (.ld (.un (.fa 0) (.un .nck (.vr 0)))))) (.ld (.un (.fa 1) (.un .nck (.vr 0)))))
  .ret)))))))))))
def fc47 : Fc := ⟨14, s47, [(.vr 2)]⟩
theorem c47 : compF Try.prog 47 = some fc47 := by kernel_rfl

/-- (*kinora/bits.Reader).look · parameters 2 · 0:r 1:i -/
def s48 : S :=
  (.set 4 (.cn (.int .u8 0))
  (.chk (.un .nck (.vr 0))
  (.chk (.un (.fa 0) (.un .nck (.vr 0)))
  (.chk (.ld (.un (.fa 0) (.un .nck (.vr 0))))
  (.chk (.bn (.dv false .i64) (.vr 1) (.cn (.int .i64 8)))
  (.chk (.bn (.ia 1) (.ld (.un (.fa 0) (.un .nck (.vr 0)))) (.bn (.dv false .i64) (.vr 1) (.cn (.int .i64 8))))
  (.chk (.ld (.bn (.ia 1) (.ld (.un (.fa 0) (.un .nck (.vr 0)))) (.bn (.dv false .i64) (.vr 1) (.cn (.int .i64 8)))))
  (.chk (.bn (.dv true .i64) (.vr 1) (.cn (.int .i64 8)))
  (.chk (.bn (.sh false .u8) (.ld (.bn (.ia 1) (.ld (.un (.fa 0) (.un .nck (.vr 0)))) (.bn (.dv false .i64) (.vr 1) (.cn (.int .i64 8))))) (.bn (.ar .sub .i64) (.cn (.int .i64 7)) (.bn (.dv true .i64) (.vr 1) (.cn (.int .i64 8)))))
  (.set 4 (.bn (.bt .and .u8) (.bn (.sh false .u8) (.ld (.bn (.ia 1) (.ld (.un (.fa 0) (.un .nck (.vr 0)))) (.bn (.dv false .i64) (.vr 1) (.cn (.int .i64 8))))) (.bn (.ar .sub .i64) (.cn (.int .i64 7)) (.bn (.dv true .i64) (.vr 1) (.cn (.int .i64 8))))) (.cn (.int .u8 1)))
  .ret))))))))))
def fc48 : Fc := ⟨18, s48, [(.vr 4)]⟩
theorem c48 : compF Try.prog 48 = some fc48 := by kernel_rfl

/-- (*kinora/kinoraref2.Reader).Left · parameters 1 · 0:r -/
def s49 : S :=
  (.set 2 (.cn (.int .i64 0))
  (.draw
  (.chk (.un .nck (.vr 0))
  (.chk (.un (.fa 0) (.un .nck (.vr 0)))
  (.chk (.ld (.un (.fa 0) (.un .nck (.vr 0))))
  (.chk (.un .ln (.ld (.un (.fa 0) (.un .nck (.vr 0)))))
  (.chk (.un .nck (.vr 0))
  (.chk (.un (.fa 1) (.un .nck (.vr 0)))
  (.chk (.ld (.un (.fa 1) (.un .nck (.vr 0))))
  (.chk (.bn (.ar .sub .i64) (.bn (.ar .mul .i64) (.cn (.int .i64 8)) (.un .ln (.ld (.un (.fa 0) (.un .nck (.vr 0)))))) (.ld (.un (.fa 1) (.un .nck (.vr 0)))))
  (.set 2 (.bn (.ar .sub .i64) (.bn (.ar .mul .i64) (.cn (.int .i64 8)) (.un .ln (.ld (.un (.fa 0) (.un .nck (.vr 0)))))) (.ld (.un (.fa 1) (.un .nck (.vr 0)))))
  .ret)))))))))))
def fc49 : Fc := ⟨14, s49, [(.vr 2)]⟩
theorem c49 : compF Try.prog 49 = some fc49 := by kernel_rfl

/-- (*kinora/kinoraref2.Reader).bit · parameters 2 · 0:r 1:at -/
def s50 : S :=
  (.set 4 (.cn (.int .u64 0))
  (.chk (.un .nck (.vr 0))
  (.chk (.un (.fa 0) (.un .nck (.vr 0)))
  (.chk (.ld (.un (.fa 0) (.un .nck (.vr 0))))
  (.chk (.bn (.dv false .i64) (.vr 1) (.cn (.int .i64 8)))
  (.chk (.bn (.ia 1) (.ld (.un (.fa 0) (.un .nck (.vr 0)))) (.bn (.dv false .i64) (.vr 1) (.cn (.int .i64 8))))
  (.chk (.ld (.bn (.ia 1) (.ld (.un (.fa 0) (.un .nck (.vr 0)))) (.bn (.dv false .i64) (.vr 1) (.cn (.int .i64 8)))))
  (.chk (.bn (.dv true .i64) (.vr 1) (.cn (.int .i64 8)))
  (.chk (.bn (.sh false .u8) (.ld (.bn (.ia 1) (.ld (.un (.fa 0) (.un .nck (.vr 0)))) (.bn (.dv false .i64) (.vr 1) (.cn (.int .i64 8))))) (.un (.cv .u64) (.bn (.ar .sub .i64) (.cn (.int .i64 7)) (.bn (.dv true .i64) (.vr 1) (.cn (.int .i64 8))))))
  (.set 4 (.un (.cv .u64) (.bn (.bt .and .u8) (.bn (.sh false .u8) (.ld (.bn (.ia 1) (.ld (.un (.fa 0) (.un .nck (.vr 0)))) (.bn (.dv false .i64) (.vr 1) (.cn (.int .i64 8))))) (.un (.cv .u64) (.bn (.ar .sub .i64) (.cn (.int .i64 7)) (.bn (.dv true .i64) (.vr 1) (.cn (.int .i64 8)))))) (.cn (.int .u8 1))))
  .ret))))))))))
def fc50 : Fc := ⟨20, s50, [(.vr 4)]⟩
theorem c50 : compF Try.prog 50 = some fc50 := by kernel_rfl

/-- (*kinora/bits.Reader).Err · parameters 1 · 0:r -/
def s51 : S :=
  (.set 2 (.cn (.int .i64 0))
  (.chk (.un .nck (.vr 0))
  (.chk (.un (.fa 2) (.un .nck (.vr 0)))
  (.chk (.ld (.un (.fa 2) (.un .nck (.vr 0))))
  (.set 2 (.ld (.un (.fa 2) (.un .nck (.vr 0))))
  .ret)))))
def fc51 : Fc := ⟨7, s51, [(.vr 2)]⟩
theorem c51 : compF Try.prog 51 = some fc51 := by kernel_rfl

/-- kinora/rice.one · parameters 2 · 0:r 1:k 6:q 7:low 8:u -/
def s52 : S :=
  (.set 4 (.cn (.int .i64 0))
  (.set 5 (.cn (.int .i64 0))
  (.call (some 10) 56 [(.vr 0), (.cn (.int .i64 32))] []
  (.chk (.un (.cv .u64) (.vr 10))
  (.set 6 (.un (.cv .u64) (.vr 10))
  (.call (some 13) 51 [(.vr 0)] []
  (.chk (.bn (.cm .neq .i64) (.vr 13) (.cn (.int .i64 0)))
  (.set 14 (.bn (.cm .neq .i64) (.vr 13) (.cn (.int .i64 0)))
  (.ite (.vr 14)
    (.call (some 16) 51 [(.vr 0)] []
    (.set 4 (.cn (.int .i64 0))
    (.set 5 (.vr 16)
    .ret)))
    .nil
  (.chk (.bn (.cm .lss .u64) (.vr 6) (.cn (.int .u64 32)))
  (.set 18 (.bn (.cm .lss .u64) (.vr 6) (.cn (.int .u64 32)))
  (.ite (.vr 18)
    (.call (some 21) 27 [(.vr 0), (.vr 1)] []
    (.set 7 (.vr 21)
    (.chk (.bn (.sh true .u64) (.vr 6) (.vr 1))
    (.chk (.bn (.ar .add .u64) (.bn (.sh true .u64) (.vr 6) (.vr 1)) (.vr 7))
    (.call (some 27) 23 [(.bn (.ar .add .u64) (.bn (.sh true .u64) (.vr 6) (.vr 1)) (.vr 7))] []
    (.call (some 29) 51 [(.vr 0)] []
    (.set 4 (.vr 27)
    (.set 5 (.vr 29)
    .ret))))))))
    .nil
  (.call (some 31) 27 [(.vr 0), (.cn (.int .i64 32))] []
  (.set 8 (.vr 31)
  (.call (some 33) 51 [(.vr 0)] []
  (.chk (.bn (.cm .neq .i64) (.vr 33) (.cn (.int .i64 0)))
  (.set 34 (.bn (.cm .neq .i64) (.vr 33) (.cn (.int .i64 0)))
  (.ite (.vr 34)
    (.call (some 36) 51 [(.vr 0)] []
    (.set 4 (.cn (.int .i64 0))
    (.set 5 (.vr 36)
    .ret)))
    .nil
  (.chk (.bn (.cm .geq .u64) (.vr 8) (.cn (.int .u64 2147483648)))
  (.chk (.gd (.bn (.cm .geq .u64) (.vr 8) (.cn (.int .u64 2147483648))) false (.bn (.sh false .u64) (.vr 8) (.vr 1)))
  (.set 44 (.or (.bn (.cm .geq .u64) (.vr 8) (.cn (.int .u64 2147483648))) (.bn (.cm .lss .u64) (.bn (.sh false .u64) (.vr 8) (.vr 1)) (.cn (.int .u64 32))))
  (.ite (.vr 44)
    (.set 4 (.cn (.int .i64 0))
    (.set 5 (.cn (.int .i64 2))
    .ret))
    .nil
  (.call (some 46) 23 [(.vr 8)] []
  (.set 4 (.vr 46)
  (.set 5 (.cn (.int .i64 0))
  .ret)))))))))))))))))))))))))
def fc52 : Fc := ⟨47, s52, [(.vr 4), (.vr 5)]⟩
theorem c52 : compF Try.prog 52 = some fc52 := by kernel_rfl

/-- (*kinora/kinoraref2.Reader).Unary · parameters 2 · 0:r 1:most 5:i -/
def s53 : S :=
  (.set 4 (.cn (.int .i64 0))
  (.chk (.un .nck (.vr 0))
  (.chk (.un (.fa 2) (.un .nck (.vr 0)))
  (.chk (.ld (.un (.fa 2) (.un .nck (.vr 0))))
  (.chk (.bn (.cm .neq .i64) (.ld (.un (.fa 2) (.un .nck (.vr 0)))) (.cn (.int .i64 0)))
  (.set 10 (.bn (.cm .neq .i64) (.ld (.un (.fa 2) (.un .nck (.vr 0)))) (.cn (.int .i64 0)))
  (.ite (.vr 10)
    (.set 4 (.cn (.int .i64 0))
    .ret)
    .nil
  (.chk (.bn (.mx .i64) (.vr 1) (.cn (.int .i64 0)))
  (.set 1 (.bn (.mx .i64) (.vr 1) (.cn (.int .i64 0)))
  (.set 5 (.cn (.int .i64 0))
  (.blk 0
    (.loop
      (.call (some 15) 49 [(.vr 0)] []
      (.chk (.bn (.cm .lss .i64) (.vr 5) (.vr 15))
      (.set 16 (.bn (.cm .lss .i64) (.vr 5) (.vr 15))
      (.ite (.vr 16)
        .nil
        (.exit 0)
      (.blk 1
        (.chk (.un .nck (.vr 0))
        (.chk (.un (.fa 1) (.un .nck (.vr 0)))
        (.chk (.ld (.un (.fa 1) (.un .nck (.vr 0))))
        (.set 23 (.ld (.un (.fa 1) (.un .nck (.vr 0))))
        (.chk (.bn (.ar .add .i64) (.vr 23) (.vr 5))
        (.call (some 26) 50 [(.vr 0), (.bn (.ar .add .i64) (.vr 23) (.vr 5))] []
        (.chk (.bn (.cm .eql .u64) (.vr 26) (.cn (.int .u64 1)))
        (.set 27 (.bn (.cm .eql .u64) (.vr 26) (.cn (.int .u64 1)))
        (.ite (.vr 27)
          (.chk (.un .nck (.vr 0))
          (.chk (.un (.fa 1) (.un .nck (.vr 0)))
          (.chk (.ld (.un (.fa 1) (.un .nck (.vr 0))))
          (.set 32 (.ld (.un (.fa 1) (.un .nck (.vr 0))))
          (.chk (.bn (.ar .add .i64) (.vr 32) (.vr 5))
          (.chk (.un .nck (.vr 0))
          (.chk (.un (.fa 1) (.un .nck (.vr 0)))
          (.st 1 (.un (.fa 1) (.un .nck (.vr 0))) (.bn (.ar .add .i64) (.bn (.ar .add .i64) (.vr 32) (.vr 5)) (.cn (.int .i64 1))) []
          (.set 4 (.vr 5)
          .ret)))))))))
          .nil
        (.chk (.bn (.cm .geq .i64) (.vr 5) (.vr 1))
        (.set 41 (.bn (.cm .geq .i64) (.vr 5) (.vr 1))
        (.ite (.vr 41)
          (.chk (.un .nck (.vr 0))
          (.chk (.un (.fa 2) (.un .nck (.vr 0)))
          (.st 1 (.un (.fa 2) (.un .nck (.vr 0))) (.cn (.int .i64 2)) []
          (.set 4 (.cn (.int .i64 0))
          .ret))))
          .nil
        .nil))))))))))))
      (.chk (.bn (.ar .add .i64) (.vr 5) (.cn (.int .i64 1)))
      (.set 5 (.bn (.ar .add .i64) (.vr 5) (.cn (.int .i64 1)))
      .nil))))))))
  (.chk (.un .nck (.vr 0))
  (.chk (.un (.fa 2) (.un .nck (.vr 0)))
  (.st 1 (.un (.fa 2) (.un .nck (.vr 0))) (.cn (.int .i64 3)) []
  (.set 4 (.cn (.int .i64 0))
  .ret)))))))))))))))
def fc53 : Fc := ⟨48, s53, [(.vr 4)]⟩
theorem c53 : compF Try.prog 53 = some fc53 := by kernel_rfl

/-- kinora/kinoraref2.Zig · parameters 1 · 0:n 3:u -/
def s54 : S :=
  (.set 2 (.cn (.int .u64 0))
  (.chk (.un (.cv .u64) (.vr 0))
  (.set 3 (.bn (.sh true .u64) (.un (.cv .u64) (.vr 0)) (.cn (.int .u64 1)))
  (.chk (.bn (.cm .lss .i64) (.vr 0) (.cn (.int .i64 0)))
  (.set 8 (.bn (.cm .lss .i64) (.vr 0) (.cn (.int .i64 0)))
  (.ite (.vr 8)
    (.chk (.un (.cpl .u64) (.vr 3))
    (.set 3 (.un (.cpl .u64) (.vr 3))
    .nil))
    .nil
  (.set 2 (.vr 3)
  .ret)))))))
def fc54 : Fc := ⟨12, s54, [(.vr 2)]⟩
theorem c54 : compF Try.prog 54 = some fc54 := by kernel_rfl

/-- kinora/kinoraref2.Zag · parameters 1 · 0:u 3:n -/
def s55 : S :=
  (.set 2 (.cn (.int .i64 0))
  (.chk (.bn (.sh false .u64) (.vr 0) (.cn (.int .u64 1)))
  (.set 3 (.un (.cv .i64) (.bn (.sh false .u64) (.vr 0) (.cn (.int .u64 1))))
  (.chk (.bn (.bt .and .u64) (.vr 0) (.cn (.int .u64 1)))
  (.set 9 (.bn (.cm .eql .u64) (.bn (.bt .and .u64) (.vr 0) (.cn (.int .u64 1))) (.cn (.int .u64 1)))
  (.ite (.vr 9)
    (.chk (.un (.cpl .i64) (.vr 3))
    (.set 3 (.un (.cpl .i64) (.vr 3))
    .nil))
    .nil
  (.set 2 (.vr 3)
  .ret)))))))
def fc55 : Fc := ⟨13, s55, [(.vr 2)]⟩
theorem c55 : compF Try.prog 55 = some fc55 := by kernel_rfl

/-- (*kinora/bits.Reader).Unary · parameters 2 · 0:r 1:most 5:zeros 6:i -/
def s56 : S :=
  (.set 4 (.cn (.int .i64 0))
  (.chk (.un .nck (.vr 0))
  (.chk (.un (.fa 2) (.un .nck (.vr 0)))
  (.chk (.ld (.un (.fa 2) (.un .nck (.vr 0))))
  (.chk (.bn (.cm .neq .i64) (.ld (.un (.fa 2) (.un .nck (.vr 0)))) (.cn (.int .i64 0)))
  (.set 11 (.bn (.cm .neq .i64) (.ld (.un (.fa 2) (.un .nck (.vr 0)))) (.cn (.int .i64 0)))
  (.ite (.vr 11)
    (.set 4 (.cn (.int .i64 0))
    .ret)
    .nil
  (.chk (.bn (.mx .i64) (.vr 1) (.cn (.int .i64 0)))
  (.set 1 (.bn (.mx .i64) (.vr 1) (.cn (.int .i64 0)))
  (.draw
  (.chk (.un .nck (.vr 0))
  (.chk (.un (.fa 1) (.un .nck (.vr 0)))
  (.chk (.ld (.un (.fa 1) (.un .nck (.vr 0))))
  (.set 5 (.cn (.int .i64 0))
  (.set 6 (.ld (.un (.fa 1) (.un .nck (.vr 0))))
  (.blk 0
    (.loop
      (.blk 1
        (.chk (.un .nck (.vr 0))
        (.chk (.un (.fa 0) (.un .nck (.vr 0)))
        (.chk (.ld (.un (.fa 0) (.un .nck (.vr 0))))
        (.chk (.un .ln (.ld (.un (.fa 0) (.un .nck (.vr 0)))))
        (.chk (.bn (.cm .eql .i64) (.vr 6) (.bn (.ar .mul .i64) (.cn (.int .i64 8)) (.un .ln (.ld (.un (.fa 0) (.un .nck (.vr 0)))))))
        (.set 29 (.bn (.cm .eql .i64) (.vr 6) (.bn (.ar .mul .i64) (.cn (.int .i64 8)) (.un .ln (.ld (.un (.fa 0) (.un .nck (.vr 0)))))))
        (.ite (.vr 29)
          (.chk (.un .nck (.vr 0))
          (.chk (.un (.fa 2) (.un .nck (.vr 0)))
          (.st 1 (.un (.fa 2) (.un .nck (.vr 0))) (.cn (.int .i64 3)) []
          (.set 4 (.cn (.int .i64 0))
          .ret))))
          .nil
        (.call (some 35) 48 [(.vr 0), (.vr 6)] []
        (.chk (.bn (.cm .eql .u8) (.vr 35) (.cn (.int .u8 1)))
        (.set 36 (.bn (.cm .eql .u8) (.vr 35) (.cn (.int .u8 1)))
        (.ite (.vr 36)
          (.chk (.bn (.ar .add .i64) (.vr 6) (.cn (.int .i64 1)))
          (.chk (.un .nck (.vr 0))
          (.chk (.un (.fa 1) (.un .nck (.vr 0)))
          (.st 1 (.un (.fa 1) (.un .nck (.vr 0))) (.bn (.ar .add .i64) (.vr 6) (.cn (.int .i64 1))) []
          (.set 4 (.vr 5)
          .ret)))))
          .nil
        (.chk (.bn (.cm .eql .i64) (.vr 5) (.vr 1))
        (.set 45 (.bn (.cm .eql .i64) (.vr 5) (.vr 1))
        (.ite (.vr 45)
          (.chk (.un .nck (.vr 0))
          (.chk (.un (.fa 2) (.un .nck (.vr 0)))
          (.st 1 (.un (.fa 2) (.un .nck (.vr 0))) (.cn (.int .i64 2)) []
          (.set 4 (.cn (.int .i64 0))
          .ret))))
          .nil
        .nil))))))))))))))
      (.chk (.bn (.ar .add .i64) (.vr 5) (.cn (.int .i64 1)))
      (.chk (.bn (.ar .add .i64) (.vr 6) (.cn (.int .i64 1)))
      (.set 5 (.bn (.ar .add .i64) (.vr 5) (.cn (.int .i64 1)))
      (.set 6 (.bn (.ar .add .i64) (.vr 6) (.cn (.int .i64 1)))
      .nil))))))
  .nil))))))))))))))))
def fc56 : Fc := ⟨49, s56, [(.vr 4)]⟩
theorem c56 : compF Try.prog 56 = some fc56 := by kernel_rfl

end Go.Proofs.Ytkhjmlfnmakkpaa.VG
