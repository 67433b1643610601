/-
  The translations of the functions, printed by program (wip/vg/Print.lean); each is checked against the program by the kernel.
-/
import Derived.Test.YtajkofndbeohpaaChecked
import Derived.Test.YtajkofndbeohpaaVgH
namespace Go.Proofs.Ytajkofndbeohpaa.VG
open Go
set_option maxRecDepth 100000

/-- kinora/kinoralaw6.PartsTells · parameters 5 · 0:order 1:n 2:warm 3:p 4:l 8:p -/
def s3 : S :=
  (.op (some 8) (.box 24 (.tmp 3)) 0 [(3, (.vr 3))] []
  (.set 10 (.cn (.bool false))
  (.call (some 11) 12 [] []
  (.chk (.un .not (.vr 11))
  (.set 12 (.un .not (.vr 11))
  (.ite (.vr 12)
    (.set 10 (.cn (.bool false))
    .ret)
    .nil
  (.chk (.ldn 2 (.vr 8))
  (.set 13 (.ldn 2 (.vr 8))
  (.call (some 15) 13 [(.vr 13), (.vr 4)] []
  (.chk (.un .not (.vr 15))
  (.set 16 (.un .not (.vr 15))
  (.ite (.vr 16)
    (.set 10 (.cn (.bool true))
    .ret)
    .nil
  (.draw
  (.call (some 20) 15 [(.vr 0), (.vr 1), (.vr 2)] []
  (.call (some 24) 16 [(.vr 0), (.vr 1), (.vr 2)] []
  (.call (some 25) 14 [(.vr 20), (.vr 24)] []
  (.set 26 (.vr 25)
  (.chk (.gd (.vr 26) true (.ldn 2 (.vr 8)))
  (.set 27 (.gd (.vr 26) true (.ldn 2 (.vr 8)))
  (.chk (.gd (.vr 26) true (.ldn 2 (.vr 8)))
  (.set 31 (.gd (.vr 26) true (.ldn 2 (.vr 8)))
  (.ifg (.vr 26) true
    (.call (some 30) 17 [(.vr 27), (.vr 1), (.vr 2)] [⟨14, (.vr 8), 2, (some ((.vr 26), true))⟩]
    .nil)
    (.set 30 (.cn undef)
    .nil)
  (.ifg (.vr 26) true
    (.call (some 34) 18 [(.vr 31), (.vr 1), (.vr 2)] []
    .nil)
    (.set 34 (.cn undef)
    .nil)
  (.chk (.gd (.vr 26) true (.bn (.eqb false) (.vr 30) (.vr 34)))
  (.chk (.and (.vr 26) (.bn (.eqb false) (.vr 30) (.vr 34)))
  (.set 37 (.and (.vr 26) (.bn (.eqb false) (.vr 30) (.vr 34)))
  (.chk (.gd (.vr 37) true (.ldn 2 (.vr 8)))
  (.set 38 (.gd (.vr 37) true (.ldn 2 (.vr 8)))
  (.chk (.gd (.vr 37) true (.ldn 2 (.vr 8)))
  (.set 43 (.gd (.vr 37) true (.ldn 2 (.vr 8)))
  (.ifg (.vr 37) true
    (.call (some 42) 19 [(.vr 38), (.vr 1), (.vr 2), (.vr 4)] [⟨26, (.vr 8), 2, (some ((.vr 37), true))⟩]
    .nil)
    (.set 42 (.cn undef)
    .nil)
  (.ifg (.vr 37) true
    (.call (some 47) 20 [(.vr 43), (.vr 1), (.vr 2), (.vr 4)] []
    .nil)
    (.set 47 (.cn undef)
    .nil)
  (.chk (.gd (.vr 37) true (.bn (.cm .eql .i64) (.vr 42) (.vr 47)))
  (.chk (.and (.vr 37) (.bn (.cm .eql .i64) (.vr 42) (.vr 47)))
  (.set 10 (.and (.vr 37) (.bn (.cm .eql .i64) (.vr 42) (.vr 47)))
  .ret)))))))))))))))))))))))))))))))))))
def fc3 : Fc := ⟨50, s3, [(.vr 10)]⟩
theorem c3 : compF Try.prog 3 = some fc3 := by kernel_rfl

/-- kinora/kinoralaw6.PartsPuts · parameters 4 · 0:p 1:n 2:warm 3:l 4:p 9:w 10:x 11:e 12:f -/
def s4 : S :=
  (.op (some 4) (.box 24 (.tmp 0)) 0 [(0, (.vr 0))] []
  (.set 8 (.cn (.bool false))
  (.call (some 13) 12 [] []
  (.chk (.un .not (.vr 13))
  (.set 14 (.un .not (.vr 13))
  (.ite (.vr 14)
    (.set 8 (.cn (.bool false))
    .ret)
    .nil
  (.chk (.ldn 2 (.vr 4))
  (.set 15 (.ldn 2 (.vr 4))
  (.call (some 17) 13 [(.vr 15), (.vr 3)] []
  (.chk (.un .not (.vr 17))
  (.set 18 (.un .not (.vr 17))
  (.ite (.vr 18)
    (.set 8 (.cn (.bool true))
    .ret)
    .nil
  (.op (some 20) (.box 35 (.tmp 19)) 32 [(19, (.cn (.agg #[(.slice none 0 0), (.int .i64 0)])))] []
  (.op (some 22) (.box 38 (.tmp 21)) 36 [(21, (.cn (.agg #[(.slice none 0 0)])))] []
  (.set 9 (.vr 20)
  (.set 10 (.vr 22)
  (.draw
  (.chk (.ldn 2 (.vr 4))
  (.set 24 (.ldn 2 (.vr 4))
  (.chk (.ldn 2 (.vr 4))
  (.set 30 (.ldn 2 (.vr 4))
  (.call (some 28) 21 [(.vr 9), (.vr 24), (.vr 1), (.vr 2), (.vr 3)] [⟨7, (.vr 4), 2, none⟩]
  (.call (some 34) 22 [(.vr 10), (.vr 30), (.vr 1), (.vr 2), (.vr 3)] []
  (.set 11 (.vr 28)
  (.set 12 (.vr 34)
  (.chk (.bn (.cm .eql .i64) (.vr 11) (.vr 12))
  (.set 38 (.bn (.cm .eql .i64) (.vr 11) (.vr 12))
  (.ifg (.vr 38) true
    (.call (some 40) 23 [(.vr 9)] []
    .nil)
    (.set 40 (.cn undef)
    .nil)
  (.ifg (.vr 38) true
    (.call (some 42) 24 [(.vr 10)] []
    .nil)
    (.set 42 (.cn undef)
    .nil)
  (.chk (.gd (.vr 38) true (.bn (.cm .eql .i64) (.vr 40) (.vr 42)))
  (.chk (.and (.vr 38) (.bn (.cm .eql .i64) (.vr 40) (.vr 42)))
  (.set 45 (.and (.vr 38) (.bn (.cm .eql .i64) (.vr 40) (.vr 42)))
  (.ifg (.vr 45) true
    (.call (some 47) 26 [(.vr 9)] []
    .nil)
    (.set 47 (.cn undef)
    .nil)
  (.ifg (.vr 45) true
    (.call (some 49) 27 [(.vr 10)] []
    .nil)
    (.set 49 (.cn undef)
    .nil)
  (.ifg (.vr 45) true
    (.call (some 50) 25 [(.vr 47), (.vr 49)] []
    .nil)
    (.set 50 (.cn undef)
    .nil)
  (.chk (.pk (.vr 45) (.vr 50) (.cn (.bool false)))
  (.set 8 (.pk (.vr 45) (.vr 50) (.cn (.bool false)))
  .ret)))))))))))))))))))))))))))))))))))))
def fc4 : Fc := ⟨52, s4, [(.vr 8)]⟩
theorem c4 : compF Try.prog 4 = some fc4 := by kernel_rfl

/-- kinora/kinoralaw6.PartsSizes · parameters 3 · 0:order 1:n 2:warm 7:s 8:sum 9:i -/
def s5 : S :=
  (.set 6 (.cn (.bool false))
  (.call (some 10) 12 [] []
  (.chk (.un .not (.vr 10))
  (.set 11 (.un .not (.vr 10))
  (.ite (.vr 11)
    (.set 6 (.cn (.bool false))
    .ret)
    .nil
  (.call (some 15) 15 [(.vr 0), (.vr 1), (.vr 2)] []
  (.set 7 (.vr 15)
  (.chk (.un .ln (.vr 7))
  (.set 18 (.bn (.cm .eql .i64) (.un .ln (.vr 7)) (.cn (.int .i64 0)))
  (.ite (.vr 18)
    (.chk (.bn (.cm .lss .i64) (.vr 0) (.cn (.int .i64 0)))
    (.chk (.gd (.bn (.cm .lss .i64) (.vr 0) (.cn (.int .i64 0))) false (.bn (.cm .gtr .i64) (.vr 0) (.cn (.int .i64 8))))
    (.chk (.gd (.or (.bn (.cm .lss .i64) (.vr 0) (.cn (.int .i64 0))) (.bn (.cm .gtr .i64) (.vr 0) (.cn (.int .i64 8)))) false (.bn (.cm .lss .i64) (.vr 1) (.cn (.int .i64 1))))
    (.chk (.gd (.or (.or (.bn (.cm .lss .i64) (.vr 0) (.cn (.int .i64 0))) (.bn (.cm .gtr .i64) (.vr 0) (.cn (.int .i64 8)))) (.bn (.cm .lss .i64) (.vr 1) (.cn (.int .i64 1)))) false (.bn (.cm .gtr .i64) (.vr 1) (.cn (.int .i64 4096))))
    (.chk (.gd (.or (.or (.or (.bn (.cm .lss .i64) (.vr 0) (.cn (.int .i64 0))) (.bn (.cm .gtr .i64) (.vr 0) (.cn (.int .i64 8)))) (.bn (.cm .lss .i64) (.vr 1) (.cn (.int .i64 1)))) (.bn (.cm .gtr .i64) (.vr 1) (.cn (.int .i64 4096)))) false (.bn (.cm .lss .i64) (.vr 2) (.cn (.int .i64 0))))
    (.chk (.gd (.or (.or (.or (.or (.bn (.cm .lss .i64) (.vr 0) (.cn (.int .i64 0))) (.bn (.cm .gtr .i64) (.vr 0) (.cn (.int .i64 8)))) (.bn (.cm .lss .i64) (.vr 1) (.cn (.int .i64 1)))) (.bn (.cm .gtr .i64) (.vr 1) (.cn (.int .i64 4096)))) (.bn (.cm .lss .i64) (.vr 2) (.cn (.int .i64 0)))) false (.bn (.cm .gtr .i64) (.vr 2) (.vr 1)))
    (.chk (.gd (.or (.or (.or (.or (.or (.bn (.cm .lss .i64) (.vr 0) (.cn (.int .i64 0))) (.bn (.cm .gtr .i64) (.vr 0) (.cn (.int .i64 8)))) (.bn (.cm .lss .i64) (.vr 1) (.cn (.int .i64 1)))) (.bn (.cm .gtr .i64) (.vr 1) (.cn (.int .i64 4096)))) (.bn (.cm .lss .i64) (.vr 2) (.cn (.int .i64 0)))) (.bn (.cm .gtr .i64) (.vr 2) (.vr 1))) false (.un (.cv .u64) (.vr 0)))
    (.chk (.gd (.or (.or (.or (.or (.or (.bn (.cm .lss .i64) (.vr 0) (.cn (.int .i64 0))) (.bn (.cm .gtr .i64) (.vr 0) (.cn (.int .i64 8)))) (.bn (.cm .lss .i64) (.vr 1) (.cn (.int .i64 1)))) (.bn (.cm .gtr .i64) (.vr 1) (.cn (.int .i64 4096)))) (.bn (.cm .lss .i64) (.vr 2) (.cn (.int .i64 0)))) (.bn (.cm .gtr .i64) (.vr 2) (.vr 1))) false (.bn (.sh true .i64) (.cn (.int .i64 1)) (.un (.cv .u64) (.vr 0))))
    (.chk (.gd (.or (.or (.or (.or (.or (.bn (.cm .lss .i64) (.vr 0) (.cn (.int .i64 0))) (.bn (.cm .gtr .i64) (.vr 0) (.cn (.int .i64 8)))) (.bn (.cm .lss .i64) (.vr 1) (.cn (.int .i64 1)))) (.bn (.cm .gtr .i64) (.vr 1) (.cn (.int .i64 4096)))) (.bn (.cm .lss .i64) (.vr 2) (.cn (.int .i64 0)))) (.bn (.cm .gtr .i64) (.vr 2) (.vr 1))) false (.bn (.dv true .i64) (.vr 1) (.bn (.sh true .i64) (.cn (.int .i64 1)) (.un (.cv .u64) (.vr 0)))))
    (.chk (.gd (.or (.or (.or (.or (.or (.or (.bn (.cm .lss .i64) (.vr 0) (.cn (.int .i64 0))) (.bn (.cm .gtr .i64) (.vr 0) (.cn (.int .i64 8)))) (.bn (.cm .lss .i64) (.vr 1) (.cn (.int .i64 1)))) (.bn (.cm .gtr .i64) (.vr 1) (.cn (.int .i64 4096)))) (.bn (.cm .lss .i64) (.vr 2) (.cn (.int .i64 0)))) (.bn (.cm .gtr .i64) (.vr 2) (.vr 1))) (.bn (.cm .neq .i64) (.bn (.dv true .i64) (.vr 1) (.bn (.sh true .i64) (.cn (.int .i64 1)) (.un (.cv .u64) (.vr 0)))) (.cn (.int .i64 0)))) false (.un (.cv .u64) (.vr 0)))
    (.chk (.gd (.or (.or (.or (.or (.or (.or (.bn (.cm .lss .i64) (.vr 0) (.cn (.int .i64 0))) (.bn (.cm .gtr .i64) (.vr 0) (.cn (.int .i64 8)))) (.bn (.cm .lss .i64) (.vr 1) (.cn (.int .i64 1)))) (.bn (.cm .gtr .i64) (.vr 1) (.cn (.int .i64 4096)))) (.bn (.cm .lss .i64) (.vr 2) (.cn (.int .i64 0)))) (.bn (.cm .gtr .i64) (.vr 2) (.vr 1))) (.bn (.cm .neq .i64) (.bn (.dv true .i64) (.vr 1) (.bn (.sh true .i64) (.cn (.int .i64 1)) (.un (.cv .u64) (.vr 0)))) (.cn (.int .i64 0)))) false (.bn (.sh false .i64) (.vr 1) (.un (.cv .u64) (.vr 0))))
    (.chk (.gd (.or (.or (.or (.or (.or (.or (.bn (.cm .lss .i64) (.vr 0) (.cn (.int .i64 0))) (.bn (.cm .gtr .i64) (.vr 0) (.cn (.int .i64 8)))) (.bn (.cm .lss .i64) (.vr 1) (.cn (.int .i64 1)))) (.bn (.cm .gtr .i64) (.vr 1) (.cn (.int .i64 4096)))) (.bn (.cm .lss .i64) (.vr 2) (.cn (.int .i64 0)))) (.bn (.cm .gtr .i64) (.vr 2) (.vr 1))) (.bn (.cm .neq .i64) (.bn (.dv true .i64) (.vr 1) (.bn (.sh true .i64) (.cn (.int .i64 1)) (.un (.cv .u64) (.vr 0)))) (.cn (.int .i64 0)))) false (.bn (.cm .lss .i64) (.bn (.sh false .i64) (.vr 1) (.un (.cv .u64) (.vr 0))) (.vr 2)))
    (.set 6 (.or (.or (.or (.or (.or (.or (.or (.bn (.cm .lss .i64) (.vr 0) (.cn (.int .i64 0))) (.bn (.cm .gtr .i64) (.vr 0) (.cn (.int .i64 8)))) (.bn (.cm .lss .i64) (.vr 1) (.cn (.int .i64 1)))) (.bn (.cm .gtr .i64) (.vr 1) (.cn (.int .i64 4096)))) (.bn (.cm .lss .i64) (.vr 2) (.cn (.int .i64 0)))) (.bn (.cm .gtr .i64) (.vr 2) (.vr 1))) (.bn (.cm .neq .i64) (.bn (.dv true .i64) (.vr 1) (.bn (.sh true .i64) (.cn (.int .i64 1)) (.un (.cv .u64) (.vr 0)))) (.cn (.int .i64 0)))) (.bn (.cm .lss .i64) (.bn (.sh false .i64) (.vr 1) (.un (.cv .u64) (.vr 0))) (.vr 2)))
    .ret)))))))))))))
    .nil
  (.set 8 (.cn (.int .i64 0))
  (.set 9 (.cn (.int .i64 0))
  (.blk 0
    (.loop
      (.chk (.un .ln (.vr 7))
      (.chk (.bn (.cm .lss .i64) (.vr 9) (.un .ln (.vr 7)))
      (.set 61 (.bn (.cm .lss .i64) (.vr 9) (.un .ln (.vr 7)))
      (.ite (.vr 61)
        .nil
        (.exit 0)
      (.blk 1
        (.chk (.bn (.ia 1) (.vr 7) (.vr 9))
        (.chk (.ld (.bn (.ia 1) (.vr 7) (.vr 9)))
        (.chk (.bn (.ar .add .i64) (.vr 8) (.ld (.bn (.ia 1) (.vr 7) (.vr 9))))
        (.set 8 (.bn (.ar .add .i64) (.vr 8) (.ld (.bn (.ia 1) (.vr 7) (.vr 9))))
        (.draw
        (.chk (.bn (.cm .gtr .i64) (.vr 9) (.cn (.int .i64 0)))
        (.chk (.gd (.bn (.cm .gtr .i64) (.vr 9) (.cn (.int .i64 0))) true (.bn (.ia 1) (.vr 7) (.vr 9)))
        (.chk (.gd (.bn (.cm .gtr .i64) (.vr 9) (.cn (.int .i64 0))) true (.ld (.bn (.ia 1) (.vr 7) (.vr 9))))
        (.chk (.gd (.bn (.cm .gtr .i64) (.vr 9) (.cn (.int .i64 0))) true (.bn (.ia 1) (.vr 7) (.cn (.int .i64 0))))
        (.chk (.gd (.bn (.cm .gtr .i64) (.vr 9) (.cn (.int .i64 0))) true (.ld (.bn (.ia 1) (.vr 7) (.cn (.int .i64 0)))))
        (.chk (.gd (.bn (.cm .gtr .i64) (.vr 9) (.cn (.int .i64 0))) true (.bn (.ar .add .i64) (.ld (.bn (.ia 1) (.vr 7) (.cn (.int .i64 0)))) (.vr 2)))
        (.chk (.gd (.bn (.cm .gtr .i64) (.vr 9) (.cn (.int .i64 0))) true (.bn (.cm .neq .i64) (.ld (.bn (.ia 1) (.vr 7) (.vr 9))) (.bn (.ar .add .i64) (.ld (.bn (.ia 1) (.vr 7) (.cn (.int .i64 0)))) (.vr 2))))
        (.chk (.gd (.and (.bn (.cm .gtr .i64) (.vr 9) (.cn (.int .i64 0))) (.bn (.cm .neq .i64) (.ld (.bn (.ia 1) (.vr 7) (.vr 9))) (.bn (.ar .add .i64) (.ld (.bn (.ia 1) (.vr 7) (.cn (.int .i64 0)))) (.vr 2)))) false (.bn (.ia 1) (.vr 7) (.vr 9)))
        (.chk (.gd (.and (.bn (.cm .gtr .i64) (.vr 9) (.cn (.int .i64 0))) (.bn (.cm .neq .i64) (.ld (.bn (.ia 1) (.vr 7) (.vr 9))) (.bn (.ar .add .i64) (.ld (.bn (.ia 1) (.vr 7) (.cn (.int .i64 0)))) (.vr 2)))) false (.ld (.bn (.ia 1) (.vr 7) (.vr 9))))
        (.chk (.gd (.and (.bn (.cm .gtr .i64) (.vr 9) (.cn (.int .i64 0))) (.bn (.cm .neq .i64) (.ld (.bn (.ia 1) (.vr 7) (.vr 9))) (.bn (.ar .add .i64) (.ld (.bn (.ia 1) (.vr 7) (.cn (.int .i64 0)))) (.vr 2)))) false (.bn (.cm .lss .i64) (.ld (.bn (.ia 1) (.vr 7) (.vr 9))) (.cn (.int .i64 0))))
        (.set 90 (.or (.and (.bn (.cm .gtr .i64) (.vr 9) (.cn (.int .i64 0))) (.bn (.cm .neq .i64) (.ld (.bn (.ia 1) (.vr 7) (.vr 9))) (.bn (.ar .add .i64) (.ld (.bn (.ia 1) (.vr 7) (.cn (.int .i64 0)))) (.vr 2)))) (.bn (.cm .lss .i64) (.ld (.bn (.ia 1) (.vr 7) (.vr 9))) (.cn (.int .i64 0))))
        (.ite (.vr 90)
          (.set 6 (.cn (.bool false))
          .ret)
          .nil
        .nil)))))))))))))))))
      (.chk (.bn (.ar .add .i64) (.vr 9) (.cn (.int .i64 1)))
      (.set 9 (.bn (.ar .add .i64) (.vr 9) (.cn (.int .i64 1)))
      .nil))))))))
  (.chk (.bn (.ar .sub .i64) (.vr 1) (.vr 2))
  (.chk (.bn (.cm .eql .i64) (.vr 8) (.bn (.ar .sub .i64) (.vr 1) (.vr 2)))
  (.chk (.gd (.bn (.cm .eql .i64) (.vr 8) (.bn (.ar .sub .i64) (.vr 1) (.vr 2))) true (.bn (.cm .geq .i64) (.vr 0) (.cn (.int .i64 0))))
  (.chk (.gd (.and (.bn (.cm .eql .i64) (.vr 8) (.bn (.ar .sub .i64) (.vr 1) (.vr 2))) (.bn (.cm .geq .i64) (.vr 0) (.cn (.int .i64 0)))) true (.bn (.cm .leq .i64) (.vr 0) (.cn (.int .i64 8))))
  (.chk (.gd (.and (.and (.bn (.cm .eql .i64) (.vr 8) (.bn (.ar .sub .i64) (.vr 1) (.vr 2))) (.bn (.cm .geq .i64) (.vr 0) (.cn (.int .i64 0)))) (.bn (.cm .leq .i64) (.vr 0) (.cn (.int .i64 8)))) true (.un .ln (.vr 7)))
  (.chk (.gd (.and (.and (.bn (.cm .eql .i64) (.vr 8) (.bn (.ar .sub .i64) (.vr 1) (.vr 2))) (.bn (.cm .geq .i64) (.vr 0) (.cn (.int .i64 0)))) (.bn (.cm .leq .i64) (.vr 0) (.cn (.int .i64 8)))) true (.un (.cv .u64) (.vr 0)))
  (.chk (.gd (.and (.and (.bn (.cm .eql .i64) (.vr 8) (.bn (.ar .sub .i64) (.vr 1) (.vr 2))) (.bn (.cm .geq .i64) (.vr 0) (.cn (.int .i64 0)))) (.bn (.cm .leq .i64) (.vr 0) (.cn (.int .i64 8)))) true (.bn (.sh true .i64) (.cn (.int .i64 1)) (.un (.cv .u64) (.vr 0))))
  (.set 6 (.and (.and (.and (.bn (.cm .eql .i64) (.vr 8) (.bn (.ar .sub .i64) (.vr 1) (.vr 2))) (.bn (.cm .geq .i64) (.vr 0) (.cn (.int .i64 0)))) (.bn (.cm .leq .i64) (.vr 0) (.cn (.int .i64 8)))) (.bn (.cm .eql .i64) (.un .ln (.vr 7)) (.bn (.sh true .i64) (.cn (.int .i64 1)) (.un (.cv .u64) (.vr 0)))))
  .ret)))))))))))))))))))))
def fc5 : Fc := ⟨112, s5, [(.vr 6)]⟩
theorem c5 : compF Try.prog 5 = some fc5 := by kernel_rfl

/-- kinora/kinoralaw6.PartsOne · parameters 2 · 0:k 1:l -/
def s6 : S :=
  (.set 4 (.cn (.bool false))
  (.call (some 5) 12 [] []
  (.chk (.un .not (.vr 5))
  (.set 6 (.un .not (.vr 5))
  (.ite (.vr 6)
    (.set 4 (.cn (.bool false))
    .ret)
    .nil
  (.chk (.un .ln (.vr 1))
  (.set 10 (.bn (.cm .gtr .i64) (.un .ln (.vr 1)) (.cn (.int .i64 200)))
  (.chk (.gd (.vr 10) false (.un .ln (.vr 1)))
  (.chk (.or (.vr 10) (.bn (.cm .eql .i64) (.un .ln (.vr 1)) (.cn (.int .i64 0))))
  (.set 15 (.or (.vr 10) (.bn (.cm .eql .i64) (.un .ln (.vr 1)) (.cn (.int .i64 0))))
  (.chk (.gd (.vr 15) false (.bn (.cm .lss .i64) (.vr 0) (.cn (.int .i64 0))))
  (.chk (.or (.vr 15) (.bn (.cm .lss .i64) (.vr 0) (.cn (.int .i64 0))))
  (.set 19 (.or (.vr 15) (.bn (.cm .lss .i64) (.vr 0) (.cn (.int .i64 0))))
  (.chk (.gd (.vr 19) false (.bn (.cm .gtr .i64) (.vr 0) (.cn (.int .i64 25))))
  (.chk (.or (.vr 19) (.bn (.cm .gtr .i64) (.vr 0) (.cn (.int .i64 25))))
  (.set 23 (.or (.vr 19) (.bn (.cm .gtr .i64) (.vr 0) (.cn (.int .i64 25))))
  (.ifg (.vr 23) false
    (.call (some 25) 28 [(.vr 1)] []
    .nil)
    (.set 25 (.cn undef)
    .nil)
  (.chk (.gd (.vr 23) false (.un .not (.vr 25)))
  (.chk (.or (.vr 23) (.un .not (.vr 25)))
  (.set 27 (.or (.vr 23) (.un .not (.vr 25)))
  (.ite (.vr 27)
    (.set 4 (.cn (.bool true))
    .ret)
    .nil
  (.op (some 29) (.buildSlice 22 1 #[(0, (.tmp 28))]) 22 [(28, (.vr 0))] []
  (.chk (.bd 1 1 (.vr 29) (.cn (.agg #[(.int .i64 0), (.slice none 0 0)])))
  (.chk (.un .ln (.vr 1))
  (.call (some 34) 19 [(.bd 1 1 (.vr 29) (.cn (.agg #[(.int .i64 0), (.slice none 0 0)]))), (.un .ln (.vr 1)), (.cn (.int .i64 0)), (.vr 1)] []
  (.call (some 37) 29 [(.vr 0), (.vr 1)] []
  (.chk (.bn (.ar .add .i64) (.cn (.int .i64 9)) (.vr 37))
  (.chk (.bn (.cm .eql .i64) (.vr 34) (.bn (.ar .add .i64) (.cn (.int .i64 9)) (.vr 37)))
  (.set 4 (.bn (.cm .eql .i64) (.vr 34) (.bn (.ar .add .i64) (.cn (.int .i64 9)) (.vr 37)))
  .ret)))))))))))))))))))))))))))))
def fc6 : Fc := ⟨40, s6, [(.vr 4)]⟩
theorem c6 : compF Try.prog 6 = some fc6 := by kernel_rfl

/-- kinora/kinoralaw6.PartsGets · parameters 4 · 0:b 1:n 2:warm 3:skip 9:r 10:s 11:p 12:l 13:e 14:q 15:m 16:f -/
def s7 : S :=
  (.set 8 (.cn (.bool false))
  (.call (some 17) 12 [] []
  (.chk (.un .not (.vr 17))
  (.set 18 (.un .not (.vr 17))
  (.ite (.vr 18)
    (.set 8 (.cn (.bool false))
    .ret)
    .nil
  (.chk (.un .ln (.vr 0))
  (.chk (.gd (.bn (.cm .gtr .i64) (.un .ln (.vr 0)) (.cn (.int .i64 300))) false (.bn (.cm .gtr .i64) (.vr 1) (.cn (.int .i64 500))))
  (.chk (.gd (.gd (.bn (.cm .gtr .i64) (.un .ln (.vr 0)) (.cn (.int .i64 300))) false (.bn (.cm .gtr .i64) (.vr 1) (.cn (.int .i64 500)))) true (.bn (.cm .leq .i64) (.vr 1) (.cn (.int .i64 4096))))
  (.set 29 (.or (.bn (.cm .gtr .i64) (.un .ln (.vr 0)) (.cn (.int .i64 300))) (.and (.bn (.cm .gtr .i64) (.vr 1) (.cn (.int .i64 500))) (.bn (.cm .leq .i64) (.vr 1) (.cn (.int .i64 4096)))))
  (.ite (.vr 29)
    (.set 8 (.cn (.bool true))
    .ret)
    .nil
  (.call (some 31) 30 [(.vr 0)] []
  (.call (some 33) 31 [(.vr 0)] []
  (.set 9 (.vr 31)
  (.set 10 (.vr 33)
  (.chk (.un (.pnil false) (.vr 9))
  (.set 35 (.un (.pnil false) (.vr 9))
  (.ite (.vr 35)
    (.set 8 (.cn (.bool false))
    .ret)
    .nil
  (.call (some 38) 32 [(.vr 9), (.vr 3)] []
  (.call (some 41) 33 [(.vr 10), (.vr 3)] []
  (.call (some 46) 34 [(.vr 9), (.vr 1), (.vr 2)] []
  (.chk (.un (.ex 0) (.vr 46))
  (.chk (.un (.ex 1) (.vr 46))
  (.chk (.un (.ex 2) (.vr 46))
  (.op (some 11) (.alloc 24) 0 [] []
  (.st 2 (.vr 11) (.un (.ex 0) (.vr 46)) []
  (.set 12 (.un (.ex 1) (.vr 46))
  (.set 13 (.un (.ex 2) (.vr 46))
  (.call (some 54) 35 [(.vr 10), (.vr 1), (.vr 2)] []
  (.chk (.un (.ex 0) (.vr 54))
  (.chk (.un (.ex 1) (.vr 54))
  (.chk (.un (.ex 2) (.vr 54))
  (.op (some 14) (.alloc 24) 0 [] []
  (.st 2 (.vr 14) (.un (.ex 0) (.vr 54)) []
  (.set 15 (.un (.ex 1) (.vr 54))
  (.set 16 (.un (.ex 2) (.vr 54))
  (.draw
  (.chk (.bn (.cm .eql .i64) (.vr 13) (.vr 16))
  (.set 61 (.bn (.cm .eql .i64) (.vr 13) (.vr 16))
  (.chk (.gd (.vr 61) true (.ldn 2 (.vr 11)))
  (.set 62 (.gd (.vr 61) true (.ldn 2 (.vr 11)))
  (.chk (.gd (.vr 61) true (.ldn 2 (.vr 14)))
  (.set 63 (.gd (.vr 61) true (.ldn 2 (.vr 14)))
  (.ifg (.vr 61) true
    (.call (some 64) 36 [(.vr 62), (.vr 63)] []
    .nil)
    (.set 64 (.cn undef)
    .nil)
  (.chk (.pk (.vr 61) (.vr 64) (.cn (.bool false)))
  (.set 66 (.pk (.vr 61) (.vr 64) (.cn (.bool false)))
  (.ifg (.vr 66) true
    (.call (some 69) 14 [(.vr 12), (.vr 15)] []
    .nil)
    (.set 69 (.cn undef)
    .nil)
  (.chk (.pk (.vr 66) (.vr 69) (.cn (.bool false)))
  (.set 71 (.pk (.vr 66) (.vr 69) (.cn (.bool false)))
  (.chk (.gd (.vr 71) true (.bn (.cm .neq .i64) (.vr 13) (.cn (.int .i64 0))))
  (.set 74 (.gd (.vr 71) true (.bn (.cm .neq .i64) (.vr 13) (.cn (.int .i64 0))))
  (.chk (.gd (.vr 74) false (.un .nck (.vr 10)))
  (.chk (.gd (.vr 74) false (.un (.fa 1) (.un .nck (.vr 10))))
  (.chk (.gd (.vr 74) false (.ld (.un (.fa 1) (.un .nck (.vr 10)))))
  (.set 80 (.gd (.vr 74) false (.ld (.un (.fa 1) (.un .nck (.vr 10)))))
  (.ifg (.vr 74) false
    (.call (some 76) 37 [(.vr 9)] [⟨22, (.un (.fa 1) (.un .nck (.vr 10))), 1, (some ((.vr 74), false))⟩]
    .nil)
    (.set 76 (.cn undef)
    .nil)
  (.chk (.gd (.vr 74) false (.bn (.cm .eql .i64) (.vr 76) (.vr 80)))
  (.chk (.gd (.vr 71) true (.or (.vr 74) (.bn (.cm .eql .i64) (.vr 76) (.vr 80))))
  (.chk (.and (.vr 71) (.or (.vr 74) (.bn (.cm .eql .i64) (.vr 76) (.vr 80))))
  (.set 8 (.and (.vr 71) (.or (.vr 74) (.bn (.cm .eql .i64) (.vr 76) (.vr 80))))
  .ret)))))))))))))))))))))))))))))))))))))))))))))))))))))))))))
def fc7 : Fc := ⟨84, s7, [(.vr 8)]⟩
theorem c7 : compF Try.prog 7 = some fc7 := by kernel_rfl

/-- kinora/kinoralaw6.PartsBack · parameters 4 · 0:p 1:n 2:warm 3:l 4:p 9:w 10:r 11:q 12:m 13:e -/
def s8 : S :=
  (.op (some 4) (.box 24 (.tmp 0)) 0 [(0, (.vr 0))] []
  (.set 8 (.cn (.bool false))
  (.call (some 14) 12 [] []
  (.chk (.un .not (.vr 14))
  (.set 15 (.un .not (.vr 14))
  (.ite (.vr 15)
    (.set 8 (.cn (.bool false))
    .ret)
    .nil
  (.chk (.ldn 2 (.vr 4))
  (.set 16 (.ldn 2 (.vr 4))
  (.call (some 18) 13 [(.vr 16), (.vr 3)] []
  (.chk (.un .not (.vr 18))
  (.set 20 (.un .not (.vr 18))
  (.chk (.gd (.vr 20) false (.ldn 2 (.vr 4)))
  (.set 21 (.gd (.vr 20) false (.ldn 2 (.vr 4)))
  (.ifg (.vr 20) false
    (.call (some 24) 18 [(.vr 21), (.vr 1), (.vr 2)] []
    .nil)
    (.set 24 (.cn undef)
    .nil)
  (.chk (.gd (.vr 20) false (.un .not (.vr 24)))
  (.chk (.or (.vr 20) (.un .not (.vr 24)))
  (.set 27 (.or (.vr 20) (.un .not (.vr 24)))
  (.chk (.gd (.vr 27) false (.un .ln (.vr 3)))
  (.chk (.gd (.vr 27) false (.bn (.ar .sub .i64) (.vr 1) (.vr 2)))
  (.chk (.or (.vr 27) (.bn (.cm .neq .i64) (.un .ln (.vr 3)) (.bn (.ar .sub .i64) (.vr 1) (.vr 2))))
  (.set 35 (.or (.vr 27) (.bn (.cm .neq .i64) (.un .ln (.vr 3)) (.bn (.ar .sub .i64) (.vr 1) (.vr 2))))
  (.ifg (.vr 35) false
    (.call (some 37) 28 [(.vr 3)] []
    .nil)
    (.set 37 (.cn undef)
    .nil)
  (.chk (.gd (.vr 35) false (.un .not (.vr 37)))
  (.chk (.or (.vr 35) (.un .not (.vr 37)))
  (.set 39 (.or (.vr 35) (.un .not (.vr 37)))
  (.ite (.vr 39)
    (.set 8 (.cn (.bool true))
    .ret)
    .nil
  (.op (some 41) (.box 35 (.tmp 40)) 32 [(40, (.cn (.agg #[(.slice none 0 0), (.int .i64 0)])))] []
  (.set 9 (.vr 41)
  (.call (some 43) 38 [(.vr 9), (.cn (.int .u64 1)), (.cn (.int .i64 1))] []
  (.draw
  (.chk (.ldn 2 (.vr 4))
  (.set 45 (.ldn 2 (.vr 4))
  (.call (some 49) 21 [(.vr 9), (.vr 45), (.vr 1), (.vr 2), (.vr 3)] []
  (.chk (.bn (.cm .neq .i64) (.vr 49) (.cn (.int .i64 0)))
  (.set 51 (.bn (.cm .neq .i64) (.vr 49) (.cn (.int .i64 0)))
  (.chk (.gd (.vr 51) false (.ldn 2 (.vr 4)))
  (.set 54 (.gd (.vr 51) false (.ldn 2 (.vr 4)))
  (.ifg (.vr 51) false
    (.call (some 53) 23 [(.vr 9)] [⟨10, (.vr 4), 2, (some ((.vr 51), false))⟩]
    .nil)
    (.set 53 (.cn undef)
    .nil)
  (.ifg (.vr 51) false
    (.call (some 58) 19 [(.vr 54), (.vr 1), (.vr 2), (.vr 3)] []
    .nil)
    (.set 58 (.cn undef)
    .nil)
  (.chk (.gd (.vr 51) false (.bn (.ar .add .i64) (.cn (.int .i64 1)) (.vr 58)))
  (.chk (.gd (.vr 51) false (.bn (.cm .neq .i64) (.vr 53) (.bn (.ar .add .i64) (.cn (.int .i64 1)) (.vr 58))))
  (.chk (.or (.vr 51) (.bn (.cm .neq .i64) (.vr 53) (.bn (.ar .add .i64) (.cn (.int .i64 1)) (.vr 58))))
  (.set 61 (.or (.vr 51) (.bn (.cm .neq .i64) (.vr 53) (.bn (.ar .add .i64) (.cn (.int .i64 1)) (.vr 58))))
  (.ite (.vr 61)
    (.set 8 (.cn (.bool false))
    .ret)
    .nil
  (.call (some 63) 26 [(.vr 9)] []
  (.call (some 64) 30 [(.vr 63)] []
  (.set 10 (.vr 64)
  (.chk (.un (.pnil false) (.vr 10))
  (.set 66 (.un (.pnil false) (.vr 10))
  (.ite (.vr 66)
    (.set 8 (.cn (.bool false))
    .ret)
    .nil
  (.call (some 68) 32 [(.vr 10), (.cn (.int .i64 1))] []
  (.call (some 73) 34 [(.vr 10), (.vr 1), (.vr 2)] []
  (.chk (.un (.ex 0) (.vr 73))
  (.chk (.un (.ex 1) (.vr 73))
  (.chk (.un (.ex 2) (.vr 73))
  (.op (some 11) (.alloc 24) 0 [] []
  (.st 2 (.vr 11) (.un (.ex 0) (.vr 73)) []
  (.set 12 (.un (.ex 1) (.vr 73))
  (.set 13 (.un (.ex 2) (.vr 73))
  (.chk (.bn (.cm .eql .i64) (.vr 13) (.cn (.int .i64 0)))
  (.set 79 (.bn (.cm .eql .i64) (.vr 13) (.cn (.int .i64 0)))
  (.chk (.gd (.vr 79) true (.ldn 2 (.vr 4)))
  (.set 80 (.gd (.vr 79) true (.ldn 2 (.vr 4)))
  (.chk (.gd (.vr 79) true (.ldn 2 (.vr 11)))
  (.set 81 (.gd (.vr 79) true (.ldn 2 (.vr 11)))
  (.ifg (.vr 79) true
    (.call (some 82) 36 [(.vr 80), (.vr 81)] []
    .nil)
    (.set 82 (.cn undef)
    .nil)
  (.chk (.pk (.vr 79) (.vr 82) (.cn (.bool false)))
  (.set 84 (.pk (.vr 79) (.vr 82) (.cn (.bool false)))
  (.ifg (.vr 84) true
    (.call (some 87) 14 [(.vr 3), (.vr 12)] []
    .nil)
    (.set 87 (.cn undef)
    .nil)
  (.chk (.pk (.vr 84) (.vr 87) (.cn (.bool false)))
  (.set 89 (.pk (.vr 84) (.vr 87) (.cn (.bool false)))
  (.ifg (.vr 89) true
    (.call (some 91) 37 [(.vr 10)] []
    .nil)
    (.set 91 (.cn undef)
    .nil)
  (.ifg (.vr 89) true
    (.call (some 93) 23 [(.vr 9)] []
    .nil)
    (.set 93 (.cn undef)
    .nil)
  (.chk (.gd (.vr 89) true (.bn (.cm .eql .i64) (.vr 91) (.vr 93)))
  (.chk (.and (.vr 89) (.bn (.cm .eql .i64) (.vr 91) (.vr 93)))
  (.set 8 (.and (.vr 89) (.bn (.cm .eql .i64) (.vr 91) (.vr 93)))
  .ret))))))))))))))))))))))))))))))))))))))))))))))))))))))))))))))))))))))))))))
def fc8 : Fc := ⟨96, s8, [(.vr 8)]⟩
theorem c8 : compF Try.prog 8 = some fc8 := by kernel_rfl

/-- kinora/kinoralaw6.PartsBests · parameters 4 · 0:n 1:warm 2:most 3:l 9:p 10:e 11:q 12:f -/
def s9 : S :=
  (.set 8 (.cn (.bool false))
  (.call (some 13) 12 [] []
  (.chk (.un .not (.vr 13))
  (.set 14 (.un .not (.vr 13))
  (.ite (.vr 14)
    (.set 8 (.cn (.bool false))
    .ret)
    .nil
  (.chk (.un .ln (.vr 3))
  (.set 17 (.bn (.cm .gtr .i64) (.un .ln (.vr 3)) (.cn (.int .i64 130)))
  (.ite (.vr 17)
    (.set 8 (.cn (.bool true))
    .ret)
    .nil
  (.call (some 23) 39 [(.vr 0), (.vr 1), (.vr 2), (.vr 3)] []
  (.chk (.un (.ex 0) (.vr 23))
  (.chk (.un (.ex 1) (.vr 23))
  (.op (some 9) (.alloc 24) 0 [] []
  (.st 2 (.vr 9) (.un (.ex 0) (.vr 23)) []
  (.set 10 (.un (.ex 1) (.vr 23))
  (.call (some 31) 40 [(.vr 0), (.vr 1), (.vr 2), (.vr 3)] []
  (.chk (.un (.ex 0) (.vr 31))
  (.chk (.un (.ex 1) (.vr 31))
  (.op (some 11) (.alloc 24) 0 [] []
  (.st 2 (.vr 11) (.un (.ex 0) (.vr 31)) []
  (.set 12 (.un (.ex 1) (.vr 31))
  (.chk (.bn (.cm .eql .i64) (.vr 10) (.vr 12))
  (.set 37 (.bn (.cm .eql .i64) (.vr 10) (.vr 12))
  (.chk (.gd (.vr 37) true (.ldn 2 (.vr 9)))
  (.set 38 (.gd (.vr 37) true (.ldn 2 (.vr 9)))
  (.chk (.gd (.vr 37) true (.ldn 2 (.vr 11)))
  (.set 39 (.gd (.vr 37) true (.ldn 2 (.vr 11)))
  (.ifg (.vr 37) true
    (.call (some 40) 36 [(.vr 38), (.vr 39)] []
    .nil)
    (.set 40 (.cn undef)
    .nil)
  (.chk (.pk (.vr 37) (.vr 40) (.cn (.bool false)))
  (.set 8 (.pk (.vr 37) (.vr 40) (.cn (.bool false)))
  .ret)))))))))))))))))))))))))))))
def fc9 : Fc := ⟨42, s9, [(.vr 8)]⟩
theorem c9 : compF Try.prog 9 = some fc9 := by kernel_rfl

/-- kinora/kinoralaw6.PartsLeast · parameters 5 · 0:p 1:n 2:warm 3:most 4:l 5:p 11:q 12:e 13:c -/
def s10 : S :=
  (.op (some 5) (.box 24 (.tmp 0)) 0 [(0, (.vr 0))] []
  (.set 10 (.cn (.bool false))
  (.call (some 14) 12 [] []
  (.chk (.un .not (.vr 14))
  (.set 15 (.un .not (.vr 14))
  (.ite (.vr 15)
    (.set 10 (.cn (.bool false))
    .ret)
    .nil
  (.chk (.un (.fa 1) (.vr 5))
  (.chk (.ld (.un (.fa 1) (.vr 5)))
  (.set 17 (.ld (.un (.fa 1) (.vr 5)))
  (.chk (.un .ln (.vr 17))
  (.set 20 (.bn (.cm .gtr .i64) (.un .ln (.vr 17)) (.cn (.int .i64 70)))
  (.chk (.gd (.vr 20) false (.un .ln (.vr 4)))
  (.chk (.or (.vr 20) (.bn (.cm .gtr .i64) (.un .ln (.vr 4)) (.cn (.int .i64 130))))
  (.set 25 (.or (.vr 20) (.bn (.cm .gtr .i64) (.un .ln (.vr 4)) (.cn (.int .i64 130))))
  (.chk (.gd (.vr 25) false (.ldn 2 (.vr 5)))
  (.set 26 (.gd (.vr 25) false (.ldn 2 (.vr 5)))
  (.ifg (.vr 25) false
    (.call (some 29) 18 [(.vr 26), (.vr 1), (.vr 2)] []
    .nil)
    (.set 29 (.cn undef)
    .nil)
  (.chk (.gd (.vr 25) false (.un .not (.vr 29)))
  (.chk (.or (.vr 25) (.un .not (.vr 29)))
  (.set 32 (.or (.vr 25) (.un .not (.vr 29)))
  (.chk (.gd (.vr 32) false (.un .ln (.vr 4)))
  (.chk (.gd (.vr 32) false (.bn (.ar .sub .i64) (.vr 1) (.vr 2)))
  (.chk (.or (.vr 32) (.bn (.cm .neq .i64) (.un .ln (.vr 4)) (.bn (.ar .sub .i64) (.vr 1) (.vr 2))))
  (.set 40 (.or (.vr 32) (.bn (.cm .neq .i64) (.un .ln (.vr 4)) (.bn (.ar .sub .i64) (.vr 1) (.vr 2))))
  (.ifg (.vr 40) false
    (.call (some 42) 28 [(.vr 4)] []
    .nil)
    (.set 42 (.cn undef)
    .nil)
  (.chk (.gd (.vr 40) false (.un .not (.vr 42)))
  (.chk (.or (.vr 40) (.un .not (.vr 42)))
  (.set 44 (.or (.vr 40) (.un .not (.vr 42)))
  (.ite (.vr 44)
    (.set 10 (.cn (.bool true))
    .ret)
    .nil
  (.call (some 50) 39 [(.vr 1), (.vr 2), (.vr 3), (.vr 4)] []
  (.chk (.un (.ex 0) (.vr 50))
  (.chk (.un (.ex 1) (.vr 50))
  (.op (some 11) (.alloc 24) 0 [] []
  (.st 2 (.vr 11) (.un (.ex 0) (.vr 50)) []
  (.set 12 (.un (.ex 1) (.vr 50))
  (.chk (.bn (.cm .neq .i64) (.vr 12) (.cn (.int .i64 0)))
  (.set 55 (.bn (.cm .neq .i64) (.vr 12) (.cn (.int .i64 0)))
  (.chk (.gd (.vr 55) false (.ldn 2 (.vr 11)))
  (.set 56 (.gd (.vr 55) false (.ldn 2 (.vr 11)))
  (.ifg (.vr 55) false
    (.call (some 59) 17 [(.vr 56), (.vr 1), (.vr 2)] []
    .nil)
    (.set 59 (.cn undef)
    .nil)
  (.chk (.gd (.vr 55) false (.un .not (.vr 59)))
  (.chk (.or (.vr 55) (.un .not (.vr 59)))
  (.set 62 (.or (.vr 55) (.un .not (.vr 59)))
  (.chk (.gd (.vr 62) false (.un (.fa 0) (.vr 11)))
  (.chk (.gd (.vr 62) false (.ld (.un (.fa 0) (.vr 11))))
  (.set 64 (.gd (.vr 62) false (.ld (.un (.fa 0) (.vr 11))))
  (.chk (.gd (.vr 62) false (.bn (.mx .i64) (.vr 3) (.cn (.int .i64 0))))
  (.chk (.gd (.vr 62) false (.bn (.cm .gtr .i64) (.vr 64) (.bn (.mx .i64) (.vr 3) (.cn (.int .i64 0)))))
  (.chk (.or (.vr 62) (.bn (.cm .gtr .i64) (.vr 64) (.bn (.mx .i64) (.vr 3) (.cn (.int .i64 0)))))
  (.set 68 (.or (.vr 62) (.bn (.cm .gtr .i64) (.vr 64) (.bn (.mx .i64) (.vr 3) (.cn (.int .i64 0)))))
  (.ite (.vr 68)
    (.set 10 (.cn (.bool false))
    .ret)
    .nil
  (.chk (.ldn 2 (.vr 11))
  (.set 69 (.ldn 2 (.vr 11))
  (.call (some 73) 19 [(.vr 69), (.vr 1), (.vr 2), (.vr 4)] []
  (.set 13 (.vr 73)
  (.chk (.bn (.cm .gtr .i64) (.vr 13) (.cn (.int .i64 0)))
  (.set 76 (.bn (.cm .gtr .i64) (.vr 13) (.cn (.int .i64 0)))
  (.chk (.gd (.vr 76) true (.un (.fa 0) (.vr 5)))
  (.chk (.gd (.vr 76) true (.ld (.un (.fa 0) (.vr 5))))
  (.set 78 (.gd (.vr 76) true (.ld (.un (.fa 0) (.vr 5))))
  (.chk (.gd (.vr 76) true (.bn (.cm .gtr .i64) (.vr 78) (.vr 3)))
  (.set 81 (.gd (.vr 76) true (.bn (.cm .gtr .i64) (.vr 78) (.vr 3)))
  (.chk (.gd (.vr 81) false (.ldn 2 (.vr 5)))
  (.set 83 (.gd (.vr 81) false (.ldn 2 (.vr 5)))
  (.ifg (.vr 81) false
    (.call (some 87) 19 [(.vr 83), (.vr 1), (.vr 2), (.vr 4)] []
    .nil)
    (.set 87 (.cn undef)
    .nil)
  (.chk (.gd (.vr 81) false (.bn (.cm .leq .i64) (.vr 13) (.vr 87)))
  (.chk (.gd (.vr 76) true (.or (.vr 81) (.bn (.cm .leq .i64) (.vr 13) (.vr 87))))
  (.chk (.and (.vr 76) (.or (.vr 81) (.bn (.cm .leq .i64) (.vr 13) (.vr 87))))
  (.set 10 (.and (.vr 76) (.or (.vr 81) (.bn (.cm .leq .i64) (.vr 13) (.vr 87))))
  .ret)))))))))))))))))))))))))))))))))))))))))))))))))))))))))))))))))))))
def fc10 : Fc := ⟨91, s10, [(.vr 10)]⟩
theorem c10 : compF Try.prog 10 = some fc10 := by kernel_rfl

/-- kinora/kinoralaw6.PartsMore · parameters 4 · 0:l 1:warm 2:a 3:b 9:k 10:n 11:p 12:e 13:q 14:f 15:x 16:y -/
def s11 : S :=
  (.set 8 (.cn (.bool false))
  (.call (some 17) 12 [] []
  (.chk (.un .not (.vr 17))
  (.set 18 (.un .not (.vr 17))
  (.ite (.vr 18)
    (.set 8 (.cn (.bool false))
    .ret)
    .nil
  (.chk (.un .ln (.vr 0))
  (.set 22 (.bn (.cm .gtr .i64) (.un .ln (.vr 0)) (.cn (.int .i64 120)))
  (.chk (.gd (.vr 22) false (.un .ln (.vr 0)))
  (.chk (.or (.vr 22) (.bn (.cm .eql .i64) (.un .ln (.vr 0)) (.cn (.int .i64 0))))
  (.set 27 (.or (.vr 22) (.bn (.cm .eql .i64) (.un .ln (.vr 0)) (.cn (.int .i64 0))))
  (.ifg (.vr 27) false
    (.call (some 29) 28 [(.vr 0)] []
    .nil)
    (.set 29 (.cn undef)
    .nil)
  (.chk (.gd (.vr 27) false (.un .not (.vr 29)))
  (.chk (.or (.vr 27) (.un .not (.vr 29)))
  (.set 31 (.or (.vr 27) (.un .not (.vr 29)))
  (.ite (.vr 31)
    (.set 8 (.cn (.bool true))
    .ret)
    .nil
  (.chk (.bn (.bt .and .i64) (.vr 1) (.cn (.int .i64 255)))
  (.set 9 (.bn (.dv true .i64) (.bn (.bt .and .i64) (.vr 1) (.cn (.int .i64 255))) (.cn (.int .i64 9)))
  (.chk (.un .ln (.vr 0))
  (.chk (.bn (.ar .add .i64) (.un .ln (.vr 0)) (.vr 9))
  (.set 10 (.bn (.ar .add .i64) (.un .ln (.vr 0)) (.vr 9))
  (.chk (.bn (.mn .i64) (.vr 2) (.vr 3))
  (.call (some 46) 39 [(.vr 10), (.vr 9), (.bn (.mn .i64) (.vr 2) (.vr 3)), (.vr 0)] []
  (.chk (.un (.ex 0) (.vr 46))
  (.chk (.un (.ex 1) (.vr 46))
  (.op (some 11) (.alloc 24) 0 [] []
  (.st 2 (.vr 11) (.un (.ex 0) (.vr 46)) []
  (.set 12 (.un (.ex 1) (.vr 46))
  (.chk (.bn (.mx .i64) (.vr 2) (.vr 3))
  (.call (some 56) 39 [(.vr 10), (.vr 9), (.bn (.mx .i64) (.vr 2) (.vr 3)), (.vr 0)] []
  (.chk (.un (.ex 0) (.vr 56))
  (.chk (.un (.ex 1) (.vr 56))
  (.op (some 13) (.alloc 24) 0 [] []
  (.st 2 (.vr 13) (.un (.ex 0) (.vr 56)) []
  (.set 14 (.un (.ex 1) (.vr 56))
  (.chk (.bn (.cm .neq .i64) (.vr 12) (.cn (.int .i64 0)))
  (.chk (.gd (.bn (.cm .neq .i64) (.vr 12) (.cn (.int .i64 0))) false (.bn (.cm .neq .i64) (.vr 14) (.cn (.int .i64 0))))
  (.set 64 (.or (.bn (.cm .neq .i64) (.vr 12) (.cn (.int .i64 0))) (.bn (.cm .neq .i64) (.vr 14) (.cn (.int .i64 0))))
  (.ite (.vr 64)
    (.set 8 (.cn (.bool false))
    .ret)
    .nil
  (.draw
  (.chk (.ldn 2 (.vr 11))
  (.set 65 (.ldn 2 (.vr 11))
  (.chk (.ldn 2 (.vr 13))
  (.set 70 (.ldn 2 (.vr 13))
  (.call (some 69) 19 [(.vr 65), (.vr 10), (.vr 9), (.vr 0)] [⟨5, (.vr 13), 2, none⟩]
  (.call (some 74) 19 [(.vr 70), (.vr 10), (.vr 9), (.vr 0)] []
  (.set 15 (.vr 69)
  (.set 16 (.vr 74)
  (.chk (.bn (.cm .gtr .i64) (.vr 15) (.cn (.int .i64 0)))
  (.set 77 (.bn (.cm .gtr .i64) (.vr 15) (.cn (.int .i64 0)))
  (.chk (.gd (.vr 77) true (.bn (.cm .gtr .i64) (.vr 16) (.cn (.int .i64 0))))
  (.chk (.and (.vr 77) (.bn (.cm .gtr .i64) (.vr 16) (.cn (.int .i64 0))))
  (.set 81 (.and (.vr 77) (.bn (.cm .gtr .i64) (.vr 16) (.cn (.int .i64 0))))
  (.chk (.gd (.vr 81) true (.bn (.cm .leq .i64) (.vr 16) (.vr 15)))
  (.chk (.and (.vr 81) (.bn (.cm .leq .i64) (.vr 16) (.vr 15)))
  (.set 86 (.and (.vr 81) (.bn (.cm .leq .i64) (.vr 16) (.vr 15)))
  (.chk (.gd (.vr 86) true (.un .ln (.vr 0)))
  (.ifg (.vr 86) true
    (.call (some 91) 41 [(.vr 0)] []
    .nil)
    (.set 91 (.cn undef)
    .nil)
  (.chk (.gd (.vr 86) true (.bn (.ar .mul .i64) (.un .ln (.vr 0)) (.vr 91)))
  (.chk (.gd (.vr 86) true (.bn (.cm .leq .i64) (.vr 15) (.bn (.ar .add .i64) (.cn (.int .i64 14)) (.bn (.ar .mul .i64) (.un .ln (.vr 0)) (.vr 91)))))
  (.chk (.and (.vr 86) (.bn (.cm .leq .i64) (.vr 15) (.bn (.ar .add .i64) (.cn (.int .i64 14)) (.bn (.ar .mul .i64) (.un .ln (.vr 0)) (.vr 91)))))
  (.set 8 (.and (.vr 86) (.bn (.cm .leq .i64) (.vr 15) (.bn (.ar .add .i64) (.cn (.int .i64 14)) (.bn (.ar .mul .i64) (.un .ln (.vr 0)) (.vr 91)))))
  .ret)))))))))))))))))))))))))))))))))))))))))))))))))))))))))))))
def fc11 : Fc := ⟨96, s11, [(.vr 8)]⟩
theorem c11 : compF Try.prog 11 = some fc11 := by kernel_rfl

/-- kinora/kinoralaw6.known · parameters 0 · 1:p 2:l 3:w 4:e 5:r 6:q 7:m 8:f -/
def s12 : S :=
  (.set 0 (.cn (.bool false))
  (.op (some 9) (.buildSlice 22 2 #[(0, (.const (.int .i64 0))), (1, (.const (.int .i64 31)))]) 22 [] []
  (.chk (.bd 1 1 (.vr 9) (.bd 0 1 (.cn (.int .i64 1)) (.cn (.agg #[(.int .i64 0), (.slice none 0 0)]))))
  (.op (some 1) (.alloc 24) 0 [] []
  (.st 2 (.vr 1) (.bd 1 1 (.vr 9) (.bd 0 1 (.cn (.int .i64 1)) (.cn (.agg #[(.int .i64 0), (.slice none 0 0)])))) []
  (.op (some 11) (.buildSlice 22 3 #[(0, (.const (.int .i64 0))), (1, (.const (.int .i64 1))), (2, (.const (.int .i64 (-2))))]) 22 [] []
  (.set 2 (.vr 11)
  (.op (some 13) (.box 35 (.tmp 12)) 32 [(12, (.cn (.agg #[(.slice none 0 0), (.int .i64 0)])))] []
  (.set 3 (.vr 13)
  (.chk (.ldn 2 (.vr 1))
  (.set 15 (.ldn 2 (.vr 1))
  (.call (some 17) 21 [(.vr 3), (.vr 15), (.cn (.int .i64 4)), (.cn (.int .i64 1)), (.vr 2)] []
  (.set 4 (.vr 17)
  (.call (some 19) 26 [(.vr 3)] []
  (.call (some 20) 30 [(.vr 19)] []
  (.set 5 (.vr 20)
  (.chk (.un (.pnil false) (.vr 5))
  (.set 22 (.un (.pnil false) (.vr 5))
  (.ite (.vr 22)
    (.set 0 (.cn (.bool false))
    .ret)
    .nil
  (.call (some 25) 34 [(.vr 5), (.cn (.int .i64 4)), (.cn (.int .i64 1))] []
  (.chk (.un (.ex 0) (.vr 25))
  (.chk (.un (.ex 1) (.vr 25))
  (.chk (.un (.ex 2) (.vr 25))
  (.op (some 6) (.alloc 24) 0 [] []
  (.st 2 (.vr 6) (.un (.ex 0) (.vr 25)) []
  (.set 7 (.un (.ex 1) (.vr 25))
  (.set 8 (.un (.ex 2) (.vr 25))
  (.chk (.bn (.cm .eql .i64) (.vr 4) (.cn (.int .i64 0)))
  (.set 31 (.bn (.cm .eql .i64) (.vr 4) (.cn (.int .i64 0)))
  (.chk (.gd (.vr 31) true (.bn (.cm .eql .i64) (.vr 8) (.cn (.int .i64 0))))
  (.chk (.and (.vr 31) (.bn (.cm .eql .i64) (.vr 8) (.cn (.int .i64 0))))
  (.set 35 (.and (.vr 31) (.bn (.cm .eql .i64) (.vr 8) (.cn (.int .i64 0))))
  (.chk (.gd (.vr 35) true (.ldn 2 (.vr 1)))
  (.set 36 (.gd (.vr 35) true (.ldn 2 (.vr 1)))
  (.chk (.gd (.vr 35) true (.ldn 2 (.vr 6)))
  (.set 37 (.gd (.vr 35) true (.ldn 2 (.vr 6)))
  (.ifg (.vr 35) true
    (.call (some 38) 36 [(.vr 36), (.vr 37)] []
    .nil)
    (.set 38 (.cn undef)
    .nil)
  (.chk (.pk (.vr 35) (.vr 38) (.cn (.bool false)))
  (.set 40 (.pk (.vr 35) (.vr 38) (.cn (.bool false)))
  (.ifg (.vr 40) true
    (.call (some 43) 14 [(.vr 2), (.vr 7)] []
    .nil)
    (.set 43 (.cn undef)
    .nil)
  (.chk (.pk (.vr 40) (.vr 43) (.cn (.bool false)))
  (.set 45 (.pk (.vr 40) (.vr 43) (.cn (.bool false)))
  (.ifg (.vr 45) true
    (.call (some 47) 23 [(.vr 3)] []
    .nil)
    (.set 47 (.cn undef)
    .nil)
  (.chk (.gd (.vr 45) true (.bn (.cm .eql .i64) (.vr 47) (.cn (.int .i64 24))))
  (.chk (.and (.vr 45) (.bn (.cm .eql .i64) (.vr 47) (.cn (.int .i64 24))))
  (.set 50 (.and (.vr 45) (.bn (.cm .eql .i64) (.vr 47) (.cn (.int .i64 24))))
  (.chk (.gd (.vr 50) true (.ldn 2 (.vr 1)))
  (.set 51 (.gd (.vr 50) true (.ldn 2 (.vr 1)))
  (.ifg (.vr 50) true
    (.call (some 53) 19 [(.vr 51), (.cn (.int .i64 4)), (.cn (.int .i64 1)), (.vr 2)] []
    .nil)
    (.set 53 (.cn undef)
    .nil)
  (.ifg (.vr 50) true
    (.call (some 55) 23 [(.vr 3)] []
    .nil)
    (.set 55 (.cn undef)
    .nil)
  (.chk (.gd (.vr 50) true (.bn (.cm .eql .i64) (.vr 53) (.vr 55)))
  (.chk (.and (.vr 50) (.bn (.cm .eql .i64) (.vr 53) (.vr 55)))
  (.set 58 (.and (.vr 50) (.bn (.cm .eql .i64) (.vr 53) (.vr 55)))
  (.ifg (.vr 58) true
    (.call (some 59) 15 [(.cn (.int .i64 1)), (.cn (.int .i64 4)), (.cn (.int .i64 1))] []
    .nil)
    (.set 59 (.cn undef)
    .nil)
  (.ifg (.vr 58) true
    (.op (some 60) (.buildSlice 22 2 #[(0, (.const (.int .i64 1))), (1, (.const (.int .i64 2)))]) 22 [] []
    .nil)
    (.set 60 (.cn undef)
    .nil)
  (.ifg (.vr 58) true
    (.call (some 61) 14 [(.vr 59), (.vr 60)] []
    .nil)
    (.set 61 (.cn undef)
    .nil)
  (.chk (.pk (.vr 58) (.vr 61) (.cn (.bool false)))
  (.set 63 (.pk (.vr 58) (.vr 61) (.cn (.bool false)))
  (.chk (.gd (.vr 63) true (.ldn 2 (.vr 1)))
  (.set 64 (.gd (.vr 63) true (.ldn 2 (.vr 1)))
  (.ifg (.vr 63) true
    (.call (some 65) 17 [(.vr 64), (.cn (.int .i64 5)), (.cn (.int .i64 1))] []
    .nil)
    (.set 65 (.cn undef)
    .nil)
  (.chk (.gd (.vr 63) true (.un .not (.vr 65)))
  (.chk (.and (.vr 63) (.un .not (.vr 65)))
  (.set 0 (.and (.vr 63) (.un .not (.vr 65)))
  .ret))))))))))))))))))))))))))))))))))))))))))))))))))))))))))))))))
def fc12 : Fc := ⟨68, s12, [(.vr 0)]⟩
theorem c12 : compF Try.prog 12 = some fc12 := by kernel_rfl

/-- kinora/kinoralaw6.small · parameters 2 · 0:p 1:l 2:p -/
def s13 : S :=
  (.op (some 2) (.box 24 (.tmp 0)) 0 [(0, (.vr 0))] []
  (.set 4 (.cn (.bool false))
  (.chk (.un (.fa 1) (.vr 2))
  (.chk (.ld (.un (.fa 1) (.vr 2)))
  (.chk (.un .ln (.ld (.un (.fa 1) (.vr 2))))
  (.chk (.gd (.bn (.cm .leq .i64) (.un .ln (.ld (.un (.fa 1) (.vr 2)))) (.cn (.int .i64 300))) true (.un .ln (.vr 1)))
  (.set 4 (.and (.bn (.cm .leq .i64) (.un .ln (.ld (.un (.fa 1) (.vr 2)))) (.cn (.int .i64 300))) (.bn (.cm .leq .i64) (.un .ln (.vr 1)) (.cn (.int .i64 400))))
  .ret)))))))
def fc13 : Fc := ⟨14, s13, [(.vr 4)]⟩
theorem c13 : compF Try.prog 13 = some fc13 := by kernel_rfl

/-- kinora/kinoraref2.SameInts · parameters 2 · 0:a 1:b 5:i -/
def s14 : S :=
  (.set 4 (.cn (.bool false))
  (.chk (.un .ln (.vr 0))
  (.chk (.un .ln (.vr 1))
  (.set 10 (.bn (.cm .neq .i64) (.un .ln (.vr 0)) (.un .ln (.vr 1)))
  (.ite (.vr 10)
    (.set 4 (.cn (.bool false))
    .ret)
    .nil
  (.set 5 (.cn (.int .i64 0))
  (.blk 0
    (.loop
      (.chk (.un .ln (.vr 0))
      (.chk (.bn (.cm .lss .i64) (.vr 5) (.un .ln (.vr 0)))
      (.set 14 (.bn (.cm .lss .i64) (.vr 5) (.un .ln (.vr 0)))
      (.ite (.vr 14)
        .nil
        (.exit 0)
      (.blk 1
        (.draw
        (.chk (.bn (.ia 1) (.vr 0) (.vr 5))
        (.chk (.ld (.bn (.ia 1) (.vr 0) (.vr 5)))
        (.chk (.bn (.ia 1) (.vr 1) (.vr 5))
        (.chk (.ld (.bn (.ia 1) (.vr 1) (.vr 5)))
        (.chk (.bn (.cm .neq .i64) (.ld (.bn (.ia 1) (.vr 0) (.vr 5))) (.ld (.bn (.ia 1) (.vr 1) (.vr 5))))
        (.set 25 (.bn (.cm .neq .i64) (.ld (.bn (.ia 1) (.vr 0) (.vr 5))) (.ld (.bn (.ia 1) (.vr 1) (.vr 5))))
        (.ite (.vr 25)
          (.set 4 (.cn (.bool false))
          .ret)
          .nil
        .nil))))))))
      (.chk (.bn (.ar .add .i64) (.vr 5) (.cn (.int .i64 1)))
      (.set 5 (.bn (.ar .add .i64) (.vr 5) (.cn (.int .i64 1)))
      .nil))))))))
  (.set 4 (.cn (.bool true))
  .ret))))))))
def fc14 : Fc := ⟨26, s14, [(.vr 4)]⟩
theorem c14 : compF Try.prog 14 = some fc14 := by kernel_rfl

/-- kinora/parts.Sizes · parameters 3 · 0:order 1:n 2:warm 7:size 8:out -/
def s15 : S :=
  (.set 6 (.cn (.slice none 0 0))
  (.call (some 11) 42 [(.vr 1), (.vr 2)] []
  (.chk (.un .not (.vr 11))
  (.set 13 (.un .not (.vr 11))
  (.chk (.gd (.vr 13) false (.bn (.cm .lss .i64) (.vr 0) (.cn (.int .i64 0))))
  (.chk (.or (.vr 13) (.bn (.cm .lss .i64) (.vr 0) (.cn (.int .i64 0))))
  (.set 17 (.or (.vr 13) (.bn (.cm .lss .i64) (.vr 0) (.cn (.int .i64 0))))
  (.chk (.gd (.vr 17) false (.bn (.cm .gtr .i64) (.vr 0) (.cn (.int .i64 8))))
  (.chk (.or (.vr 17) (.bn (.cm .gtr .i64) (.vr 0) (.cn (.int .i64 8))))
  (.set 20 (.or (.vr 17) (.bn (.cm .gtr .i64) (.vr 0) (.cn (.int .i64 8))))
  (.ite (.vr 20)
    (.set 6 (.cn (.slice none 0 0))
    .ret)
    .nil
  (.chk (.bn (.sh false .i64) (.vr 1) (.vr 0))
  (.set 7 (.bn (.sh false .i64) (.vr 1) (.vr 0))
  (.chk (.bn (.sh true .i64) (.vr 7) (.vr 0))
  (.chk (.bn (.cm .neq .i64) (.bn (.sh true .i64) (.vr 7) (.vr 0)) (.vr 1))
  (.chk (.gd (.bn (.cm .neq .i64) (.bn (.sh true .i64) (.vr 7) (.vr 0)) (.vr 1)) false (.bn (.cm .lss .i64) (.vr 7) (.vr 2)))
  (.set 33 (.or (.bn (.cm .neq .i64) (.bn (.sh true .i64) (.vr 7) (.vr 0)) (.vr 1)) (.bn (.cm .lss .i64) (.vr 7) (.vr 2)))
  (.ite (.vr 33)
    (.set 6 (.cn (.slice none 0 0))
    .ret)
    .nil
  (.chk (.bn (.ar .sub .i64) (.vr 7) (.vr 2))
  (.op (some 37) (.buildSlice 22 1 #[(0, (.tmp 36))]) 22 [(36, (.bn (.ar .sub .i64) (.vr 7) (.vr 2)))] []
  (.set 8 (.vr 37)
  (.blk 0
    (.loop
      (.chk (.un .ln (.vr 8))
      (.chk (.bn (.sh true .i64) (.cn (.int .i64 1)) (.vr 0))
      (.set 42 (.bn (.cm .lss .i64) (.un .ln (.vr 8)) (.bn (.sh true .i64) (.cn (.int .i64 1)) (.vr 0)))
      (.ite (.vr 42)
        .nil
        (.exit 0)
      (.blk 1
        (.op (some 45) (.buildSlice 22 1 #[(0, (.tmp 44))]) 22 [(44, (.vr 7))] []
        (.op (some 46) (.call ⟨(.builtin .append), #[(.tmp 43), (.tmp 45)], #[22, 22]⟩) 22 [(43, (.vr 8)), (45, (.vr 45))] []
        (.set 8 (.vr 46)
        .nil)))
      .nil))))))
  (.set 6 (.vr 8)
  .ret)))))))))))))))))))))))
def fc15 : Fc := ⟨48, s15, [(.vr 6)]⟩
theorem c15 : compF Try.prog 15 = some fc15 := by kernel_rfl

/-- kinora/kinoraref8.PartsSizes · parameters 3 · 0:order 1:n 2:warm 7:out 8:i -/
def s16 : S :=
  (.set 6 (.cn (.slice none 0 0))
  (.call (some 11) 43 [(.vr 1), (.vr 2)] []
  (.chk (.un .not (.vr 11))
  (.set 13 (.un .not (.vr 11))
  (.chk (.gd (.vr 13) false (.bn (.cm .lss .i64) (.vr 0) (.cn (.int .i64 0))))
  (.chk (.or (.vr 13) (.bn (.cm .lss .i64) (.vr 0) (.cn (.int .i64 0))))
  (.set 17 (.or (.vr 13) (.bn (.cm .lss .i64) (.vr 0) (.cn (.int .i64 0))))
  (.chk (.gd (.vr 17) false (.bn (.cm .gtr .i64) (.vr 0) (.cn (.int .i64 8))))
  (.chk (.or (.vr 17) (.bn (.cm .gtr .i64) (.vr 0) (.cn (.int .i64 8))))
  (.set 21 (.or (.vr 17) (.bn (.cm .gtr .i64) (.vr 0) (.cn (.int .i64 8))))
  (.chk (.gd (.vr 21) false (.un (.cv .u64) (.vr 0)))
  (.chk (.gd (.vr 21) false (.bn (.sh true .i64) (.cn (.int .i64 1)) (.un (.cv .u64) (.vr 0))))
  (.chk (.gd (.vr 21) false (.bn (.dv true .i64) (.vr 1) (.bn (.sh true .i64) (.cn (.int .i64 1)) (.un (.cv .u64) (.vr 0)))))
  (.chk (.or (.vr 21) (.bn (.cm .neq .i64) (.bn (.dv true .i64) (.vr 1) (.bn (.sh true .i64) (.cn (.int .i64 1)) (.un (.cv .u64) (.vr 0)))) (.cn (.int .i64 0))))
  (.set 29 (.or (.vr 21) (.bn (.cm .neq .i64) (.bn (.dv true .i64) (.vr 1) (.bn (.sh true .i64) (.cn (.int .i64 1)) (.un (.cv .u64) (.vr 0)))) (.cn (.int .i64 0))))
  (.chk (.gd (.vr 29) false (.un (.cv .u64) (.vr 0)))
  (.chk (.gd (.vr 29) false (.bn (.sh false .i64) (.vr 1) (.un (.cv .u64) (.vr 0))))
  (.chk (.gd (.vr 29) false (.bn (.cm .lss .i64) (.bn (.sh false .i64) (.vr 1) (.un (.cv .u64) (.vr 0))) (.vr 2)))
  (.chk (.or (.vr 29) (.bn (.cm .lss .i64) (.bn (.sh false .i64) (.vr 1) (.un (.cv .u64) (.vr 0))) (.vr 2)))
  (.set 36 (.or (.vr 29) (.bn (.cm .lss .i64) (.bn (.sh false .i64) (.vr 1) (.un (.cv .u64) (.vr 0))) (.vr 2)))
  (.ite (.vr 36)
    (.set 6 (.cn (.slice none 0 0))
    .ret)
    .nil
  (.set 7 (.cn (.slice none 0 0))
  (.set 8 (.cn (.int .i64 0))
  (.blk 0
    (.loop
      (.chk (.un (.cv .u64) (.vr 0))
      (.chk (.bn (.sh true .i64) (.cn (.int .i64 1)) (.un (.cv .u64) (.vr 0)))
      (.chk (.bn (.cm .lss .i64) (.vr 8) (.bn (.sh true .i64) (.cn (.int .i64 1)) (.un (.cv .u64) (.vr 0))))
      (.set 41 (.bn (.cm .lss .i64) (.vr 8) (.bn (.sh true .i64) (.cn (.int .i64 1)) (.un (.cv .u64) (.vr 0))))
      (.ite (.vr 41)
        .nil
        (.exit 0)
      (.blk 1
        (.chk (.un (.cv .u64) (.vr 0))
        (.chk (.bn (.sh false .i64) (.vr 1) (.un (.cv .u64) (.vr 0)))
        (.op (some 49) (.buildSlice 22 1 #[(0, (.tmp 48))]) 22 [(48, (.bn (.sh false .i64) (.vr 1) (.un (.cv .u64) (.vr 0))))] []
        (.op (some 50) (.call ⟨(.builtin .append), #[(.tmp 44), (.tmp 49)], #[22, 22]⟩) 22 [(44, (.vr 7)), (49, (.vr 49))] []
        (.set 7 (.vr 50)
        .nil)))))
      (.chk (.bn (.ar .add .i64) (.vr 8) (.cn (.int .i64 1)))
      (.set 8 (.bn (.ar .add .i64) (.vr 8) (.cn (.int .i64 1)))
      .nil)))))))))
  (.chk (.bn (.ia 1) (.vr 7) (.cn (.int .i64 0)))
  (.chk (.ld (.bn (.ia 1) (.vr 7) (.cn (.int .i64 0))))
  (.set 54 (.ld (.bn (.ia 1) (.vr 7) (.cn (.int .i64 0))))
  (.chk (.bn (.ar .sub .i64) (.vr 54) (.vr 2))
  (.chk (.bn (.ia 1) (.vr 7) (.cn (.int .i64 0)))
  (.st 1 (.bn (.ia 1) (.vr 7) (.cn (.int .i64 0))) (.bn (.ar .sub .i64) (.vr 54) (.vr 2)) []
  (.set 6 (.vr 7)
  .ret)))))))))))))))))))))))))))))))
def fc16 : Fc := ⟨59, s16, [(.vr 6)]⟩
theorem c16 : compF Try.prog 16 = some fc16 := by kernel_rfl

/-- kinora/parts.May · parameters 3 · 0:p 1:n 2:warm 3:p 7:sizes 9:k -/
def s17 : S :=
  (.op (some 3) (.box 24 (.tmp 0)) 0 [(0, (.vr 0))] []
  (.set 6 (.cn (.bool false))
  (.chk (.un (.fa 0) (.vr 3))
  (.chk (.ld (.un (.fa 0) (.vr 3)))
  (.set 11 (.ld (.un (.fa 0) (.vr 3)))
  (.call (some 14) 15 [(.vr 11), (.vr 1), (.vr 2)] []
  (.set 7 (.vr 14)
  (.chk (.un .ln (.vr 7))
  (.chk (.gd (.bn (.cm .eql .i64) (.un .ln (.vr 7)) (.cn (.int .i64 0))) false (.un (.fa 1) (.vr 3)))
  (.chk (.gd (.bn (.cm .eql .i64) (.un .ln (.vr 7)) (.cn (.int .i64 0))) false (.ld (.un (.fa 1) (.vr 3))))
  (.chk (.gd (.bn (.cm .eql .i64) (.un .ln (.vr 7)) (.cn (.int .i64 0))) false (.un .ln (.ld (.un (.fa 1) (.vr 3)))))
  (.chk (.gd (.bn (.cm .eql .i64) (.un .ln (.vr 7)) (.cn (.int .i64 0))) false (.un .ln (.vr 7)))
  (.set 25 (.or (.bn (.cm .eql .i64) (.un .ln (.vr 7)) (.cn (.int .i64 0))) (.bn (.cm .neq .i64) (.un .ln (.ld (.un (.fa 1) (.vr 3)))) (.un .ln (.vr 7))))
  (.ite (.vr 25)
    (.set 6 (.cn (.bool false))
    .ret)
    .nil
  (.chk (.un (.fa 1) (.vr 3))
  (.chk (.ld (.un (.fa 1) (.vr 3)))
  (.set 27 (.ld (.un (.fa 1) (.vr 3)))
  (.chk (.un .ln (.vr 27))
  (.set 28 (.un .ln (.vr 27))
  (.set 29 (.cn (.int .i64 0))
  (.blk 0
    (.loop
      (.chk (.bn (.cm .lss .i64) (.vr 29) (.vr 28))
      (.set 30 (.bn (.cm .lss .i64) (.vr 29) (.vr 28))
      (.ite (.vr 30)
        .nil
        (.exit 0)
      (.blk 1
        (.chk (.bn (.ia 1) (.vr 27) (.vr 29))
        (.chk (.ld (.bn (.ia 1) (.vr 27) (.vr 29)))
        (.set 9 (.ld (.bn (.ia 1) (.vr 27) (.vr 29)))
        (.chk (.bn (.cm .lss .i64) (.vr 9) (.cn (.int .i64 0)))
        (.chk (.gd (.bn (.cm .lss .i64) (.vr 9) (.cn (.int .i64 0))) false (.bn (.cm .gtr .i64) (.vr 9) (.cn (.int .i64 25))))
        (.chk (.gd (.or (.bn (.cm .lss .i64) (.vr 9) (.cn (.int .i64 0))) (.bn (.cm .gtr .i64) (.vr 9) (.cn (.int .i64 25)))) true (.bn (.cm .neq .i64) (.vr 9) (.cn (.int .i64 31))))
        (.set 42 (.and (.or (.bn (.cm .lss .i64) (.vr 9) (.cn (.int .i64 0))) (.bn (.cm .gtr .i64) (.vr 9) (.cn (.int .i64 25)))) (.bn (.cm .neq .i64) (.vr 9) (.cn (.int .i64 31))))
        (.ite (.vr 42)
          (.set 6 (.cn (.bool false))
          .ret)
          .nil
        .nil))))))))
      (.chk (.bn (.ar .add .i64) (.vr 29) (.cn (.int .i64 1)))
      (.set 29 (.bn (.ar .add .i64) (.vr 29) (.cn (.int .i64 1)))
      .nil)))))))
  (.set 6 (.cn (.bool true))
  .ret))))))))))))))))))))))
def fc17 : Fc := ⟨44, s17, [(.vr 6)]⟩
theorem c17 : compF Try.prog 17 = some fc17 := by kernel_rfl

/-- kinora/kinoraref8.PartsMay · parameters 3 · 0:p 1:n 2:warm 3:p 7:l 8:i -/
def s18 : S :=
  (.op (some 3) (.box 24 (.tmp 0)) 0 [(0, (.vr 0))] []
  (.set 6 (.cn (.bool false))
  (.chk (.un (.fa 0) (.vr 3))
  (.chk (.ld (.un (.fa 0) (.vr 3)))
  (.set 10 (.ld (.un (.fa 0) (.vr 3)))
  (.call (some 13) 16 [(.vr 10), (.vr 1), (.vr 2)] []
  (.set 7 (.vr 13)
  (.chk (.un .ln (.vr 7))
  (.chk (.gd (.bn (.cm .eql .i64) (.un .ln (.vr 7)) (.cn (.int .i64 0))) false (.un .ln (.vr 7)))
  (.chk (.gd (.bn (.cm .eql .i64) (.un .ln (.vr 7)) (.cn (.int .i64 0))) false (.un (.fa 1) (.vr 3)))
  (.chk (.gd (.bn (.cm .eql .i64) (.un .ln (.vr 7)) (.cn (.int .i64 0))) false (.ld (.un (.fa 1) (.vr 3))))
  (.chk (.gd (.bn (.cm .eql .i64) (.un .ln (.vr 7)) (.cn (.int .i64 0))) false (.un .ln (.ld (.un (.fa 1) (.vr 3)))))
  (.set 24 (.or (.bn (.cm .eql .i64) (.un .ln (.vr 7)) (.cn (.int .i64 0))) (.bn (.cm .neq .i64) (.un .ln (.vr 7)) (.un .ln (.ld (.un (.fa 1) (.vr 3))))))
  (.ite (.vr 24)
    (.set 6 (.cn (.bool false))
    .ret)
    .nil
  (.set 8 (.cn (.int .i64 0))
  (.blk 0
    (.loop
      (.chk (.un (.fa 1) (.vr 3))
      (.chk (.ld (.un (.fa 1) (.vr 3)))
      (.chk (.un .ln (.ld (.un (.fa 1) (.vr 3))))
      (.chk (.bn (.cm .lss .i64) (.vr 8) (.un .ln (.ld (.un (.fa 1) (.vr 3)))))
      (.set 29 (.bn (.cm .lss .i64) (.vr 8) (.un .ln (.ld (.un (.fa 1) (.vr 3)))))
      (.ite (.vr 29)
        .nil
        (.exit 0)
      (.blk 1
        (.chk (.un (.fa 1) (.vr 3))
        (.chk (.ld (.un (.fa 1) (.vr 3)))
        (.set 33 (.ld (.un (.fa 1) (.vr 3)))
        (.chk (.bn (.ia 1) (.vr 33) (.vr 8))
        (.chk (.ld (.bn (.ia 1) (.vr 33) (.vr 8)))
        (.set 36 (.ld (.bn (.ia 1) (.vr 33) (.vr 8)))
        (.call (some 37) 44 [(.vr 36)] []
        (.chk (.un .not (.vr 37))
        (.set 39 (.un .not (.vr 37))
        (.chk (.gd (.vr 39) true (.un (.fa 1) (.vr 3)))
        (.chk (.gd (.vr 39) true (.ld (.un (.fa 1) (.vr 3))))
        (.set 41 (.gd (.vr 39) true (.ld (.un (.fa 1) (.vr 3))))
        (.chk (.gd (.vr 39) true (.bn (.ia 1) (.vr 41) (.vr 8)))
        (.chk (.gd (.vr 39) true (.ld (.bn (.ia 1) (.vr 41) (.vr 8))))
        (.set 44 (.gd (.vr 39) true (.ld (.bn (.ia 1) (.vr 41) (.vr 8))))
        (.chk (.gd (.vr 39) true (.bn (.cm .neq .i64) (.vr 44) (.cn (.int .i64 31))))
        (.chk (.and (.vr 39) (.bn (.cm .neq .i64) (.vr 44) (.cn (.int .i64 31))))
        (.set 46 (.and (.vr 39) (.bn (.cm .neq .i64) (.vr 44) (.cn (.int .i64 31))))
        (.ite (.vr 46)
          (.set 6 (.cn (.bool false))
          .ret)
          .nil
        .nil)))))))))))))))))))
      (.chk (.bn (.ar .add .i64) (.vr 8) (.cn (.int .i64 1)))
      (.set 8 (.bn (.ar .add .i64) (.vr 8) (.cn (.int .i64 1)))
      .nil))))))))))
  (.set 6 (.cn (.bool true))
  .ret)))))))))))))))))
def fc18 : Fc := ⟨47, s18, [(.vr 6)]⟩
theorem c18 : compF Try.prog 18 = some fc18 := by kernel_rfl

/-- kinora/parts.Cost · parameters 4 · 0:p 1:n 2:warm 3:l 4:p 9:cost 10:i 11:size 12:part -/
def s19 : S :=
  (.op (some 4) (.box 24 (.tmp 0)) 0 [(0, (.vr 0))] []
  (.set 8 (.cn (.int .i64 0))
  (.chk (.ldn 2 (.vr 4))
  (.set 13 (.ldn 2 (.vr 4))
  (.call (some 16) 17 [(.vr 13), (.vr 1), (.vr 2)] []
  (.chk (.un .not (.vr 16))
  (.set 18 (.un .not (.vr 16))
  (.ifg (.vr 18) false
    (.call (some 22) 45 [(.vr 1), (.vr 2), (.vr 3)] []
    .nil)
    (.set 22 (.cn undef)
    .nil)
  (.chk (.gd (.vr 18) false (.un .not (.vr 22)))
  (.chk (.or (.vr 18) (.un .not (.vr 22)))
  (.set 24 (.or (.vr 18) (.un .not (.vr 22)))
  (.ite (.vr 24)
    (.set 8 (.cn (.int .i64 0))
    .ret)
    .nil
  (.set 9 (.cn (.int .i64 4))
  (.chk (.un (.fa 0) (.vr 4))
  (.chk (.ld (.un (.fa 0) (.vr 4)))
  (.set 26 (.ld (.un (.fa 0) (.vr 4)))
  (.call (some 29) 15 [(.vr 26), (.vr 1), (.vr 2)] []
  (.chk (.un .ln (.vr 29))
  (.set 30 (.un .ln (.vr 29))
  (.set 31 (.cn (.int .i64 0))
  (.blk 0
    (.loop
      (.chk (.bn (.cm .lss .i64) (.vr 31) (.vr 30))
      (.set 32 (.bn (.cm .lss .i64) (.vr 31) (.vr 30))
      (.ite (.vr 32)
        .nil
        (.exit 0)
      (.blk 1
        (.chk (.bn (.ia 1) (.vr 29) (.vr 31))
        (.chk (.ld (.bn (.ia 1) (.vr 29) (.vr 31)))
        (.set 10 (.vr 31)
        (.set 11 (.ld (.bn (.ia 1) (.vr 29) (.vr 31)))
        (.chk (.sl 1 true (.vr 3) (.cn (.int .i64 0)) (.vr 11))
        (.set 12 (.sl 1 true (.vr 3) (.cn (.int .i64 0)) (.vr 11))
        (.chk (.sl 1 false (.vr 3) (.vr 11) (.cn undef))
        (.set 3 (.sl 1 false (.vr 3) (.vr 11) (.cn undef))
        (.chk (.un (.fa 1) (.vr 4))
        (.chk (.ld (.un (.fa 1) (.vr 4)))
        (.chk (.bn (.ia 1) (.ld (.un (.fa 1) (.vr 4))) (.vr 10))
        (.chk (.ld (.bn (.ia 1) (.ld (.un (.fa 1) (.vr 4))) (.vr 10)))
        (.chk (.bn (.cm .eql .i64) (.ld (.bn (.ia 1) (.ld (.un (.fa 1) (.vr 4))) (.vr 10))) (.cn (.int .i64 31)))
        (.set 47 (.bn (.cm .eql .i64) (.ld (.bn (.ia 1) (.ld (.un (.fa 1) (.vr 4))) (.vr 10))) (.cn (.int .i64 31)))
        (.ite (.vr 47)
          (.call (some 50) 46 [(.vr 12)] []
          (.chk (.bn (.ar .add .i64) (.cn (.int .i64 5)) (.vr 50))
          (.chk (.bn (.ar .add .i64) (.vr 9) (.bn (.ar .add .i64) (.cn (.int .i64 5)) (.vr 50)))
          (.set 9 (.bn (.ar .add .i64) (.vr 9) (.bn (.ar .add .i64) (.cn (.int .i64 5)) (.vr 50)))
          .nil))))
          (.chk (.un (.fa 1) (.vr 4))
          (.chk (.ld (.un (.fa 1) (.vr 4)))
          (.set 55 (.ld (.un (.fa 1) (.vr 4)))
          (.chk (.bn (.ia 1) (.vr 55) (.vr 10))
          (.chk (.ld (.bn (.ia 1) (.vr 55) (.vr 10)))
          (.set 58 (.ld (.bn (.ia 1) (.vr 55) (.vr 10)))
          (.call (some 60) 29 [(.vr 58), (.vr 12)] []
          (.chk (.bn (.ar .add .i64) (.cn (.int .i64 5)) (.vr 60))
          (.chk (.bn (.ar .add .i64) (.vr 9) (.bn (.ar .add .i64) (.cn (.int .i64 5)) (.vr 60)))
          (.set 9 (.bn (.ar .add .i64) (.vr 9) (.bn (.ar .add .i64) (.cn (.int .i64 5)) (.vr 60)))
          .nil))))))))))
        .nil)))))))))))))))
      (.chk (.bn (.ar .add .i64) (.vr 31) (.cn (.int .i64 1)))
      (.set 31 (.bn (.ar .add .i64) (.vr 31) (.cn (.int .i64 1)))
      .nil)))))))
  (.set 8 (.vr 9)
  .ret))))))))))))))))))))))
def fc19 : Fc := ⟨65, s19, [(.vr 8)]⟩
theorem c19 : compF Try.prog 19 = some fc19 := by kernel_rfl

/-- kinora/kinoraref8.PartsCost · parameters 4 · 0:p 1:n 2:warm 3:l 4:p 9:out 10:at 11:s 12:i -/
def s20 : S :=
  (.op (some 4) (.box 24 (.tmp 0)) 0 [(0, (.vr 0))] []
  (.set 8 (.cn (.int .i64 0))
  (.chk (.ldn 2 (.vr 4))
  (.set 13 (.ldn 2 (.vr 4))
  (.call (some 16) 18 [(.vr 13), (.vr 1), (.vr 2)] []
  (.chk (.un .not (.vr 16))
  (.set 18 (.un .not (.vr 16))
  (.chk (.gd (.vr 18) false (.un .ln (.vr 3)))
  (.chk (.gd (.vr 18) false (.bn (.ar .sub .i64) (.vr 1) (.vr 2)))
  (.chk (.or (.vr 18) (.bn (.cm .neq .i64) (.un .ln (.vr 3)) (.bn (.ar .sub .i64) (.vr 1) (.vr 2))))
  (.set 26 (.or (.vr 18) (.bn (.cm .neq .i64) (.un .ln (.vr 3)) (.bn (.ar .sub .i64) (.vr 1) (.vr 2))))
  (.ifg (.vr 26) false
    (.call (some 28) 28 [(.vr 3)] []
    .nil)
    (.set 28 (.cn undef)
    .nil)
  (.chk (.gd (.vr 26) false (.un .not (.vr 28)))
  (.chk (.or (.vr 26) (.un .not (.vr 28)))
  (.set 30 (.or (.vr 26) (.un .not (.vr 28)))
  (.ite (.vr 30)
    (.set 8 (.cn (.int .i64 0))
    .ret)
    .nil
  (.set 9 (.cn (.int .i64 4))
  (.set 10 (.cn (.int .i64 0))
  (.chk (.un (.fa 0) (.vr 4))
  (.chk (.ld (.un (.fa 0) (.vr 4)))
  (.set 32 (.ld (.un (.fa 0) (.vr 4)))
  (.call (some 35) 16 [(.vr 32), (.vr 1), (.vr 2)] []
  (.set 11 (.vr 35)
  (.set 12 (.cn (.int .i64 0))
  (.blk 0
    (.loop
      (.chk (.un .ln (.vr 11))
      (.chk (.bn (.cm .lss .i64) (.vr 12) (.un .ln (.vr 11)))
      (.set 39 (.bn (.cm .lss .i64) (.vr 12) (.un .ln (.vr 11)))
      (.ite (.vr 39)
        .nil
        (.exit 0)
      (.blk 1
        (.draw
        (.chk (.bn (.ar .add .i64) (.vr 9) (.cn (.int .i64 5)))
        (.chk (.un (.fa 1) (.vr 4))
        (.chk (.ld (.un (.fa 1) (.vr 4)))
        (.set 45 (.ld (.un (.fa 1) (.vr 4)))
        (.chk (.bn (.ia 1) (.vr 45) (.vr 12))
        (.chk (.ld (.bn (.ia 1) (.vr 45) (.vr 12)))
        (.set 48 (.ld (.bn (.ia 1) (.vr 45) (.vr 12)))
        (.chk (.bn (.ia 1) (.vr 11) (.vr 12))
        (.chk (.ld (.bn (.ia 1) (.vr 11) (.vr 12)))
        (.set 55 (.ld (.bn (.ia 1) (.vr 11) (.vr 12)))
        (.chk (.bn (.ar .add .i64) (.vr 10) (.vr 55))
        (.chk (.sl 1 true (.vr 3) (.vr 10) (.bn (.ar .add .i64) (.vr 10) (.vr 55)))
        (.call (some 58) 47 [(.vr 48), (.sl 1 true (.vr 3) (.vr 10) (.bn (.ar .add .i64) (.vr 10) (.vr 55)))] []
        (.chk (.bn (.ar .add .i64) (.bn (.ar .add .i64) (.vr 9) (.cn (.int .i64 5))) (.vr 58))
        (.set 9 (.bn (.ar .add .i64) (.bn (.ar .add .i64) (.vr 9) (.cn (.int .i64 5))) (.vr 58))
        (.chk (.bn (.ia 1) (.vr 11) (.vr 12))
        (.chk (.ld (.bn (.ia 1) (.vr 11) (.vr 12)))
        (.chk (.bn (.ar .add .i64) (.vr 10) (.ld (.bn (.ia 1) (.vr 11) (.vr 12))))
        (.set 10 (.bn (.ar .add .i64) (.vr 10) (.ld (.bn (.ia 1) (.vr 11) (.vr 12))))
        .nil))))))))))))))))))))
      (.chk (.bn (.ar .add .i64) (.vr 12) (.cn (.int .i64 1)))
      (.set 12 (.bn (.ar .add .i64) (.vr 12) (.cn (.int .i64 1)))
      .nil))))))))
  (.set 8 (.vr 9)
  .ret))))))))))))))))))))))))))
def fc20 : Fc := ⟨67, s20, [(.vr 8)]⟩
theorem c20 : compF Try.prog 20 = some fc20 := by kernel_rfl

/-- kinora/parts.Put · parameters 5 · 0:w 1:p 2:n 3:warm 4:l 6:p 11:i 12:size 13:part 14:width 16:x -/
def s21 : S :=
  (.op (some 6) (.box 24 (.tmp 1)) 0 [(1, (.vr 1))] []
  (.set 10 (.cn (.int .i64 0))
  (.chk (.ldn 2 (.vr 6))
  (.set 17 (.ldn 2 (.vr 6))
  (.call (some 21) 19 [(.vr 17), (.vr 2), (.vr 3), (.vr 4)] []
  (.chk (.bn (.cm .eql .i64) (.vr 21) (.cn (.int .i64 0)))
  (.set 22 (.bn (.cm .eql .i64) (.vr 21) (.cn (.int .i64 0)))
  (.ite (.vr 22)
    (.set 10 (.cn (.int .i64 1))
    .ret)
    .nil
  (.chk (.un (.fa 0) (.vr 6))
  (.chk (.ld (.un (.fa 0) (.vr 6)))
  (.set 25 (.ld (.un (.fa 0) (.vr 6)))
  (.chk (.un (.cv .u64) (.vr 25))
  (.call (some 27) 38 [(.vr 0), (.un (.cv .u64) (.vr 25)), (.cn (.int .i64 4))] []
  (.chk (.un (.fa 0) (.vr 6))
  (.chk (.ld (.un (.fa 0) (.vr 6)))
  (.set 29 (.ld (.un (.fa 0) (.vr 6)))
  (.call (some 32) 15 [(.vr 29), (.vr 2), (.vr 3)] []
  (.chk (.un .ln (.vr 32))
  (.set 33 (.un .ln (.vr 32))
  (.set 34 (.cn (.int .i64 0))
  (.blk 0
    (.loop
      (.chk (.bn (.cm .lss .i64) (.vr 34) (.vr 33))
      (.set 35 (.bn (.cm .lss .i64) (.vr 34) (.vr 33))
      (.ite (.vr 35)
        .nil
        (.exit 0)
      (.blk 1
        (.chk (.bn (.ia 1) (.vr 32) (.vr 34))
        (.chk (.ld (.bn (.ia 1) (.vr 32) (.vr 34)))
        (.set 11 (.vr 34)
        (.set 12 (.ld (.bn (.ia 1) (.vr 32) (.vr 34)))
        (.chk (.sl 1 true (.vr 4) (.cn (.int .i64 0)) (.vr 12))
        (.set 13 (.sl 1 true (.vr 4) (.cn (.int .i64 0)) (.vr 12))
        (.chk (.sl 1 false (.vr 4) (.vr 12) (.cn undef))
        (.set 4 (.sl 1 false (.vr 4) (.vr 12) (.cn undef))
        (.chk (.un (.fa 1) (.vr 6))
        (.chk (.ld (.un (.fa 1) (.vr 6)))
        (.set 47 (.ld (.un (.fa 1) (.vr 6)))
        (.chk (.bn (.ia 1) (.vr 47) (.vr 11))
        (.chk (.ld (.bn (.ia 1) (.vr 47) (.vr 11)))
        (.set 50 (.ld (.bn (.ia 1) (.vr 47) (.vr 11)))
        (.chk (.un (.cv .u64) (.vr 50))
        (.call (some 52) 38 [(.vr 0), (.un (.cv .u64) (.vr 50)), (.cn (.int .i64 5))] []
        (.chk (.un (.fa 1) (.vr 6))
        (.chk (.ld (.un (.fa 1) (.vr 6)))
        (.chk (.bn (.ia 1) (.ld (.un (.fa 1) (.vr 6))) (.vr 11))
        (.chk (.ld (.bn (.ia 1) (.ld (.un (.fa 1) (.vr 6))) (.vr 11)))
        (.chk (.bn (.cm .neq .i64) (.ld (.bn (.ia 1) (.ld (.un (.fa 1) (.vr 6))) (.vr 11))) (.cn (.int .i64 31)))
        (.set 58 (.bn (.cm .neq .i64) (.ld (.bn (.ia 1) (.ld (.un (.fa 1) (.vr 6))) (.vr 11))) (.cn (.int .i64 31)))
        (.ite (.vr 58)
          (.chk (.un (.fa 1) (.vr 6))
          (.chk (.ld (.un (.fa 1) (.vr 6)))
          (.set 61 (.ld (.un (.fa 1) (.vr 6)))
          (.chk (.bn (.ia 1) (.vr 61) (.vr 11))
          (.chk (.ld (.bn (.ia 1) (.vr 61) (.vr 11)))
          (.set 64 (.ld (.bn (.ia 1) (.vr 61) (.vr 11)))
          (.call (some 66) 48 [(.vr 0), (.vr 64), (.vr 13)] []
          (.exit 1))))))))
          .nil
        (.call (some 68) 49 [(.vr 13)] []
        (.set 14 (.vr 68)
        (.chk (.un (.cv .u64) (.vr 14))
        (.call (some 72) 38 [(.vr 0), (.un (.cv .u64) (.vr 14)), (.cn (.int .i64 5))] []
        (.set 73 (.vr 13)
        (.chk (.un .ln (.vr 73))
        (.set 74 (.un .ln (.vr 73))
        (.set 75 (.cn (.int .i64 0))
        (.blk 2
          (.loop
            (.chk (.bn (.cm .lss .i64) (.vr 75) (.vr 74))
            (.set 76 (.bn (.cm .lss .i64) (.vr 75) (.vr 74))
            (.ite (.vr 76)
              .nil
              (.exit 2)
            (.blk 3
              (.chk (.bn (.ia 1) (.vr 73) (.vr 75))
              (.chk (.ld (.bn (.ia 1) (.vr 73) (.vr 75)))
              (.set 16 (.ld (.bn (.ia 1) (.vr 73) (.vr 75)))
              (.chk (.un (.cv .u64) (.vr 16))
              (.chk (.bn (.sh true .u64) (.cn (.int .u64 1)) (.vr 14))
              (.call (some 87) 38 [(.vr 0), (.bn (.bt .and .u64) (.un (.cv .u64) (.vr 16)) (.bn (.ar .sub .u64) (.bn (.sh true .u64) (.cn (.int .u64 1)) (.vr 14)) (.cn (.int .u64 1)))), (.vr 14)] []
              .nil))))))
            (.chk (.bn (.ar .add .i64) (.vr 75) (.cn (.int .i64 1)))
            (.set 75 (.bn (.ar .add .i64) (.vr 75) (.cn (.int .i64 1)))
            .nil)))))))
        .nil))))))))))))))))))))))))))))))))
      (.chk (.bn (.ar .add .i64) (.vr 34) (.cn (.int .i64 1)))
      (.set 34 (.bn (.ar .add .i64) (.vr 34) (.cn (.int .i64 1)))
      .nil)))))))
  (.set 10 (.cn (.int .i64 0))
  .ret))))))))))))))))))))))
def fc21 : Fc := ⟨90, s21, [(.vr 10)]⟩
theorem c21 : compF Try.prog 21 = some fc21 := by kernel_rfl

/-- kinora/kinoraref8.PartsPut · parameters 5 · 0:w 1:p 2:n 3:warm 4:l 6:p 11:s 12:at 13:i 14:part 15:b -/
def s22 : S :=
  (.op (some 6) (.box 24 (.tmp 1)) 0 [(1, (.vr 1))] []
  (.set 10 (.cn (.int .i64 0))
  (.chk (.ldn 2 (.vr 6))
  (.set 16 (.ldn 2 (.vr 6))
  (.call (some 20) 20 [(.vr 16), (.vr 2), (.vr 3), (.vr 4)] []
  (.chk (.bn (.cm .eql .i64) (.vr 20) (.cn (.int .i64 0)))
  (.set 21 (.bn (.cm .eql .i64) (.vr 20) (.cn (.int .i64 0)))
  (.ite (.vr 21)
    (.set 10 (.cn (.int .i64 1))
    .ret)
    .nil
  (.chk (.un (.fa 0) (.vr 6))
  (.chk (.ld (.un (.fa 0) (.vr 6)))
  (.set 24 (.ld (.un (.fa 0) (.vr 6)))
  (.chk (.un (.cv .u64) (.vr 24))
  (.call (some 26) 50 [(.vr 0), (.un (.cv .u64) (.vr 24)), (.cn (.int .i64 4))] []
  (.chk (.un (.fa 0) (.vr 6))
  (.chk (.ld (.un (.fa 0) (.vr 6)))
  (.set 28 (.ld (.un (.fa 0) (.vr 6)))
  (.call (some 31) 16 [(.vr 28), (.vr 2), (.vr 3)] []
  (.set 11 (.vr 31)
  (.set 12 (.cn (.int .i64 0))
  (.set 13 (.cn (.int .i64 0))
  (.blk 0
    (.loop
      (.chk (.un .ln (.vr 11))
      (.chk (.bn (.cm .lss .i64) (.vr 13) (.un .ln (.vr 11)))
      (.set 35 (.bn (.cm .lss .i64) (.vr 13) (.un .ln (.vr 11)))
      (.ite (.vr 35)
        .nil
        (.exit 0)
      (.blk 1
        (.chk (.bn (.ia 1) (.vr 11) (.vr 13))
        (.chk (.ld (.bn (.ia 1) (.vr 11) (.vr 13)))
        (.chk (.bn (.ar .add .i64) (.vr 12) (.ld (.bn (.ia 1) (.vr 11) (.vr 13))))
        (.chk (.sl 1 true (.vr 4) (.vr 12) (.bn (.ar .add .i64) (.vr 12) (.ld (.bn (.ia 1) (.vr 11) (.vr 13)))))
        (.set 14 (.sl 1 true (.vr 4) (.vr 12) (.bn (.ar .add .i64) (.vr 12) (.ld (.bn (.ia 1) (.vr 11) (.vr 13)))))
        (.chk (.un (.fa 1) (.vr 6))
        (.chk (.ld (.un (.fa 1) (.vr 6)))
        (.set 49 (.ld (.un (.fa 1) (.vr 6)))
        (.chk (.bn (.ia 1) (.vr 49) (.vr 13))
        (.chk (.ld (.bn (.ia 1) (.vr 49) (.vr 13)))
        (.set 52 (.ld (.bn (.ia 1) (.vr 49) (.vr 13)))
        (.chk (.un (.cv .u64) (.vr 52))
        (.call (some 54) 50 [(.vr 0), (.un (.cv .u64) (.vr 52)), (.cn (.int .i64 5))] []
        (.chk (.un (.fa 1) (.vr 6))
        (.chk (.ld (.un (.fa 1) (.vr 6)))
        (.chk (.bn (.ia 1) (.ld (.un (.fa 1) (.vr 6))) (.vr 13))
        (.chk (.ld (.bn (.ia 1) (.ld (.un (.fa 1) (.vr 6))) (.vr 13)))
        (.chk (.bn (.cm .eql .i64) (.ld (.bn (.ia 1) (.ld (.un (.fa 1) (.vr 6))) (.vr 13))) (.cn (.int .i64 31)))
        (.set 60 (.bn (.cm .eql .i64) (.ld (.bn (.ia 1) (.ld (.un (.fa 1) (.vr 6))) (.vr 13))) (.cn (.int .i64 31)))
        (.ite (.vr 60)
          (.call (some 62) 41 [(.vr 14)] []
          (.set 15 (.vr 62)
          (.chk (.un (.cv .u64) (.vr 15))
          (.call (some 66) 50 [(.vr 0), (.un (.cv .u64) (.vr 15)), (.cn (.int .i64 5))] []
          (.call (some 70) 51 [(.vr 0), (.vr 14), (.vr 15)] []
          .nil)))))
          (.chk (.un (.fa 1) (.vr 6))
          (.chk (.ld (.un (.fa 1) (.vr 6)))
          (.set 73 (.ld (.un (.fa 1) (.vr 6)))
          (.chk (.bn (.ia 1) (.vr 73) (.vr 13))
          (.chk (.ld (.bn (.ia 1) (.vr 73) (.vr 13)))
          (.set 76 (.ld (.bn (.ia 1) (.vr 73) (.vr 13)))
          (.call (some 78) 52 [(.vr 0), (.vr 76), (.vr 14)] []
          .nil)))))))
        (.chk (.bn (.ia 1) (.vr 11) (.vr 13))
        (.chk (.ld (.bn (.ia 1) (.vr 11) (.vr 13)))
        (.chk (.bn (.ar .add .i64) (.vr 12) (.ld (.bn (.ia 1) (.vr 11) (.vr 13))))
        (.set 12 (.bn (.ar .add .i64) (.vr 12) (.ld (.bn (.ia 1) (.vr 11) (.vr 13))))
        .nil))))))))))))))))))))))))
      (.chk (.bn (.ar .add .i64) (.vr 13) (.cn (.int .i64 1)))
      (.set 13 (.bn (.ar .add .i64) (.vr 13) (.cn (.int .i64 1)))
      .nil))))))))
  (.set 10 (.cn (.int .i64 0))
  .ret))))))))))))))))))))))
def fc22 : Fc := ⟨85, s22, [(.vr 10)]⟩
theorem c22 : compF Try.prog 22 = some fc22 := by kernel_rfl

/-- (*kinora/bits.Writer).Len · parameters 1 · 0:w -/
def s23 : S :=
  (.set 2 (.cn (.int .i64 0))
  (.chk (.un .nck (.vr 0))
  (.chk (.un (.fa 1) (.un .nck (.vr 0)))
  (.chk (.ld (.un (.fa 1) (.un .nck (.vr 0))))
  (.set 2 (.ld (.un (.fa 1) (.un .nck (.vr 0))))
  .ret)))))
def fc23 : Fc := ⟨7, s23, [(.vr 2)]⟩
theorem c23 : compF Try.prog 23 = some fc23 := by kernel_rfl

/-- (*kinora/kinoraref2.Writer).Len · parameters 1 · 0:w -/
def s24 : S :=
  (.set 2 (.cn (.int .i64 0))
  (.chk (.un .nck (.vr 0))
  (.chk (.un (.fa 0) (.un .nck (.vr 0)))
  (.chk (.ld (.un (.fa 0) (.un .nck (.vr 0))))
  (.chk (.un .ln (.ld (.un (.fa 0) (.un .nck (.vr 0)))))
  (.set 2 (.un .ln (.ld (.un (.fa 0) (.un .nck (.vr 0)))))
  .ret))))))
def fc24 : Fc := ⟨8, s24, [(.vr 2)]⟩
theorem c24 : compF Try.prog 24 = some fc24 := by kernel_rfl

/-- kinora/kinoraref2.Same · parameters 2 · 0:a 1:b -/
def s25 : S :=
  (.set 4 (.cn (.bool false))
  (.op (some 6) (.convert 33 9 (.tmp 5)) 9 [(5, (.vr 0))] []
  (.op (some 8) (.convert 33 9 (.tmp 7)) 9 [(7, (.vr 1))] []
  (.chk (.bn (.eqs false) (.vr 6) (.vr 8))
  (.set 4 (.bn (.eqs false) (.vr 6) (.vr 8))
  .ret)))))
def fc25 : Fc := ⟨10, s25, [(.vr 4)]⟩
theorem c25 : compF Try.prog 25 = some fc25 := by kernel_rfl

/-- (*kinora/bits.Writer).Bytes · parameters 1 · 0:w -/
def s26 : S :=
  (.set 2 (.cn (.slice none 0 0))
  (.chk (.un .nck (.vr 0))
  (.chk (.un (.fa 0) (.un .nck (.vr 0)))
  (.chk (.ld (.un (.fa 0) (.un .nck (.vr 0))))
  (.set 6 (.ld (.un (.fa 0) (.un .nck (.vr 0))))
  (.op (some 7) (.call ⟨(.builtin .append), #[(.const (.slice none 0 0)), (.tmp 6)], #[33, 33]⟩) 33 [(6, (.vr 6))] []
  (.set 2 (.vr 7)
  .ret)))))))
def fc26 : Fc := ⟨8, s26, [(.vr 2)]⟩
theorem c26 : compF Try.prog 26 = some fc26 := by kernel_rfl

/-- (*kinora/kinoraref2.Writer).Bytes · parameters 1 · 0:w 3:out 4:i -/
def s27 : S :=
  (.set 2 (.cn (.slice none 0 0))
  (.chk (.un .nck (.vr 0))
  (.chk (.un (.fa 0) (.un .nck (.vr 0)))
  (.chk (.ld (.un (.fa 0) (.un .nck (.vr 0))))
  (.set 8 (.ld (.un (.fa 0) (.un .nck (.vr 0))))
  (.chk (.un .ln (.vr 8))
  (.op (some 12) (.makeSlice 33 (.tmp 11) (.tmp 11)) 33 [(11, (.bn (.dv false .i64) (.bn (.ar .add .i64) (.un .ln (.vr 8)) (.cn (.int .i64 7))) (.cn (.int .i64 8)))), (11, (.bn (.dv false .i64) (.bn (.ar .add .i64) (.un .ln (.vr 8)) (.cn (.int .i64 7))) (.cn (.int .i64 8))))] []
  (.set 3 (.vr 12)
  (.set 4 (.cn (.int .i64 0))
  (.blk 0
    (.loop
      (.chk (.un .nck (.vr 0))
      (.chk (.un (.fa 0) (.un .nck (.vr 0)))
      (.chk (.ld (.un (.fa 0) (.un .nck (.vr 0))))
      (.chk (.un .ln (.ld (.un (.fa 0) (.un .nck (.vr 0)))))
      (.chk (.bn (.cm .lss .i64) (.vr 4) (.un .ln (.ld (.un (.fa 0) (.un .nck (.vr 0))))))
      (.set 19 (.bn (.cm .lss .i64) (.vr 4) (.un .ln (.ld (.un (.fa 0) (.un .nck (.vr 0))))))
      (.ite (.vr 19)
        .nil
        (.exit 0)
      (.blk 1
        (.draw
        (.chk (.bn (.dv false .i64) (.vr 4) (.cn (.int .i64 8)))
        (.chk (.bn (.dv false .i64) (.vr 4) (.cn (.int .i64 8)))
        (.chk (.bn (.ia 1) (.vr 3) (.bn (.dv false .i64) (.vr 4) (.cn (.int .i64 8))))
        (.chk (.ld (.bn (.ia 1) (.vr 3) (.bn (.dv false .i64) (.vr 4) (.cn (.int .i64 8)))))
        (.set 29 (.ld (.bn (.ia 1) (.vr 3) (.bn (.dv false .i64) (.vr 4) (.cn (.int .i64 8)))))
        (.chk (.un .nck (.vr 0))
        (.chk (.un (.fa 0) (.un .nck (.vr 0)))
        (.chk (.ld (.un (.fa 0) (.un .nck (.vr 0))))
        (.set 33 (.ld (.un (.fa 0) (.un .nck (.vr 0))))
        (.chk (.bn (.ia 1) (.vr 33) (.vr 4))
        (.chk (.ld (.bn (.ia 1) (.vr 33) (.vr 4)))
        (.set 36 (.ld (.bn (.ia 1) (.vr 33) (.vr 4)))
        (.chk (.bn (.dv true .i64) (.vr 4) (.cn (.int .i64 8)))
        (.chk (.bn (.sh true .u8) (.vr 36) (.un (.cv .u64) (.bn (.ar .sub .i64) (.cn (.int .i64 7)) (.bn (.dv true .i64) (.vr 4) (.cn (.int .i64 8))))))
        (.chk (.bn (.bt .or .u8) (.vr 29) (.bn (.sh true .u8) (.vr 36) (.un (.cv .u64) (.bn (.ar .sub .i64) (.cn (.int .i64 7)) (.bn (.dv true .i64) (.vr 4) (.cn (.int .i64 8)))))))
        (.chk (.bn (.ia 1) (.vr 3) (.bn (.dv false .i64) (.vr 4) (.cn (.int .i64 8))))
        (.st 1 (.bn (.ia 1) (.vr 3) (.bn (.dv false .i64) (.vr 4) (.cn (.int .i64 8)))) (.bn (.bt .or .u8) (.vr 29) (.bn (.sh true .u8) (.vr 36) (.un (.cv .u64) (.bn (.ar .sub .i64) (.cn (.int .i64 7)) (.bn (.dv true .i64) (.vr 4) (.cn (.int .i64 8))))))) []
        .nil))))))))))))))))))
      (.chk (.bn (.ar .add .i64) (.vr 4) (.cn (.int .i64 1)))
      (.set 4 (.bn (.ar .add .i64) (.vr 4) (.cn (.int .i64 1)))
      .nil)))))))))))
  (.set 2 (.vr 3)
  .ret)))))))))))
def fc27 : Fc := ⟨45, s27, [(.vr 2)]⟩
theorem c27 : compF Try.prog 27 = some fc27 := by kernel_rfl

/-- kinora/kinoraref2.AllWide · parameters 1 · 0:l 3:i -/
def s28 : S :=
  (.set 2 (.cn (.bool false))
  (.set 3 (.cn (.int .i64 0))
  (.blk 0
    (.loop
      (.chk (.un .ln (.vr 0))
      (.chk (.bn (.cm .lss .i64) (.vr 3) (.un .ln (.vr 0)))
      (.set 7 (.bn (.cm .lss .i64) (.vr 3) (.un .ln (.vr 0)))
      (.ite (.vr 7)
        .nil
        (.exit 0)
      (.blk 1
        (.chk (.bn (.ia 1) (.vr 0) (.vr 3))
        (.chk (.ld (.bn (.ia 1) (.vr 0) (.vr 3)))
        (.set 13 (.ld (.bn (.ia 1) (.vr 0) (.vr 3)))
        (.call (some 14) 53 [(.vr 13)] []
        (.chk (.un .not (.vr 14))
        (.set 15 (.un .not (.vr 14))
        (.ite (.vr 15)
          (.set 2 (.cn (.bool false))
          .ret)
          .nil
        .nil)))))))
      (.chk (.bn (.ar .add .i64) (.vr 3) (.cn (.int .i64 1)))
      (.set 3 (.bn (.ar .add .i64) (.vr 3) (.cn (.int .i64 1)))
      .nil))))))))
  (.set 2 (.cn (.bool true))
  .ret))))
def fc28 : Fc := ⟨16, s28, [(.vr 2)]⟩
theorem c28 : compF Try.prog 28 = some fc28 := by kernel_rfl

/-- kinora/rice.Sum · parameters 2 · 0:k 1:l 5:sum 7:x -/
def s29 : S :=
  (.set 4 (.cn (.int .i64 0))
  (.set 5 (.cn (.int .i64 0))
  (.set 8 (.vr 1)
  (.chk (.un .ln (.vr 8))
  (.set 9 (.un .ln (.vr 8))
  (.set 10 (.cn (.int .i64 0))
  (.blk 0
    (.loop
      (.chk (.bn (.cm .lss .i64) (.vr 10) (.vr 9))
      (.set 11 (.bn (.cm .lss .i64) (.vr 10) (.vr 9))
      (.ite (.vr 11)
        .nil
        (.exit 0)
      (.blk 1
        (.chk (.bn (.ia 1) (.vr 8) (.vr 10))
        (.chk (.ld (.bn (.ia 1) (.vr 8) (.vr 10)))
        (.set 7 (.ld (.bn (.ia 1) (.vr 8) (.vr 10)))
        (.call (some 17) 54 [(.vr 0), (.vr 7)] []
        (.chk (.bn (.ar .add .i64) (.vr 5) (.vr 17))
        (.set 5 (.bn (.ar .add .i64) (.vr 5) (.vr 17))
        .nil))))))
      (.chk (.bn (.ar .add .i64) (.vr 10) (.cn (.int .i64 1)))
      (.set 10 (.bn (.ar .add .i64) (.vr 10) (.cn (.int .i64 1)))
      .nil)))))))
  (.set 4 (.vr 5)
  .ret))))))))
def fc29 : Fc := ⟨21, s29, [(.vr 4)]⟩
theorem c29 : compF Try.prog 29 = some fc29 := by kernel_rfl

/-- kinora/bits.New · parameters 1 · 0:b -/
def s30 : S :=
  (.set 2 (.cn (.pointer none))
  (.op (some 4) (.call ⟨(.builtin .append), #[(.const (.slice none 0 0)), (.tmp 3)], #[33, 33]⟩) 33 [(3, (.vr 0))] []
  (.chk (.bd 0 1 (.vr 4) (.cn (.agg #[(.slice none 0 0), (.int .i64 0), (.int .i64 0)])))
  (.op (some 6) (.box 79 (.tmp 5)) 51 [(5, (.bd 0 1 (.vr 4) (.cn (.agg #[(.slice none 0 0), (.int .i64 0), (.int .i64 0)]))))] []
  (.set 2 (.vr 6)
  .ret)))))
def fc30 : Fc := ⟨7, s30, [(.vr 2)]⟩
theorem c30 : compF Try.prog 30 = some fc30 := by kernel_rfl

/-- kinora/kinoraref2.NewReader · parameters 1 · 0:b -/
def s31 : S :=
  (.set 2 (.cn (.pointer none))
  (.chk (.bd 0 1 (.vr 0) (.cn (.agg #[(.slice none 0 0), (.int .i64 0), (.int .i64 0)])))
  (.op (some 5) (.box 62 (.tmp 4)) 53 [(4, (.bd 0 1 (.vr 0) (.cn (.agg #[(.slice none 0 0), (.int .i64 0), (.int .i64 0)]))))] []
  (.set 2 (.vr 5)
  .ret))))
def fc31 : Fc := ⟨6, s31, [(.vr 2)]⟩
theorem c31 : compF Try.prog 31 = some fc31 := by kernel_rfl

/-- (*kinora/bits.Reader).Get · parameters 2 · 0:r 1:n 5:v -/
def s32 : S :=
  (.set 4 (.cn (.int .u64 0))
  (.chk (.un .nck (.vr 0))
  (.chk (.un (.fa 2) (.un .nck (.vr 0)))
  (.chk (.ld (.un (.fa 2) (.un .nck (.vr 0))))
  (.chk (.bn (.cm .neq .i64) (.ld (.un (.fa 2) (.un .nck (.vr 0)))) (.cn (.int .i64 0)))
  (.set 10 (.bn (.cm .neq .i64) (.ld (.un (.fa 2) (.un .nck (.vr 0)))) (.cn (.int .i64 0)))
  (.ite (.vr 10)
    (.set 4 (.cn (.int .u64 0))
    .ret)
    .nil
  (.chk (.bn (.cm .lss .i64) (.vr 1) (.cn (.int .i64 0)))
  (.chk (.gd (.bn (.cm .lss .i64) (.vr 1) (.cn (.int .i64 0))) false (.bn (.cm .gtr .i64) (.vr 1) (.cn (.int .i64 64))))
  (.set 16 (.or (.bn (.cm .lss .i64) (.vr 1) (.cn (.int .i64 0))) (.bn (.cm .gtr .i64) (.vr 1) (.cn (.int .i64 64))))
  (.ite (.vr 16)
    (.chk (.un .nck (.vr 0))
    (.chk (.un (.fa 2) (.un .nck (.vr 0)))
    (.st 1 (.un (.fa 2) (.un .nck (.vr 0))) (.cn (.int .i64 1)) []
    (.set 4 (.cn (.int .u64 0))
    .ret))))
    .nil
  (.call (some 22) 55 [(.vr 0)] []
  (.chk (.bn (.cm .gtr .i64) (.vr 1) (.vr 22))
  (.set 23 (.bn (.cm .gtr .i64) (.vr 1) (.vr 22))
  (.ite (.vr 23)
    (.chk (.un .nck (.vr 0))
    (.chk (.un (.fa 2) (.un .nck (.vr 0)))
    (.st 1 (.un (.fa 2) (.un .nck (.vr 0))) (.cn (.int .i64 3)) []
    (.set 4 (.cn (.int .u64 0))
    .ret))))
    .nil
  (.set 5 (.cn (.int .u64 0))
  (.set 27 (.vr 1)
  (.set 28 (.cn (.int .i64 0))
  (.blk 0
    (.loop
      (.chk (.bn (.cm .lss .i64) (.vr 28) (.vr 27))
      (.set 29 (.bn (.cm .lss .i64) (.vr 28) (.vr 27))
      (.ite (.vr 29)
        .nil
        (.exit 0)
      (.blk 1
        (.chk (.bn (.sh true .u64) (.vr 5) (.cn (.int .u64 1)))
        (.chk (.un .nck (.vr 0))
        (.chk (.un (.fa 1) (.un .nck (.vr 0)))
        (.chk (.ld (.un (.fa 1) (.un .nck (.vr 0))))
        (.set 36 (.ld (.un (.fa 1) (.un .nck (.vr 0))))
        (.call (some 37) 56 [(.vr 0), (.vr 36)] []
        (.chk (.un (.cv .u64) (.vr 37))
        (.set 5 (.bn (.bt .or .u64) (.bn (.sh true .u64) (.vr 5) (.cn (.int .u64 1))) (.un (.cv .u64) (.vr 37)))
        (.chk (.un .nck (.vr 0))
        (.chk (.un (.fa 1) (.un .nck (.vr 0)))
        (.chk (.ld (.un (.fa 1) (.un .nck (.vr 0))))
        (.set 43 (.ld (.un (.fa 1) (.un .nck (.vr 0))))
        (.chk (.bn (.ar .add .i64) (.vr 43) (.cn (.int .i64 1)))
        (.chk (.un .nck (.vr 0))
        (.chk (.un (.fa 1) (.un .nck (.vr 0)))
        (.st 1 (.un (.fa 1) (.un .nck (.vr 0))) (.bn (.ar .add .i64) (.vr 43) (.cn (.int .i64 1))) []
        .nil))))))))))))))))
      (.chk (.bn (.ar .add .i64) (.vr 28) (.cn (.int .i64 1)))
      (.set 28 (.bn (.ar .add .i64) (.vr 28) (.cn (.int .i64 1)))
      .nil)))))))
  (.set 4 (.vr 5)
  .ret))))))))))))))))))))
def fc32 : Fc := ⟨49, s32, [(.vr 4)]⟩
theorem c32 : compF Try.prog 32 = some fc32 := by kernel_rfl

/-- (*kinora/kinoraref2.Reader).Get · parameters 2 · 0:r 1:n 5:v 6:i -/
def s33 : S :=
  (.set 4 (.cn (.int .u64 0))
  (.chk (.un .nck (.vr 0))
  (.chk (.un (.fa 2) (.un .nck (.vr 0)))
  (.chk (.ld (.un (.fa 2) (.un .nck (.vr 0))))
  (.chk (.bn (.cm .neq .i64) (.ld (.un (.fa 2) (.un .nck (.vr 0)))) (.cn (.int .i64 0)))
  (.set 11 (.bn (.cm .neq .i64) (.ld (.un (.fa 2) (.un .nck (.vr 0)))) (.cn (.int .i64 0)))
  (.ite (.vr 11)
    (.set 4 (.cn (.int .u64 0))
    .ret)
    .nil
  (.chk (.bn (.cm .lss .i64) (.vr 1) (.cn (.int .i64 0)))
  (.chk (.gd (.bn (.cm .lss .i64) (.vr 1) (.cn (.int .i64 0))) false (.bn (.cm .gtr .i64) (.vr 1) (.cn (.int .i64 64))))
  (.set 17 (.or (.bn (.cm .lss .i64) (.vr 1) (.cn (.int .i64 0))) (.bn (.cm .gtr .i64) (.vr 1) (.cn (.int .i64 64))))
  (.ite (.vr 17)
    (.chk (.un .nck (.vr 0))
    (.chk (.un (.fa 2) (.un .nck (.vr 0)))
    (.st 1 (.un (.fa 2) (.un .nck (.vr 0))) (.cn (.int .i64 1)) []
    (.set 4 (.cn (.int .u64 0))
    .ret))))
    .nil
  (.call (some 23) 57 [(.vr 0)] []
  (.chk (.bn (.cm .gtr .i64) (.vr 1) (.vr 23))
  (.set 24 (.bn (.cm .gtr .i64) (.vr 1) (.vr 23))
  (.ite (.vr 24)
    (.chk (.un .nck (.vr 0))
    (.chk (.un (.fa 2) (.un .nck (.vr 0)))
    (.st 1 (.un (.fa 2) (.un .nck (.vr 0))) (.cn (.int .i64 3)) []
    (.set 4 (.cn (.int .u64 0))
    .ret))))
    .nil
  (.set 5 (.cn (.int .u64 0))
  (.set 6 (.cn (.int .i64 0))
  (.blk 0
    (.loop
      (.chk (.bn (.cm .lss .i64) (.vr 6) (.vr 1))
      (.set 30 (.bn (.cm .lss .i64) (.vr 6) (.vr 1))
      (.ite (.vr 30)
        .nil
        (.exit 0)
      (.blk 1
        (.chk (.bn (.sh true .u64) (.vr 5) (.cn (.int .u64 1)))
        (.chk (.un .nck (.vr 0))
        (.chk (.un (.fa 1) (.un .nck (.vr 0)))
        (.chk (.ld (.un (.fa 1) (.un .nck (.vr 0))))
        (.set 39 (.ld (.un (.fa 1) (.un .nck (.vr 0))))
        (.chk (.bn (.ar .add .i64) (.vr 39) (.vr 6))
        (.call (some 42) 58 [(.vr 0), (.bn (.ar .add .i64) (.vr 39) (.vr 6))] []
        (.chk (.bn (.bt .or .u64) (.bn (.sh true .u64) (.vr 5) (.cn (.int .u64 1))) (.vr 42))
        (.set 5 (.bn (.bt .or .u64) (.bn (.sh true .u64) (.vr 5) (.cn (.int .u64 1))) (.vr 42))
        .nil)))))))))
      (.chk (.bn (.ar .add .i64) (.vr 6) (.cn (.int .i64 1)))
      (.set 6 (.bn (.ar .add .i64) (.vr 6) (.cn (.int .i64 1)))
      .nil)))))))
  (.chk (.un .nck (.vr 0))
  (.chk (.un (.fa 1) (.un .nck (.vr 0)))
  (.chk (.ld (.un (.fa 1) (.un .nck (.vr 0))))
  (.set 48 (.ld (.un (.fa 1) (.un .nck (.vr 0))))
  (.chk (.bn (.ar .add .i64) (.vr 48) (.vr 1))
  (.chk (.un .nck (.vr 0))
  (.chk (.un (.fa 1) (.un .nck (.vr 0)))
  (.st 1 (.un (.fa 1) (.un .nck (.vr 0))) (.bn (.ar .add .i64) (.vr 48) (.vr 1)) []
  (.set 4 (.vr 5)
  .ret)))))))))))))))))))))))))))
def fc33 : Fc := ⟨54, s33, [(.vr 4)]⟩
theorem c33 : compF Try.prog 33 = some fc33 := by kernel_rfl

/-- kinora/parts.Get · parameters 3 · 0:r 1:n 2:warm 9:order 10:sizes 11:p 12:out 14:size 15:k 16:part 17:err -/
def s34 : S :=
  (.op (some 6) (.alloc 24) 0 [] []
  (.set 7 (.cn (.slice none 0 0))
  (.set 8 (.cn (.int .i64 0))
  (.call (some 20) 42 [(.vr 1), (.vr 2)] []
  (.chk (.un .not (.vr 20))
  (.set 21 (.un .not (.vr 20))
  (.ite (.vr 21)
    (.st 2 (.vr 6) (.cn (.agg #[(.int .i64 0), (.slice none 0 0)])) []
    (.set 7 (.cn (.slice none 0 0))
    (.set 8 (.cn (.int .i64 1))
    .ret)))
    .nil
  (.call (some 24) 32 [(.vr 0), (.cn (.int .i64 4))] []
  (.chk (.un (.cv .i64) (.vr 24))
  (.set 9 (.un (.cv .i64) (.vr 24))
  (.call (some 27) 59 [(.vr 0)] []
  (.chk (.bn (.cm .neq .i64) (.vr 27) (.cn (.int .i64 0)))
  (.set 28 (.bn (.cm .neq .i64) (.vr 27) (.cn (.int .i64 0)))
  (.ite (.vr 28)
    (.call (some 31) 59 [(.vr 0)] []
    (.st 2 (.vr 6) (.cn (.agg #[(.int .i64 0), (.slice none 0 0)])) []
    (.set 7 (.cn (.slice none 0 0))
    (.set 8 (.vr 31)
    .ret))))
    .nil
  (.call (some 35) 15 [(.vr 9), (.vr 1), (.vr 2)] []
  (.set 10 (.vr 35)
  (.chk (.un .ln (.vr 10))
  (.set 38 (.bn (.cm .eql .i64) (.un .ln (.vr 10)) (.cn (.int .i64 0)))
  (.ite (.vr 38)
    (.st 2 (.vr 6) (.cn (.agg #[(.int .i64 0), (.slice none 0 0)])) []
    (.set 7 (.cn (.slice none 0 0))
    (.set 8 (.cn (.int .i64 2))
    .ret)))
    .nil
  (.chk (.bd 0 1 (.vr 9) (.cn (.agg #[(.int .i64 0), (.slice none 0 0)])))
  (.op (some 11) (.alloc 24) 0 [] []
  (.st 2 (.vr 11) (.bd 0 1 (.vr 9) (.cn (.agg #[(.int .i64 0), (.slice none 0 0)]))) []
  (.set 12 (.cn (.slice none 0 0))
  (.set 42 (.vr 10)
  (.chk (.un .ln (.vr 42))
  (.set 43 (.un .ln (.vr 42))
  (.set 44 (.cn (.int .i64 0))
  (.blk 0
    (.loop
      (.chk (.bn (.cm .lss .i64) (.vr 44) (.vr 43))
      (.set 45 (.bn (.cm .lss .i64) (.vr 44) (.vr 43))
      (.ite (.vr 45)
        .nil
        (.exit 0)
      (.blk 1
        (.chk (.bn (.ia 1) (.vr 42) (.vr 44))
        (.chk (.ld (.bn (.ia 1) (.vr 42) (.vr 44)))
        (.set 14 (.ld (.bn (.ia 1) (.vr 42) (.vr 44)))
        (.call (some 51) 60 [(.vr 0), (.vr 14)] []
        (.chk (.un (.ex 0) (.vr 51))
        (.chk (.un (.ex 1) (.vr 51))
        (.chk (.un (.ex 2) (.vr 51))
        (.set 15 (.un (.ex 0) (.vr 51))
        (.set 16 (.un (.ex 1) (.vr 51))
        (.set 17 (.un (.ex 2) (.vr 51))
        (.chk (.bn (.cm .neq .i64) (.vr 17) (.cn (.int .i64 0)))
        (.set 56 (.bn (.cm .neq .i64) (.vr 17) (.cn (.int .i64 0)))
        (.ite (.vr 56)
          (.st 2 (.vr 6) (.cn (.agg #[(.int .i64 0), (.slice none 0 0)])) []
          (.set 7 (.cn (.slice none 0 0))
          (.set 8 (.vr 17)
          .ret)))
          .nil
        (.chk (.un (.fa 1) (.vr 11))
        (.chk (.ld (.un (.fa 1) (.vr 11)))
        (.set 60 (.ld (.un (.fa 1) (.vr 11)))
        (.op (some 62) (.buildSlice 22 1 #[(0, (.tmp 61))]) 22 [(61, (.vr 15))] []
        (.op (some 63) (.call ⟨(.builtin .append), #[(.tmp 60), (.tmp 62)], #[22, 22]⟩) 22 [(60, (.vr 60)), (62, (.vr 62))] []
        (.chk (.un (.fa 1) (.vr 11))
        (.st 1 (.un (.fa 1) (.vr 11)) (.vr 63) []
        (.op (some 67) (.call ⟨(.builtin .append), #[(.tmp 65), (.tmp 66)], #[22, 22]⟩) 22 [(65, (.vr 12)), (66, (.vr 16))] []
        (.set 12 (.vr 67)
        .nil))))))))))))))))))))))
      (.chk (.bn (.ar .add .i64) (.vr 44) (.cn (.int .i64 1)))
      (.set 44 (.bn (.ar .add .i64) (.vr 44) (.cn (.int .i64 1)))
      .nil)))))))
  (.chk (.ldn 2 (.vr 11))
  (.set 69 (.ldn 2 (.vr 11))
  (.st 2 (.vr 6) (.vr 69) []
  (.set 7 (.vr 12)
  (.set 8 (.cn (.int .i64 0))
  .ret)))))))))))))))))))))))))))))))))
def fc34 : Fc := ⟨71, s34, [(.ldn 2 (.vr 6)), (.vr 7), (.vr 8)]⟩
theorem c34 : compF Try.prog 34 = some fc34 := by kernel_rfl

/-- kinora/kinoraref8.PartsGet · parameters 3 · 0:r 1:n 2:warm 9:p 10:s 11:out 12:i 13:k 14:l 15:e -/
def s35 : S :=
  (.op (some 6) (.alloc 24) 0 [] []
  (.set 7 (.cn (.slice none 0 0))
  (.set 8 (.cn (.int .i64 0))
  (.call (some 18) 43 [(.vr 1), (.vr 2)] []
  (.chk (.un .not (.vr 18))
  (.set 19 (.un .not (.vr 18))
  (.ite (.vr 19)
    (.st 2 (.vr 6) (.cn (.agg #[(.int .i64 0), (.slice none 0 0)])) []
    (.set 7 (.cn (.slice none 0 0))
    (.set 8 (.cn (.int .i64 1))
    .ret)))
    .nil
  (.call (some 22) 33 [(.vr 0), (.cn (.int .i64 4))] []
  (.chk (.un (.cv .i64) (.vr 22))
  (.chk (.bd 0 1 (.un (.cv .i64) (.vr 22)) (.cn (.agg #[(.int .i64 0), (.slice none 0 0)])))
  (.op (some 9) (.alloc 24) 0 [] []
  (.st 2 (.vr 9) (.bd 0 1 (.un (.cv .i64) (.vr 22)) (.cn (.agg #[(.int .i64 0), (.slice none 0 0)]))) []
  (.chk (.un .nck (.vr 0))
  (.chk (.un (.fa 2) (.un .nck (.vr 0)))
  (.chk (.ld (.un (.fa 2) (.un .nck (.vr 0))))
  (.chk (.bn (.cm .neq .i64) (.ld (.un (.fa 2) (.un .nck (.vr 0)))) (.cn (.int .i64 0)))
  (.set 29 (.bn (.cm .neq .i64) (.ld (.un (.fa 2) (.un .nck (.vr 0)))) (.cn (.int .i64 0)))
  (.ite (.vr 29)
    (.draw
    (.chk (.un .nck (.vr 0))
    (.chk (.un (.fa 2) (.un .nck (.vr 0)))
    (.chk (.ld (.un (.fa 2) (.un .nck (.vr 0))))
    (.set 34 (.ld (.un (.fa 2) (.un .nck (.vr 0))))
    (.st 2 (.vr 6) (.cn (.agg #[(.int .i64 0), (.slice none 0 0)])) [⟨4, (.un (.fa 2) (.un .nck (.vr 0))), 1, none⟩]
    (.set 7 (.cn (.slice none 0 0))
    (.set 8 (.vr 34)
    .ret))))))))
    .nil
  (.chk (.un (.fa 0) (.vr 9))
  (.chk (.ld (.un (.fa 0) (.vr 9)))
  (.set 36 (.ld (.un (.fa 0) (.vr 9)))
  (.call (some 39) 16 [(.vr 36), (.vr 1), (.vr 2)] []
  (.set 10 (.vr 39)
  (.chk (.un .ln (.vr 10))
  (.set 42 (.bn (.cm .eql .i64) (.un .ln (.vr 10)) (.cn (.int .i64 0)))
  (.ite (.vr 42)
    (.st 2 (.vr 6) (.cn (.agg #[(.int .i64 0), (.slice none 0 0)])) []
    (.set 7 (.cn (.slice none 0 0))
    (.set 8 (.cn (.int .i64 2))
    .ret)))
    .nil
  (.set 11 (.cn (.slice none 0 0))
  (.set 12 (.cn (.int .i64 0))
  (.blk 0
    (.loop
      (.chk (.un .ln (.vr 10))
      (.chk (.bn (.cm .lss .i64) (.vr 12) (.un .ln (.vr 10)))
      (.set 47 (.bn (.cm .lss .i64) (.vr 12) (.un .ln (.vr 10)))
      (.ite (.vr 47)
        .nil
        (.exit 0)
      (.blk 1
        (.call (some 51) 33 [(.vr 0), (.cn (.int .i64 5))] []
        (.chk (.un (.cv .i64) (.vr 51))
        (.set 13 (.un (.cv .i64) (.vr 51))
        (.chk (.un .nck (.vr 0))
        (.chk (.un (.fa 2) (.un .nck (.vr 0)))
        (.chk (.ld (.un (.fa 2) (.un .nck (.vr 0))))
        (.chk (.bn (.cm .neq .i64) (.ld (.un (.fa 2) (.un .nck (.vr 0)))) (.cn (.int .i64 0)))
        (.set 57 (.bn (.cm .neq .i64) (.ld (.un (.fa 2) (.un .nck (.vr 0)))) (.cn (.int .i64 0)))
        (.ite (.vr 57)
          (.draw
          (.chk (.un .nck (.vr 0))
          (.chk (.un (.fa 2) (.un .nck (.vr 0)))
          (.chk (.ld (.un (.fa 2) (.un .nck (.vr 0))))
          (.set 62 (.ld (.un (.fa 2) (.un .nck (.vr 0))))
          (.st 2 (.vr 6) (.cn (.agg #[(.int .i64 0), (.slice none 0 0)])) [⟨4, (.un (.fa 2) (.un .nck (.vr 0))), 1, none⟩]
          (.set 7 (.cn (.slice none 0 0))
          (.set 8 (.vr 62)
          .ret))))))))
          .nil
        (.chk (.un (.fa 1) (.vr 9))
        (.chk (.ld (.un (.fa 1) (.vr 9)))
        (.set 64 (.ld (.un (.fa 1) (.vr 9)))
        (.op (some 66) (.buildSlice 22 1 #[(0, (.tmp 65))]) 22 [(65, (.vr 13))] []
        (.op (some 67) (.call ⟨(.builtin .append), #[(.tmp 64), (.tmp 66)], #[22, 22]⟩) 22 [(64, (.vr 64)), (66, (.vr 66))] []
        (.chk (.un (.fa 1) (.vr 9))
        (.st 1 (.un (.fa 1) (.vr 9)) (.vr 67) []
        (.chk (.bn (.ia 1) (.vr 10) (.vr 12))
        (.chk (.ld (.bn (.ia 1) (.vr 10) (.vr 12)))
        (.set 75 (.ld (.bn (.ia 1) (.vr 10) (.vr 12)))
        (.call (some 76) 61 [(.vr 0), (.vr 13), (.vr 75)] []
        (.chk (.un (.ex 0) (.vr 76))
        (.chk (.un (.ex 1) (.vr 76))
        (.set 14 (.un (.ex 0) (.vr 76))
        (.set 15 (.un (.ex 1) (.vr 76))
        (.chk (.bn (.cm .neq .i64) (.vr 15) (.cn (.int .i64 0)))
        (.set 80 (.bn (.cm .neq .i64) (.vr 15) (.cn (.int .i64 0)))
        (.ite (.vr 80)
          (.st 2 (.vr 6) (.cn (.agg #[(.int .i64 0), (.slice none 0 0)])) []
          (.set 7 (.cn (.slice none 0 0))
          (.set 8 (.vr 15)
          .ret)))
          .nil
        (.op (some 85) (.call ⟨(.builtin .append), #[(.tmp 83), (.tmp 84)], #[22, 22]⟩) 22 [(83, (.vr 11)), (84, (.vr 14))] []
        (.set 11 (.vr 85)
        .nil)))))))))))))))))))))))))))))
      (.chk (.bn (.ar .add .i64) (.vr 12) (.cn (.int .i64 1)))
      (.set 12 (.bn (.ar .add .i64) (.vr 12) (.cn (.int .i64 1)))
      .nil))))))))
  (.chk (.ldn 2 (.vr 9))
  (.set 86 (.ldn 2 (.vr 9))
  (.st 2 (.vr 6) (.vr 86) []
  (.set 7 (.vr 11)
  (.set 8 (.cn (.int .i64 0))
  .ret))))))))))))))))))))))))))))))))))
def fc35 : Fc := ⟨88, s35, [(.ldn 2 (.vr 6)), (.vr 7), (.vr 8)]⟩
theorem c35 : compF Try.prog 35 = some fc35 := by kernel_rfl

/-- kinora/kinoraref8.SameParts · parameters 2 · 0:a 1:b 2:a 3:b -/
def s36 : S :=
  (.op (some 2) (.box 24 (.tmp 0)) 0 [(0, (.vr 0))] []
  (.op (some 3) (.box 24 (.tmp 1)) 0 [(1, (.vr 1))] []
  (.set 4 (.cn (.bool false))
  (.chk (.un (.fa 0) (.vr 2))
  (.chk (.ld (.un (.fa 0) (.vr 2)))
  (.set 6 (.ld (.un (.fa 0) (.vr 2)))
  (.chk (.un (.fa 0) (.vr 3))
  (.chk (.ld (.un (.fa 0) (.vr 3)))
  (.set 8 (.ld (.un (.fa 0) (.vr 3)))
  (.chk (.bn (.cm .eql .i64) (.vr 6) (.vr 8))
  (.set 10 (.bn (.cm .eql .i64) (.vr 6) (.vr 8))
  (.chk (.gd (.vr 10) true (.un (.fa 1) (.vr 2)))
  (.chk (.gd (.vr 10) true (.ld (.un (.fa 1) (.vr 2))))
  (.set 12 (.gd (.vr 10) true (.ld (.un (.fa 1) (.vr 2))))
  (.chk (.gd (.vr 10) true (.un (.fa 1) (.vr 3)))
  (.chk (.gd (.vr 10) true (.ld (.un (.fa 1) (.vr 3))))
  (.set 14 (.gd (.vr 10) true (.ld (.un (.fa 1) (.vr 3))))
  (.ifg (.vr 10) true
    (.call (some 15) 14 [(.vr 12), (.vr 14)] []
    .nil)
    (.set 15 (.cn undef)
    .nil)
  (.chk (.pk (.vr 10) (.vr 15) (.cn (.bool false)))
  (.set 4 (.pk (.vr 10) (.vr 15) (.cn (.bool false)))
  .ret))))))))))))))))))))
def fc36 : Fc := ⟨17, s36, [(.vr 4)]⟩
theorem c36 : compF Try.prog 36 = some fc36 := by kernel_rfl

/-- (*kinora/bits.Reader).At · parameters 1 · 0:r -/
def s37 : S :=
  (.set 2 (.cn (.int .i64 0))
  (.chk (.un .nck (.vr 0))
  (.chk (.un (.fa 1) (.un .nck (.vr 0)))
  (.chk (.ld (.un (.fa 1) (.un .nck (.vr 0))))
  (.set 2 (.ld (.un (.fa 1) (.un .nck (.vr 0))))
  .ret)))))
def fc37 : Fc := ⟨7, s37, [(.vr 2)]⟩
theorem c37 : compF Try.prog 37 = some fc37 := by kernel_rfl

/-- (*kinora/bits.Writer).Put · parameters 3 · 0:w 1:v 2:n 7:i -/
def s38 : S :=
  (.set 6 (.cn (.int .i64 0))
  (.chk (.bn (.cm .lss .i64) (.vr 2) (.cn (.int .i64 0)))
  (.chk (.gd (.bn (.cm .lss .i64) (.vr 2) (.cn (.int .i64 0))) false (.bn (.cm .gtr .i64) (.vr 2) (.cn (.int .i64 64))))
  (.chk (.gd (.or (.bn (.cm .lss .i64) (.vr 2) (.cn (.int .i64 0))) (.bn (.cm .gtr .i64) (.vr 2) (.cn (.int .i64 64)))) false (.bn (.sh false .u64) (.vr 1) (.vr 2)))
  (.set 19 (.or (.or (.bn (.cm .lss .i64) (.vr 2) (.cn (.int .i64 0))) (.bn (.cm .gtr .i64) (.vr 2) (.cn (.int .i64 64)))) (.bn (.cm .neq .u64) (.bn (.sh false .u64) (.vr 1) (.vr 2)) (.cn (.int .u64 0))))
  (.ite (.vr 19)
    (.set 6 (.cn (.int .i64 1))
    .ret)
    .nil
  (.chk (.bn (.ar .sub .i64) (.vr 2) (.cn (.int .i64 1)))
  (.set 7 (.bn (.ar .sub .i64) (.vr 2) (.cn (.int .i64 1)))
  (.blk 0
    (.loop
      (.chk (.bn (.cm .geq .i64) (.vr 7) (.cn (.int .i64 0)))
      (.set 23 (.bn (.cm .geq .i64) (.vr 7) (.cn (.int .i64 0)))
      (.ite (.vr 23)
        .nil
        (.exit 0)
      (.blk 1
        (.chk (.bn (.sh false .u64) (.vr 1) (.vr 7))
        (.call (some 32) 62 [(.vr 0), (.un (.cv .u8) (.bn (.bt .and .u64) (.bn (.sh false .u64) (.vr 1) (.vr 7)) (.cn (.int .u64 1))))] []
        .nil))
      (.chk (.bn (.ar .sub .i64) (.vr 7) (.cn (.int .i64 1)))
      (.set 7 (.bn (.ar .sub .i64) (.vr 7) (.cn (.int .i64 1)))
      .nil)))))))
  (.set 6 (.cn (.int .i64 0))
  .ret))))))))))
def fc38 : Fc := ⟨33, s38, [(.vr 6)]⟩
theorem c38 : compF Try.prog 38 = some fc38 := by kernel_rfl

/-- kinora/parts.Best · parameters 4 · 0:n 1:warm 2:most 3:l 10:best 11:least 12:order 13:sizes 14:p 15:rest 17:size 18:cost -/
def s39 : S :=
  (.op (some 8) (.alloc 24) 0 [] []
  (.set 9 (.cn (.int .i64 0))
  (.call (some 22) 45 [(.vr 0), (.vr 1), (.vr 3)] []
  (.chk (.un .not (.vr 22))
  (.set 23 (.un .not (.vr 22))
  (.ite (.vr 23)
    (.st 2 (.vr 8) (.cn (.agg #[(.int .i64 0), (.slice none 0 0)])) []
    (.set 9 (.cn (.int .i64 1))
    .ret))
    .nil
  (.op (some 10) (.alloc 24) 0 [] []
  (.set 11 (.cn (.int .i64 0))
  (.set 12 (.cn (.int .i64 0))
  (.blk 0
    (.loop
      (.chk (.bn (.mx .i64) (.vr 2) (.cn (.int .i64 0)))
      (.chk (.bn (.cm .leq .i64) (.vr 12) (.bn (.mn .i64) (.bn (.mx .i64) (.vr 2) (.cn (.int .i64 0))) (.cn (.int .i64 8))))
      (.set 29 (.bn (.cm .leq .i64) (.vr 12) (.bn (.mn .i64) (.bn (.mx .i64) (.vr 2) (.cn (.int .i64 0))) (.cn (.int .i64 8))))
      (.ite (.vr 29)
        .nil
        (.exit 0)
      (.blk 1
        (.call (some 35) 15 [(.vr 12), (.vr 0), (.vr 1)] []
        (.set 13 (.vr 35)
        (.chk (.un .ln (.vr 13))
        (.set 38 (.bn (.cm .eql .i64) (.un .ln (.vr 13)) (.cn (.int .i64 0)))
        (.ite (.vr 38)
          (.exit 1)
          .nil
        (.chk (.bd 0 1 (.vr 12) (.cn (.agg #[(.int .i64 0), (.slice none 0 0)])))
        (.op (some 14) (.alloc 24) 0 [] []
        (.st 2 (.vr 14) (.bd 0 1 (.vr 12) (.cn (.agg #[(.int .i64 0), (.slice none 0 0)]))) []
        (.set 15 (.vr 3)
        (.set 42 (.vr 13)
        (.chk (.un .ln (.vr 42))
        (.set 43 (.un .ln (.vr 42))
        (.set 44 (.cn (.int .i64 0))
        (.blk 2
          (.loop
            (.chk (.bn (.cm .lss .i64) (.vr 44) (.vr 43))
            (.set 45 (.bn (.cm .lss .i64) (.vr 44) (.vr 43))
            (.ite (.vr 45)
              .nil
              (.exit 2)
            (.blk 3
              (.chk (.bn (.ia 1) (.vr 42) (.vr 44))
              (.chk (.ld (.bn (.ia 1) (.vr 42) (.vr 44)))
              (.set 17 (.ld (.bn (.ia 1) (.vr 42) (.vr 44)))
              (.draw
              (.chk (.un (.fa 1) (.vr 14))
              (.chk (.ld (.un (.fa 1) (.vr 14)))
              (.set 49 (.ld (.un (.fa 1) (.vr 14)))
              (.chk (.sl 1 true (.vr 15) (.cn (.int .i64 0)) (.vr 17))
              (.call (some 53) 63 [(.sl 1 true (.vr 15) (.cn (.int .i64 0)) (.vr 17))] [⟨1, (.un (.fa 1) (.vr 14)), 1, none⟩]
              (.op (some 54) (.buildSlice 22 1 #[(0, (.tmp 53))]) 22 [(53, (.vr 53))] [⟨1, (.un (.fa 1) (.vr 14)), 1, none⟩]
              (.op (some 55) (.call ⟨(.builtin .append), #[(.tmp 49), (.tmp 54)], #[22, 22]⟩) 22 [(49, (.vr 49)), (54, (.vr 54))] []
              (.chk (.un (.fa 1) (.vr 14))
              (.st 1 (.un (.fa 1) (.vr 14)) (.vr 55) []
              (.chk (.sl 1 false (.vr 15) (.vr 17) (.cn undef))
              (.set 15 (.sl 1 false (.vr 15) (.vr 17) (.cn undef))
              .nil)))))))))))))))
            (.chk (.bn (.ar .add .i64) (.vr 44) (.cn (.int .i64 1)))
            (.set 44 (.bn (.ar .add .i64) (.vr 44) (.cn (.int .i64 1)))
            .nil)))))))
        (.chk (.ldn 2 (.vr 14))
        (.set 61 (.ldn 2 (.vr 14))
        (.call (some 65) 19 [(.vr 61), (.vr 0), (.vr 1), (.vr 3)] []
        (.set 18 (.vr 65)
        (.chk (.bn (.cm .eql .i64) (.vr 11) (.cn (.int .i64 0)))
        (.chk (.gd (.bn (.cm .eql .i64) (.vr 11) (.cn (.int .i64 0))) false (.bn (.cm .lss .i64) (.vr 18) (.vr 11)))
        (.set 72 (.or (.bn (.cm .eql .i64) (.vr 11) (.cn (.int .i64 0))) (.bn (.cm .lss .i64) (.vr 18) (.vr 11)))
        (.ite (.vr 72)
          (.chk (.ldn 2 (.vr 14))
          (.set 73 (.ldn 2 (.vr 14))
          (.st 2 (.vr 10) (.vr 73) []
          (.set 11 (.vr 18)
          .nil))))
          .nil
        .nil))))))))))))))))))))))
      (.chk (.bn (.ar .add .i64) (.vr 12) (.cn (.int .i64 1)))
      (.set 12 (.bn (.ar .add .i64) (.vr 12) (.cn (.int .i64 1)))
      .nil))))))))
  (.chk (.ldn 2 (.vr 10))
  (.set 75 (.ldn 2 (.vr 10))
  (.st 2 (.vr 8) (.vr 75) []
  (.set 9 (.cn (.int .i64 0))
  .ret))))))))))))))
def fc39 : Fc := ⟨76, s39, [(.ldn 2 (.vr 8)), (.vr 9)]⟩
theorem c39 : compF Try.prog 39 = some fc39 := by kernel_rfl

/-- kinora/kinoraref8.PartsBest · parameters 4 · 0:n 1:warm 2:most 3:l 10:best 11:cost 12:order 13:s 14:at 15:p 16:i 17:c -/
def s40 : S :=
  (.op (some 8) (.alloc 24) 0 [] []
  (.set 9 (.cn (.int .i64 0))
  (.call (some 20) 43 [(.vr 0), (.vr 1)] []
  (.chk (.un .not (.vr 20))
  (.set 22 (.un .not (.vr 20))
  (.chk (.gd (.vr 22) false (.un .ln (.vr 3)))
  (.chk (.gd (.vr 22) false (.bn (.ar .sub .i64) (.vr 0) (.vr 1)))
  (.chk (.or (.vr 22) (.bn (.cm .neq .i64) (.un .ln (.vr 3)) (.bn (.ar .sub .i64) (.vr 0) (.vr 1))))
  (.set 30 (.or (.vr 22) (.bn (.cm .neq .i64) (.un .ln (.vr 3)) (.bn (.ar .sub .i64) (.vr 0) (.vr 1))))
  (.ifg (.vr 30) false
    (.call (some 32) 28 [(.vr 3)] []
    .nil)
    (.set 32 (.cn undef)
    .nil)
  (.chk (.gd (.vr 30) false (.un .not (.vr 32)))
  (.chk (.or (.vr 30) (.un .not (.vr 32)))
  (.set 34 (.or (.vr 30) (.un .not (.vr 32)))
  (.ite (.vr 34)
    (.st 2 (.vr 8) (.cn (.agg #[(.int .i64 0), (.slice none 0 0)])) []
    (.set 9 (.cn (.int .i64 1))
    .ret))
    .nil
  (.op (some 10) (.alloc 24) 0 [] []
  (.set 11 (.cn (.int .i64 0))
  (.set 12 (.cn (.int .i64 0))
  (.blk 0
    (.loop
      (.chk (.bn (.mx .i64) (.vr 2) (.cn (.int .i64 0)))
      (.chk (.bn (.cm .leq .i64) (.vr 12) (.bn (.mn .i64) (.bn (.mx .i64) (.vr 2) (.cn (.int .i64 0))) (.cn (.int .i64 8))))
      (.set 40 (.bn (.cm .leq .i64) (.vr 12) (.bn (.mn .i64) (.bn (.mx .i64) (.vr 2) (.cn (.int .i64 0))) (.cn (.int .i64 8))))
      (.ite (.vr 40)
        .nil
        (.exit 0)
      (.blk 1
        (.call (some 46) 16 [(.vr 12), (.vr 0), (.vr 1)] []
        (.set 13 (.vr 46)
        (.set 14 (.cn (.int .i64 0))
        (.chk (.bd 0 1 (.vr 12) (.cn (.agg #[(.int .i64 0), (.slice none 0 0)])))
        (.op (some 15) (.alloc 24) 0 [] []
        (.st 2 (.vr 15) (.bd 0 1 (.vr 12) (.cn (.agg #[(.int .i64 0), (.slice none 0 0)]))) []
        (.set 16 (.cn (.int .i64 0))
        (.blk 2
          (.loop
            (.chk (.un .ln (.vr 13))
            (.chk (.bn (.cm .lss .i64) (.vr 16) (.un .ln (.vr 13)))
            (.set 52 (.bn (.cm .lss .i64) (.vr 16) (.un .ln (.vr 13)))
            (.ite (.vr 52)
              .nil
              (.exit 2)
            (.blk 3
              (.draw
              (.chk (.un (.fa 1) (.vr 15))
              (.chk (.ld (.un (.fa 1) (.vr 15)))
              (.set 56 (.ld (.un (.fa 1) (.vr 15)))
              (.chk (.bn (.ia 1) (.vr 13) (.vr 16))
              (.chk (.ld (.bn (.ia 1) (.vr 13) (.vr 16)))
              (.set 63 (.ld (.bn (.ia 1) (.vr 13) (.vr 16)))
              (.chk (.bn (.ar .add .i64) (.vr 14) (.vr 63))
              (.chk (.sl 1 true (.vr 3) (.vr 14) (.bn (.ar .add .i64) (.vr 14) (.vr 63)))
              (.call (some 66) 64 [(.sl 1 true (.vr 3) (.vr 14) (.bn (.ar .add .i64) (.vr 14) (.vr 63)))] [⟨1, (.un (.fa 1) (.vr 15)), 1, none⟩]
              (.op (some 67) (.buildSlice 22 1 #[(0, (.tmp 66))]) 22 [(66, (.vr 66))] [⟨1, (.un (.fa 1) (.vr 15)), 1, none⟩]
              (.op (some 68) (.call ⟨(.builtin .append), #[(.tmp 56), (.tmp 67)], #[22, 22]⟩) 22 [(56, (.vr 56)), (67, (.vr 67))] []
              (.chk (.un (.fa 1) (.vr 15))
              (.st 1 (.un (.fa 1) (.vr 15)) (.vr 68) []
              (.chk (.bn (.ia 1) (.vr 13) (.vr 16))
              (.chk (.ld (.bn (.ia 1) (.vr 13) (.vr 16)))
              (.chk (.bn (.ar .add .i64) (.vr 14) (.ld (.bn (.ia 1) (.vr 13) (.vr 16))))
              (.set 14 (.bn (.ar .add .i64) (.vr 14) (.ld (.bn (.ia 1) (.vr 13) (.vr 16))))
              .nil))))))))))))))))))
            (.chk (.bn (.ar .add .i64) (.vr 16) (.cn (.int .i64 1)))
            (.set 16 (.bn (.ar .add .i64) (.vr 16) (.cn (.int .i64 1)))
            .nil))))))))
        (.chk (.ldn 2 (.vr 15))
        (.set 76 (.ldn 2 (.vr 15))
        (.call (some 80) 20 [(.vr 76), (.vr 0), (.vr 1), (.vr 3)] []
        (.set 17 (.vr 80)
        (.chk (.bn (.cm .gtr .i64) (.vr 17) (.cn (.int .i64 0)))
        (.chk (.gd (.bn (.cm .gtr .i64) (.vr 17) (.cn (.int .i64 0))) true (.bn (.cm .eql .i64) (.vr 11) (.cn (.int .i64 0))))
        (.chk (.gd (.gd (.bn (.cm .gtr .i64) (.vr 17) (.cn (.int .i64 0))) true (.bn (.cm .eql .i64) (.vr 11) (.cn (.int .i64 0)))) false (.bn (.cm .lss .i64) (.vr 17) (.vr 11)))
        (.set 91 (.and (.bn (.cm .gtr .i64) (.vr 17) (.cn (.int .i64 0))) (.or (.bn (.cm .eql .i64) (.vr 11) (.cn (.int .i64 0))) (.bn (.cm .lss .i64) (.vr 17) (.vr 11))))
        (.ite (.vr 91)
          (.chk (.ldn 2 (.vr 15))
          (.set 92 (.ldn 2 (.vr 15))
          (.st 2 (.vr 10) (.vr 92) []
          (.set 11 (.vr 17)
          .nil))))
          .nil
        .nil)))))))))))))))))
      (.chk (.bn (.ar .add .i64) (.vr 12) (.cn (.int .i64 1)))
      (.set 12 (.bn (.ar .add .i64) (.vr 12) (.cn (.int .i64 1)))
      .nil))))))))
  (.chk (.ldn 2 (.vr 10))
  (.set 94 (.ldn 2 (.vr 10))
  (.st 2 (.vr 8) (.vr 94) []
  (.set 9 (.cn (.int .i64 0))
  .ret))))))))))))))))))))))
def fc40 : Fc := ⟨95, s40, [(.ldn 2 (.vr 8)), (.vr 9)]⟩
theorem c40 : compF Try.prog 40 = some fc40 := by kernel_rfl

/-- kinora/kinoraref2.Width · parameters 1 · 0:l 3:w 4:i -/
def s41 : S :=
  (.set 2 (.cn (.int .i64 0))
  (.set 3 (.cn (.int .i64 0))
  (.set 4 (.cn (.int .i64 0))
  (.blk 0
    (.loop
      (.chk (.un .ln (.vr 0))
      (.chk (.bn (.cm .lss .i64) (.vr 4) (.un .ln (.vr 0)))
      (.set 8 (.bn (.cm .lss .i64) (.vr 4) (.un .ln (.vr 0)))
      (.ite (.vr 8)
        .nil
        (.exit 0)
      (.blk 1
        (.blk 2
          (.loop
            (.chk (.bn (.cm .lss .i64) (.vr 3) (.cn (.int .i64 32)))
            (.set 13 (.bn (.cm .lss .i64) (.vr 3) (.cn (.int .i64 32)))
            (.chk (.gd (.vr 13) true (.bn (.ia 1) (.vr 0) (.vr 4)))
            (.chk (.gd (.vr 13) true (.ld (.bn (.ia 1) (.vr 0) (.vr 4))))
            (.set 17 (.gd (.vr 13) true (.ld (.bn (.ia 1) (.vr 0) (.vr 4))))
            (.chk (.gd (.vr 13) true (.bn (.cm .neq .i64) (.vr 17) (.cn (.int .i64 0))))
            (.chk (.and (.vr 13) (.bn (.cm .neq .i64) (.vr 17) (.cn (.int .i64 0))))
            (.set 20 (.and (.vr 13) (.bn (.cm .neq .i64) (.vr 17) (.cn (.int .i64 0))))
            (.chk (.gd (.vr 20) true (.bn (.ia 1) (.vr 0) (.vr 4)))
            (.chk (.gd (.vr 20) true (.ld (.bn (.ia 1) (.vr 0) (.vr 4))))
            (.set 24 (.gd (.vr 20) true (.ld (.bn (.ia 1) (.vr 0) (.vr 4))))
            (.ifg (.vr 20) true
              (.call (some 26) 65 [(.vr 24), (.vr 3)] []
              .nil)
              (.set 26 (.cn undef)
              .nil)
            (.chk (.gd (.vr 20) true (.un .not (.vr 26)))
            (.chk (.and (.vr 20) (.un .not (.vr 26)))
            (.set 28 (.and (.vr 20) (.un .not (.vr 26)))
            (.ite (.vr 28)
              .nil
              (.exit 2)
            (.blk 3
              (.chk (.bn (.ar .add .i64) (.vr 3) (.cn (.int .i64 1)))
              (.set 3 (.bn (.ar .add .i64) (.vr 3) (.cn (.int .i64 1)))
              .nil))
            .nil))))))))))))))))))
        .nil)
      (.chk (.bn (.ar .add .i64) (.vr 4) (.cn (.int .i64 1)))
      (.set 4 (.bn (.ar .add .i64) (.vr 4) (.cn (.int .i64 1)))
      .nil))))))))
  (.set 2 (.vr 3)
  .ret)))))
def fc41 : Fc := ⟨32, s41, [(.vr 2)]⟩
theorem c41 : compF Try.prog 41 = some fc41 := by kernel_rfl

/-- kinora/parts.row · parameters 2 · 0:n 1:warm -/
def s42 : S :=
  (.set 4 (.cn (.bool false))
  (.chk (.bn (.cm .leq .i64) (.cn (.int .i64 1)) (.vr 0))
  (.chk (.gd (.bn (.cm .leq .i64) (.cn (.int .i64 1)) (.vr 0)) true (.bn (.cm .leq .i64) (.vr 0) (.cn (.int .i64 4096))))
  (.chk (.gd (.and (.bn (.cm .leq .i64) (.cn (.int .i64 1)) (.vr 0)) (.bn (.cm .leq .i64) (.vr 0) (.cn (.int .i64 4096)))) true (.bn (.cm .leq .i64) (.cn (.int .i64 0)) (.vr 1)))
  (.chk (.gd (.and (.and (.bn (.cm .leq .i64) (.cn (.int .i64 1)) (.vr 0)) (.bn (.cm .leq .i64) (.vr 0) (.cn (.int .i64 4096)))) (.bn (.cm .leq .i64) (.cn (.int .i64 0)) (.vr 1))) true (.bn (.cm .leq .i64) (.vr 1) (.vr 0)))
  (.set 4 (.and (.and (.and (.bn (.cm .leq .i64) (.cn (.int .i64 1)) (.vr 0)) (.bn (.cm .leq .i64) (.vr 0) (.cn (.int .i64 4096)))) (.bn (.cm .leq .i64) (.cn (.int .i64 0)) (.vr 1))) (.bn (.cm .leq .i64) (.vr 1) (.vr 0)))
  .ret))))))
def fc42 : Fc := ⟨20, s42, [(.vr 4)]⟩
theorem c42 : compF Try.prog 42 = some fc42 := by kernel_rfl

/-- kinora/kinoraref8.row · parameters 2 · 0:n 1:warm -/
def s43 : S :=
  (.set 4 (.cn (.bool false))
  (.chk (.bn (.cm .geq .i64) (.vr 0) (.cn (.int .i64 1)))
  (.chk (.gd (.bn (.cm .geq .i64) (.vr 0) (.cn (.int .i64 1))) true (.bn (.cm .leq .i64) (.vr 0) (.cn (.int .i64 4096))))
  (.chk (.gd (.and (.bn (.cm .geq .i64) (.vr 0) (.cn (.int .i64 1))) (.bn (.cm .leq .i64) (.vr 0) (.cn (.int .i64 4096)))) true (.bn (.cm .geq .i64) (.vr 1) (.cn (.int .i64 0))))
  (.chk (.gd (.and (.and (.bn (.cm .geq .i64) (.vr 0) (.cn (.int .i64 1))) (.bn (.cm .leq .i64) (.vr 0) (.cn (.int .i64 4096)))) (.bn (.cm .geq .i64) (.vr 1) (.cn (.int .i64 0)))) true (.bn (.cm .leq .i64) (.vr 1) (.vr 0)))
  (.set 4 (.and (.and (.and (.bn (.cm .geq .i64) (.vr 0) (.cn (.int .i64 1))) (.bn (.cm .leq .i64) (.vr 0) (.cn (.int .i64 4096)))) (.bn (.cm .geq .i64) (.vr 1) (.cn (.int .i64 0)))) (.bn (.cm .leq .i64) (.vr 1) (.vr 0)))
  .ret))))))
def fc43 : Fc := ⟨20, s43, [(.vr 4)]⟩
theorem c43 : compF Try.prog 43 = some fc43 := by kernel_rfl

/-- kinora/kinoraref8.parameter · parameters 1 · 0:k -/
def s44 : S :=
  (.set 2 (.cn (.bool false))
  (.chk (.bn (.cm .geq .i64) (.vr 0) (.cn (.int .i64 0)))
  (.chk (.gd (.bn (.cm .geq .i64) (.vr 0) (.cn (.int .i64 0))) true (.bn (.cm .leq .i64) (.vr 0) (.cn (.int .i64 25))))
  (.set 2 (.and (.bn (.cm .geq .i64) (.vr 0) (.cn (.int .i64 0))) (.bn (.cm .leq .i64) (.vr 0) (.cn (.int .i64 25))))
  .ret))))
def fc44 : Fc := ⟨9, s44, [(.vr 2)]⟩
theorem c44 : compF Try.prog 44 = some fc44 := by kernel_rfl

/-- kinora/parts.right · parameters 3 · 0:n 1:warm 2:l 8:x -/
def s45 : S :=
  (.set 6 (.cn (.bool false))
  (.call (some 11) 42 [(.vr 0), (.vr 1)] []
  (.chk (.un .not (.vr 11))
  (.set 13 (.un .not (.vr 11))
  (.chk (.gd (.vr 13) false (.un .ln (.vr 2)))
  (.chk (.gd (.vr 13) false (.bn (.ar .sub .i64) (.vr 0) (.vr 1)))
  (.chk (.or (.vr 13) (.bn (.cm .neq .i64) (.un .ln (.vr 2)) (.bn (.ar .sub .i64) (.vr 0) (.vr 1))))
  (.set 20 (.or (.vr 13) (.bn (.cm .neq .i64) (.un .ln (.vr 2)) (.bn (.ar .sub .i64) (.vr 0) (.vr 1))))
  (.ite (.vr 20)
    (.set 6 (.cn (.bool false))
    .ret)
    .nil
  (.set 21 (.vr 2)
  (.chk (.un .ln (.vr 21))
  (.set 22 (.un .ln (.vr 21))
  (.set 23 (.cn (.int .i64 0))
  (.blk 0
    (.loop
      (.chk (.bn (.cm .lss .i64) (.vr 23) (.vr 22))
      (.set 24 (.bn (.cm .lss .i64) (.vr 23) (.vr 22))
      (.ite (.vr 24)
        .nil
        (.exit 0)
      (.blk 1
        (.chk (.bn (.ia 1) (.vr 21) (.vr 23))
        (.chk (.ld (.bn (.ia 1) (.vr 21) (.vr 23)))
        (.set 8 (.ld (.bn (.ia 1) (.vr 21) (.vr 23)))
        (.chk (.bn (.cm .lss .i64) (.vr 8) (.cn (.int .i64 (-1073741824))))
        (.chk (.gd (.bn (.cm .lss .i64) (.vr 8) (.cn (.int .i64 (-1073741824)))) false (.bn (.cm .geq .i64) (.vr 8) (.cn (.int .i64 1073741824))))
        (.set 32 (.or (.bn (.cm .lss .i64) (.vr 8) (.cn (.int .i64 (-1073741824)))) (.bn (.cm .geq .i64) (.vr 8) (.cn (.int .i64 1073741824))))
        (.ite (.vr 32)
          (.set 6 (.cn (.bool false))
          .ret)
          .nil
        .nil)))))))
      (.chk (.bn (.ar .add .i64) (.vr 23) (.cn (.int .i64 1)))
      (.set 23 (.bn (.ar .add .i64) (.vr 23) (.cn (.int .i64 1)))
      .nil)))))))
  (.set 6 (.cn (.bool true))
  .ret)))))))))))))))
def fc45 : Fc := ⟨34, s45, [(.vr 6)]⟩
theorem c45 : compF Try.prog 45 = some fc45 := by kernel_rfl

/-- kinora/parts.raw · parameters 1 · 0:l -/
def s46 : S :=
  (.set 2 (.cn (.int .i64 0))
  (.call (some 4) 49 [(.vr 0)] []
  (.chk (.un .ln (.vr 0))
  (.chk (.bn (.ar .mul .i64) (.vr 4) (.un .ln (.vr 0)))
  (.set 2 (.bn (.ar .add .i64) (.cn (.int .i64 5)) (.bn (.ar .mul .i64) (.vr 4) (.un .ln (.vr 0))))
  .ret)))))
def fc46 : Fc := ⟨9, s46, [(.vr 2)]⟩
theorem c46 : compF Try.prog 46 = some fc46 := by kernel_rfl

/-- kinora/kinoraref8.partCost · parameters 2 · 0:k 1:l -/
def s47 : S :=
  (.set 4 (.cn (.int .i64 0))
  (.chk (.bn (.cm .eql .i64) (.vr 0) (.cn (.int .i64 31)))
  (.set 6 (.bn (.cm .eql .i64) (.vr 0) (.cn (.int .i64 31)))
  (.ite (.vr 6)
    (.chk (.un .ln (.vr 1))
    (.call (some 10) 41 [(.vr 1)] []
    (.chk (.bn (.ar .mul .i64) (.un .ln (.vr 1)) (.vr 10))
    (.set 4 (.bn (.ar .add .i64) (.cn (.int .i64 5)) (.bn (.ar .mul .i64) (.un .ln (.vr 1)) (.vr 10)))
    .ret))))
    .nil
  (.call (some 15) 66 [(.vr 0), (.vr 1)] []
  (.set 4 (.vr 15)
  .ret))))))
def fc47 : Fc := ⟨16, s47, [(.vr 4)]⟩
theorem c47 : compF Try.prog 47 = some fc47 := by kernel_rfl

/-- kinora/rice.Put · parameters 3 · 0:w 1:k 2:l 8:x 10:x 11:u 12:q -/
def s48 : S :=
  (.set 6 (.cn (.int .i64 0))
  (.call (some 14) 67 [(.vr 1)] []
  (.chk (.un .not (.vr 14))
  (.set 15 (.un .not (.vr 14))
  (.ite (.vr 15)
    (.set 6 (.cn (.int .i64 1))
    .ret)
    .nil
  (.set 16 (.vr 2)
  (.chk (.un .ln (.vr 16))
  (.set 17 (.un .ln (.vr 16))
  (.set 18 (.cn (.int .i64 0))
  (.blk 0
    (.loop
      (.chk (.bn (.cm .lss .i64) (.vr 18) (.vr 17))
      (.set 19 (.bn (.cm .lss .i64) (.vr 18) (.vr 17))
      (.ite (.vr 19)
        .nil
        (.exit 0)
      (.blk 1
        (.chk (.bn (.ia 1) (.vr 16) (.vr 18))
        (.chk (.ld (.bn (.ia 1) (.vr 16) (.vr 18)))
        (.set 8 (.ld (.bn (.ia 1) (.vr 16) (.vr 18)))
        (.call (some 23) 68 [(.vr 8)] []
        (.chk (.un .not (.vr 23))
        (.set 24 (.un .not (.vr 23))
        (.ite (.vr 24)
          (.set 6 (.cn (.int .i64 1))
          .ret)
          .nil
        .nil)))))))
      (.chk (.bn (.ar .add .i64) (.vr 18) (.cn (.int .i64 1)))
      (.set 18 (.bn (.ar .add .i64) (.vr 18) (.cn (.int .i64 1)))
      .nil)))))))
  (.set 26 (.vr 2)
  (.chk (.un .ln (.vr 26))
  (.set 27 (.un .ln (.vr 26))
  (.set 28 (.cn (.int .i64 0))
  (.blk 2
    (.loop
      (.chk (.bn (.cm .lss .i64) (.vr 28) (.vr 27))
      (.set 29 (.bn (.cm .lss .i64) (.vr 28) (.vr 27))
      (.ite (.vr 29)
        .nil
        (.exit 2)
      (.blk 3
        (.chk (.bn (.ia 1) (.vr 26) (.vr 28))
        (.chk (.ld (.bn (.ia 1) (.vr 26) (.vr 28)))
        (.set 10 (.ld (.bn (.ia 1) (.vr 26) (.vr 28)))
        (.call (some 33) 69 [(.vr 10)] []
        (.set 11 (.vr 33)
        (.chk (.bn (.sh false .u64) (.vr 11) (.vr 1))
        (.set 12 (.bn (.sh false .u64) (.vr 11) (.vr 1))
        (.chk (.bn (.cm .lss .u64) (.vr 12) (.cn (.int .u64 32)))
        (.set 38 (.bn (.cm .lss .u64) (.vr 12) (.cn (.int .u64 32)))
        (.ite (.vr 38)
          (.chk (.un (.cv .i64) (.vr 12))
          (.call (some 42) 70 [(.vr 0), (.un (.cv .i64) (.vr 12))] []
          (.chk (.bn (.sh true .u64) (.vr 12) (.vr 1))
          (.chk (.bn (.ar .sub .u64) (.vr 11) (.bn (.sh true .u64) (.vr 12) (.vr 1)))
          (.call (some 50) 38 [(.vr 0), (.bn (.ar .sub .u64) (.vr 11) (.bn (.sh true .u64) (.vr 12) (.vr 1))), (.vr 1)] []
          .nil)))))
          (.call (some 52) 70 [(.vr 0), (.cn (.int .i64 32))] []
          (.call (some 55) 38 [(.vr 0), (.vr 11), (.cn (.int .i64 32))] []
          .nil))
        .nil))))))))))
      (.chk (.bn (.ar .add .i64) (.vr 28) (.cn (.int .i64 1)))
      (.set 28 (.bn (.ar .add .i64) (.vr 28) (.cn (.int .i64 1)))
      .nil)))))))
  (.set 6 (.cn (.int .i64 0))
  .ret))))))))))))))))
def fc48 : Fc := ⟨57, s48, [(.vr 6)]⟩
theorem c48 : compF Try.prog 48 = some fc48 := by kernel_rfl

/-- kinora/sample.Width · parameters 1 · 0:l 3:width 5:x -/
def s49 : S :=
  (.set 2 (.cn (.int .i64 0))
  (.set 3 (.cn (.int .i64 0))
  (.set 6 (.vr 0)
  (.chk (.un .ln (.vr 6))
  (.set 7 (.un .ln (.vr 6))
  (.set 8 (.cn (.int .i64 0))
  (.blk 0
    (.loop
      (.chk (.bn (.cm .lss .i64) (.vr 8) (.vr 7))
      (.set 9 (.bn (.cm .lss .i64) (.vr 8) (.vr 7))
      (.ite (.vr 9)
        .nil
        (.exit 0)
      (.blk 1
        (.chk (.bn (.ia 1) (.vr 6) (.vr 8))
        (.chk (.ld (.bn (.ia 1) (.vr 6) (.vr 8)))
        (.set 5 (.ld (.bn (.ia 1) (.vr 6) (.vr 8)))
        (.blk 2
          (.loop
            (.chk (.bn (.cm .neq .i64) (.vr 5) (.cn (.int .i64 0)))
            (.set 14 (.bn (.cm .neq .i64) (.vr 5) (.cn (.int .i64 0)))
            (.chk (.gd (.vr 14) true (.bn (.cm .lss .i64) (.vr 3) (.cn (.int .i64 32))))
            (.chk (.and (.vr 14) (.bn (.cm .lss .i64) (.vr 3) (.cn (.int .i64 32))))
            (.set 18 (.and (.vr 14) (.bn (.cm .lss .i64) (.vr 3) (.cn (.int .i64 32))))
            (.ifg (.vr 18) true
              (.call (some 21) 71 [(.vr 5), (.vr 3)] []
              .nil)
              (.set 21 (.cn undef)
              .nil)
            (.chk (.gd (.vr 18) true (.un .not (.vr 21)))
            (.chk (.and (.vr 18) (.un .not (.vr 21)))
            (.set 23 (.and (.vr 18) (.un .not (.vr 21)))
            (.ite (.vr 23)
              .nil
              (.exit 2)
            (.blk 3
              (.chk (.bn (.ar .add .i64) (.vr 3) (.cn (.int .i64 1)))
              (.set 3 (.bn (.ar .add .i64) (.vr 3) (.cn (.int .i64 1)))
              .nil))
            .nil))))))))))))
        .nil))))
      (.chk (.bn (.ar .add .i64) (.vr 8) (.cn (.int .i64 1)))
      (.set 8 (.bn (.ar .add .i64) (.vr 8) (.cn (.int .i64 1)))
      .nil)))))))
  (.set 2 (.vr 3)
  .ret))))))))
def fc49 : Fc := ⟨28, s49, [(.vr 2)]⟩
theorem c49 : compF Try.prog 49 = some fc49 := by kernel_rfl

/-- (*kinora/kinoraref2.Writer).Put · parameters 3 · 0:w 1:v 2:n 7:i -/
def s50 : S :=
  (.set 6 (.cn (.int .i64 0))
  (.chk (.bn (.cm .lss .i64) (.vr 2) (.cn (.int .i64 0)))
  (.chk (.gd (.bn (.cm .lss .i64) (.vr 2) (.cn (.int .i64 0))) false (.bn (.cm .gtr .i64) (.vr 2) (.cn (.int .i64 64))))
  (.chk (.gd (.or (.bn (.cm .lss .i64) (.vr 2) (.cn (.int .i64 0))) (.bn (.cm .gtr .i64) (.vr 2) (.cn (.int .i64 64)))) false (.bn (.cm .lss .i64) (.vr 2) (.cn (.int .i64 64))))
  (.chk (.gd (.gd (.or (.bn (.cm .lss .i64) (.vr 2) (.cn (.int .i64 0))) (.bn (.cm .gtr .i64) (.vr 2) (.cn (.int .i64 64)))) false (.bn (.cm .lss .i64) (.vr 2) (.cn (.int .i64 64)))) true (.un (.cv .u64) (.vr 2)))
  (.chk (.gd (.gd (.or (.bn (.cm .lss .i64) (.vr 2) (.cn (.int .i64 0))) (.bn (.cm .gtr .i64) (.vr 2) (.cn (.int .i64 64)))) false (.bn (.cm .lss .i64) (.vr 2) (.cn (.int .i64 64)))) true (.bn (.sh false .u64) (.vr 1) (.un (.cv .u64) (.vr 2))))
  (.set 24 (.or (.or (.bn (.cm .lss .i64) (.vr 2) (.cn (.int .i64 0))) (.bn (.cm .gtr .i64) (.vr 2) (.cn (.int .i64 64)))) (.and (.bn (.cm .lss .i64) (.vr 2) (.cn (.int .i64 64))) (.bn (.cm .neq .u64) (.bn (.sh false .u64) (.vr 1) (.un (.cv .u64) (.vr 2))) (.cn (.int .u64 0)))))
  (.ite (.vr 24)
    (.set 6 (.cn (.int .i64 1))
    .ret)
    .nil
  (.chk (.bn (.ar .sub .i64) (.vr 2) (.cn (.int .i64 1)))
  (.set 7 (.bn (.ar .sub .i64) (.vr 2) (.cn (.int .i64 1)))
  (.blk 0
    (.loop
      (.chk (.bn (.cm .geq .i64) (.vr 7) (.cn (.int .i64 0)))
      (.set 28 (.bn (.cm .geq .i64) (.vr 7) (.cn (.int .i64 0)))
      (.ite (.vr 28)
        .nil
        (.exit 0)
      (.blk 1
        (.chk (.un .nck (.vr 0))
        (.chk (.un (.fa 0) (.un .nck (.vr 0)))
        (.chk (.ld (.un (.fa 0) (.un .nck (.vr 0))))
        (.set 35 (.ld (.un (.fa 0) (.un .nck (.vr 0))))
        (.chk (.un (.cv .u64) (.vr 7))
        (.chk (.bn (.sh false .u64) (.vr 1) (.un (.cv .u64) (.vr 7)))
        (.op (some 42) (.buildSlice 33 1 #[(0, (.tmp 41))]) 33 [(41, (.un (.cv .u8) (.bn (.bt .and .u64) (.bn (.sh false .u64) (.vr 1) (.un (.cv .u64) (.vr 7))) (.cn (.int .u64 1)))))] []
        (.op (some 43) (.call ⟨(.builtin .append), #[(.tmp 35), (.tmp 42)], #[33, 33]⟩) 33 [(35, (.vr 35)), (42, (.vr 42))] []
        (.chk (.un .nck (.vr 0))
        (.chk (.un (.fa 0) (.un .nck (.vr 0)))
        (.st 1 (.un (.fa 0) (.un .nck (.vr 0))) (.vr 43) []
        .nil)))))))))))
      (.chk (.bn (.ar .sub .i64) (.vr 7) (.cn (.int .i64 1)))
      (.set 7 (.bn (.ar .sub .i64) (.vr 7) (.cn (.int .i64 1)))
      .nil)))))))
  (.set 6 (.cn (.int .i64 0))
  .ret))))))))))))
def fc50 : Fc := ⟨46, s50, [(.vr 6)]⟩
theorem c50 : compF Try.prog 50 = some fc50 := by kernel_rfl

/-- kinora/kinoraref8.PutSigned · parameters 3 · 0:w 1:l 2:bits 6:i -/
def s51 : S :=
  (.set 6 (.cn (.int .i64 0))
  (.blk 0
    (.loop
      (.chk (.un .ln (.vr 1))
      (.chk (.bn (.cm .lss .i64) (.vr 6) (.un .ln (.vr 1)))
      (.set 10 (.bn (.cm .lss .i64) (.vr 6) (.un .ln (.vr 1)))
      (.ite (.vr 10)
        .nil
        (.exit 0)
      (.blk 1
        (.chk (.bn (.ia 1) (.vr 1) (.vr 6))
        (.chk (.ld (.bn (.ia 1) (.vr 1) (.vr 6)))
        (.set 17 (.ld (.bn (.ia 1) (.vr 1) (.vr 6)))
        (.chk (.un (.cv .u64) (.vr 17))
        (.chk (.un (.cv .u64) (.vr 2))
        (.chk (.bn (.sh true .u64) (.cn (.int .u64 1)) (.un (.cv .u64) (.vr 2)))
        (.call (some 25) 50 [(.vr 0), (.bn (.bt .and .u64) (.un (.cv .u64) (.vr 17)) (.bn (.ar .sub .u64) (.bn (.sh true .u64) (.cn (.int .u64 1)) (.un (.cv .u64) (.vr 2))) (.cn (.int .u64 1)))), (.vr 2)] []
        .nil)))))))
      (.chk (.bn (.ar .add .i64) (.vr 6) (.cn (.int .i64 1)))
      (.set 6 (.bn (.ar .add .i64) (.vr 6) (.cn (.int .i64 1)))
      .nil))))))))
  .nil))
def fc51 : Fc := ⟨26, s51, []⟩
theorem c51 : compF Try.prog 51 = some fc51 := by kernel_rfl

/-- kinora/kinoraref8.RicePut · parameters 3 · 0:w 1:k 2:l 7:i 8:u 9:q -/
def s52 : S :=
  (.set 6 (.cn (.int .i64 0))
  (.call (some 11) 44 [(.vr 1)] []
  (.chk (.un .not (.vr 11))
  (.set 13 (.un .not (.vr 11))
  (.ifg (.vr 13) false
    (.call (some 15) 28 [(.vr 2)] []
    .nil)
    (.set 15 (.cn undef)
    .nil)
  (.chk (.gd (.vr 13) false (.un .not (.vr 15)))
  (.chk (.or (.vr 13) (.un .not (.vr 15)))
  (.set 17 (.or (.vr 13) (.un .not (.vr 15)))
  (.ite (.vr 17)
    (.set 6 (.cn (.int .i64 1))
    .ret)
    .nil
  (.set 7 (.cn (.int .i64 0))
  (.blk 0
    (.loop
      (.chk (.un .ln (.vr 2))
      (.chk (.bn (.cm .lss .i64) (.vr 7) (.un .ln (.vr 2)))
      (.set 21 (.bn (.cm .lss .i64) (.vr 7) (.un .ln (.vr 2)))
      (.ite (.vr 21)
        .nil
        (.exit 0)
      (.blk 1
        (.chk (.bn (.ia 1) (.vr 2) (.vr 7))
        (.chk (.ld (.bn (.ia 1) (.vr 2) (.vr 7)))
        (.set 27 (.ld (.bn (.ia 1) (.vr 2) (.vr 7)))
        (.call (some 28) 72 [(.vr 27)] []
        (.set 8 (.vr 28)
        (.chk (.un (.cv .u64) (.vr 1))
        (.chk (.bn (.sh false .u64) (.vr 8) (.un (.cv .u64) (.vr 1)))
        (.set 9 (.un (.cv .i64) (.bn (.sh false .u64) (.vr 8) (.un (.cv .u64) (.vr 1))))
        (.chk (.bn (.cm .lss .i64) (.vr 9) (.cn (.int .i64 32)))
        (.set 35 (.bn (.cm .lss .i64) (.vr 9) (.cn (.int .i64 32)))
        (.ite (.vr 35)
          (.call (some 38) 73 [(.vr 0), (.vr 9)] []
          (.chk (.un (.cv .u64) (.vr 1))
          (.chk (.bn (.sh true .u64) (.cn (.int .u64 1)) (.un (.cv .u64) (.vr 1)))
          (.chk (.bn (.bt .and .u64) (.vr 8) (.bn (.ar .sub .u64) (.bn (.sh true .u64) (.cn (.int .u64 1)) (.un (.cv .u64) (.vr 1))) (.cn (.int .u64 1))))
          (.call (some 47) 50 [(.vr 0), (.bn (.bt .and .u64) (.vr 8) (.bn (.ar .sub .u64) (.bn (.sh true .u64) (.cn (.int .u64 1)) (.un (.cv .u64) (.vr 1))) (.cn (.int .u64 1)))), (.vr 1)] []
          .nil)))))
          (.call (some 49) 73 [(.vr 0), (.cn (.int .i64 32))] []
          (.call (some 52) 50 [(.vr 0), (.vr 8), (.cn (.int .i64 32))] []
          .nil))
        .nil)))))))))))
      (.chk (.bn (.ar .add .i64) (.vr 7) (.cn (.int .i64 1)))
      (.set 7 (.bn (.ar .add .i64) (.vr 7) (.cn (.int .i64 1)))
      .nil))))))))
  (.set 6 (.cn (.int .i64 0))
  .ret))))))))))))
def fc52 : Fc := ⟨53, s52, [(.vr 6)]⟩
theorem c52 : compF Try.prog 52 = some fc52 := by kernel_rfl

/-- kinora/kinoraref2.Wide · parameters 1 · 0:x -/
def s53 : S :=
  (.set 2 (.cn (.bool false))
  (.chk (.bn (.cm .geq .i64) (.vr 0) (.cn (.int .i64 (-1073741824))))
  (.chk (.gd (.bn (.cm .geq .i64) (.vr 0) (.cn (.int .i64 (-1073741824)))) true (.bn (.cm .lss .i64) (.vr 0) (.cn (.int .i64 1073741824))))
  (.set 2 (.and (.bn (.cm .geq .i64) (.vr 0) (.cn (.int .i64 (-1073741824)))) (.bn (.cm .lss .i64) (.vr 0) (.cn (.int .i64 1073741824))))
  .ret))))
def fc53 : Fc := ⟨9, s53, [(.vr 2)]⟩
theorem c53 : compF Try.prog 53 = some fc53 := by kernel_rfl

/-- kinora/rice.Cost · parameters 2 · 0:k 1:x 5:q -/
def s54 : S :=
  (.set 4 (.cn (.int .i64 0))
  (.call (some 7) 67 [(.vr 0)] []
  (.chk (.un .not (.vr 7))
  (.set 9 (.un .not (.vr 7))
  (.ifg (.vr 9) false
    (.call (some 11) 68 [(.vr 1)] []
    .nil)
    (.set 11 (.cn undef)
    .nil)
  (.chk (.gd (.vr 9) false (.un .not (.vr 11)))
  (.chk (.or (.vr 9) (.un .not (.vr 11)))
  (.set 13 (.or (.vr 9) (.un .not (.vr 11)))
  (.ite (.vr 13)
    (.set 4 (.cn (.int .i64 0))
    .ret)
    .nil
  (.call (some 15) 69 [(.vr 1)] []
  (.chk (.bn (.sh false .u64) (.vr 15) (.vr 0))
  (.set 5 (.un (.cv .i64) (.bn (.sh false .u64) (.vr 15) (.vr 0)))
  (.chk (.bn (.cm .lss .i64) (.vr 5) (.cn (.int .i64 32)))
  (.set 20 (.bn (.cm .lss .i64) (.vr 5) (.cn (.int .i64 32)))
  (.ite (.vr 20)
    (.chk (.bn (.ar .add .i64) (.vr 5) (.cn (.int .i64 1)))
    (.chk (.bn (.ar .add .i64) (.bn (.ar .add .i64) (.vr 5) (.cn (.int .i64 1))) (.vr 0))
    (.set 4 (.bn (.ar .add .i64) (.bn (.ar .add .i64) (.vr 5) (.cn (.int .i64 1))) (.vr 0))
    .ret)))
    .nil
  (.set 4 (.cn (.int .i64 65))
  .ret))))))))))))))))
def fc54 : Fc := ⟨25, s54, [(.vr 4)]⟩
theorem c54 : compF Try.prog 54 = some fc54 := by kernel_rfl

/-- (*kinora/bits.Reader).Left · parameters 1 · 0:r -/
def s55 : S :=
  (.set 2 (.cn (.int .i64 0))
  (.draw
  (.chk (.un .nck (.vr 0))
  (.chk (.un (.fa 0) (.un .nck (.vr 0)))
  (.chk (.ld (.un (.fa 0) (.un .nck (.vr 0))))
  (.chk (.un .ln (.ld (.un (.fa 0) (.un .nck (.vr 0)))))
  (.chk (.un .nck (.vr 0))
  (.chk (.un (.fa 1) (.un .nck (.vr 0)))
  (.chk (.ld (.un (.fa 1) (.un .nck (.vr 0))))
  (.chk (.bn (.ar .sub .i64) (.bn (.ar .mul .i64) (.cn (.int .i64 8)) (.un .ln (.ld (.un (.fa 0) (.un .nck (.vr 0)))))) (.ld (.un (.fa 1) (.un .nck (.vr 0)))))
  (.set 2 (.bn (.ar .sub .i64) (.bn (.ar .mul .i64) (.cn (.int .i64 8)) (.un .ln (.ld (.un (.fa 0) (.un .nck (.vr 0)))))) (.ld (.un (.fa 1) (.un .nck (.vr 0)))))
  .ret)))))))))))
def fc55 : Fc := ⟨14, s55, [(.vr 2)]⟩
theorem c55 : compF Try.prog 55 = some fc55 := by kernel_rfl

/-- (*kinora/bits.Reader).look · parameters 2 · 0:r 1:i -/
def s56 : S :=
  (.set 4 (.cn (.int .u8 0))
  (.chk (.un .nck (.vr 0))
  (.chk (.un (.fa 0) (.un .nck (.vr 0)))
  (.chk (.ld (.un (.fa 0) (.un .nck (.vr 0))))
  (.chk (.bn (.dv false .i64) (.vr 1) (.cn (.int .i64 8)))
  (.chk (.bn (.ia 1) (.ld (.un (.fa 0) (.un .nck (.vr 0)))) (.bn (.dv false .i64) (.vr 1) (.cn (.int .i64 8))))
  (.chk (.ld (.bn (.ia 1) (.ld (.un (.fa 0) (.un .nck (.vr 0)))) (.bn (.dv false .i64) (.vr 1) (.cn (.int .i64 8)))))
  (.chk (.bn (.dv true .i64) (.vr 1) (.cn (.int .i64 8)))
  (.chk (.bn (.sh false .u8) (.ld (.bn (.ia 1) (.ld (.un (.fa 0) (.un .nck (.vr 0)))) (.bn (.dv false .i64) (.vr 1) (.cn (.int .i64 8))))) (.bn (.ar .sub .i64) (.cn (.int .i64 7)) (.bn (.dv true .i64) (.vr 1) (.cn (.int .i64 8)))))
  (.set 4 (.bn (.bt .and .u8) (.bn (.sh false .u8) (.ld (.bn (.ia 1) (.ld (.un (.fa 0) (.un .nck (.vr 0)))) (.bn (.dv false .i64) (.vr 1) (.cn (.int .i64 8))))) (.bn (.ar .sub .i64) (.cn (.int .i64 7)) (.bn (.dv true .i64) (.vr 1) (.cn (.int .i64 8))))) (.cn (.int .u8 1)))
  .ret))))))))))
def fc56 : Fc := ⟨18, s56, [(.vr 4)]⟩
theorem c56 : compF Try.prog 56 = some fc56 := by kernel_rfl

/-- (*kinora/kinoraref2.Reader).Left · parameters 1 · 0:r -/
def s57 : S :=
  (.set 2 (.cn (.int .i64 0))
  (.draw
  (.chk (.un .nck (.vr 0))
  (.chk (.un (.fa 0) (.un .nck (.vr 0)))
  (.chk (.ld (.un (.fa 0) (.un .nck (.vr 0))))
  (.chk (.un .ln (.ld (.un (.fa 0) (.un .nck (.vr 0)))))
  (.chk (.un .nck (.vr 0))
  (.chk (.un (.fa 1) (.un .nck (.vr 0)))
  (.chk (.ld (.un (.fa 1) (.un .nck (.vr 0))))
  (.chk (.bn (.ar .sub .i64) (.bn (.ar .mul .i64) (.cn (.int .i64 8)) (.un .ln (.ld (.un (.fa 0) (.un .nck (.vr 0)))))) (.ld (.un (.fa 1) (.un .nck (.vr 0)))))
  (.set 2 (.bn (.ar .sub .i64) (.bn (.ar .mul .i64) (.cn (.int .i64 8)) (.un .ln (.ld (.un (.fa 0) (.un .nck (.vr 0)))))) (.ld (.un (.fa 1) (.un .nck (.vr 0)))))
  .ret)))))))))))
def fc57 : Fc := ⟨14, s57, [(.vr 2)]⟩
theorem c57 : compF Try.prog 57 = some fc57 := by kernel_rfl

/-- (*kinora/kinoraref2.Reader).bit · parameters 2 · 0:r 1:at -/
def s58 : S :=
  (.set 4 (.cn (.int .u64 0))
  (.chk (.un .nck (.vr 0))
  (.chk (.un (.fa 0) (.un .nck (.vr 0)))
  (.chk (.ld (.un (.fa 0) (.un .nck (.vr 0))))
  (.chk (.bn (.dv false .i64) (.vr 1) (.cn (.int .i64 8)))
  (.chk (.bn (.ia 1) (.ld (.un (.fa 0) (.un .nck (.vr 0)))) (.bn (.dv false .i64) (.vr 1) (.cn (.int .i64 8))))
  (.chk (.ld (.bn (.ia 1) (.ld (.un (.fa 0) (.un .nck (.vr 0)))) (.bn (.dv false .i64) (.vr 1) (.cn (.int .i64 8)))))
  (.chk (.bn (.dv true .i64) (.vr 1) (.cn (.int .i64 8)))
  (.chk (.bn (.sh false .u8) (.ld (.bn (.ia 1) (.ld (.un (.fa 0) (.un .nck (.vr 0)))) (.bn (.dv false .i64) (.vr 1) (.cn (.int .i64 8))))) (.un (.cv .u64) (.bn (.ar .sub .i64) (.cn (.int .i64 7)) (.bn (.dv true .i64) (.vr 1) (.cn (.int .i64 8))))))
  (.set 4 (.un (.cv .u64) (.bn (.bt .and .u8) (.bn (.sh false .u8) (.ld (.bn (.ia 1) (.ld (.un (.fa 0) (.un .nck (.vr 0)))) (.bn (.dv false .i64) (.vr 1) (.cn (.int .i64 8))))) (.un (.cv .u64) (.bn (.ar .sub .i64) (.cn (.int .i64 7)) (.bn (.dv true .i64) (.vr 1) (.cn (.int .i64 8)))))) (.cn (.int .u8 1))))
  .ret))))))))))
def fc58 : Fc := ⟨20, s58, [(.vr 4)]⟩
theorem c58 : compF Try.prog 58 = some fc58 := by kernel_rfl

/-- (*kinora/bits.Reader).Err · parameters 1 · 0:r -/
def s59 : S :=
  (.set 2 (.cn (.int .i64 0))
  (.chk (.un .nck (.vr 0))
  (.chk (.un (.fa 2) (.un .nck (.vr 0)))
  (.chk (.ld (.un (.fa 2) (.un .nck (.vr 0))))
  (.set 2 (.ld (.un (.fa 2) (.un .nck (.vr 0))))
  .ret)))))
def fc59 : Fc := ⟨7, s59, [(.vr 2)]⟩
theorem c59 : compF Try.prog 59 = some fc59 := by kernel_rfl

/-- kinora/parts.one · parameters 2 · 0:r 1:size 7:k 8:l 9:err 10:width 11:l -/
def s60 : S :=
  (.set 4 (.cn (.int .i64 0))
  (.set 5 (.cn (.slice none 0 0))
  (.set 6 (.cn (.int .i64 0))
  (.call (some 13) 32 [(.vr 0), (.cn (.int .i64 5))] []
  (.chk (.un (.cv .i64) (.vr 13))
  (.set 7 (.un (.cv .i64) (.vr 13))
  (.call (some 16) 59 [(.vr 0)] []
  (.chk (.bn (.cm .neq .i64) (.vr 16) (.cn (.int .i64 0)))
  (.set 17 (.bn (.cm .neq .i64) (.vr 16) (.cn (.int .i64 0)))
  (.ite (.vr 17)
    (.call (some 19) 59 [(.vr 0)] []
    (.set 4 (.cn (.int .i64 0))
    (.set 5 (.cn (.slice none 0 0))
    (.set 6 (.vr 19)
    .ret))))
    .nil
  (.chk (.bn (.cm .leq .i64) (.vr 7) (.cn (.int .i64 25)))
  (.set 21 (.bn (.cm .leq .i64) (.vr 7) (.cn (.int .i64 25)))
  (.ite (.vr 21)
    (.call (some 26) 74 [(.vr 0), (.vr 7), (.vr 1)] []
    (.chk (.un (.ex 0) (.vr 26))
    (.chk (.un (.ex 1) (.vr 26))
    (.set 8 (.un (.ex 0) (.vr 26))
    (.set 9 (.un (.ex 1) (.vr 26))
    (.set 4 (.vr 7)
    (.set 5 (.vr 8)
    (.set 6 (.vr 9)
    .ret))))))))
    .nil
  (.chk (.bn (.cm .neq .i64) (.vr 7) (.cn (.int .i64 31)))
  (.set 33 (.bn (.cm .neq .i64) (.vr 7) (.cn (.int .i64 31)))
  (.ite (.vr 33)
    (.set 4 (.cn (.int .i64 0))
    (.set 5 (.cn (.slice none 0 0))
    (.set 6 (.cn (.int .i64 2))
    .ret)))
    .nil
  (.call (some 35) 32 [(.vr 0), (.cn (.int .i64 5))] []
  (.chk (.un (.cv .i64) (.vr 35))
  (.set 10 (.un (.cv .i64) (.vr 35))
  (.set 11 (.cn (.slice none 0 0))
  (.set 37 (.vr 1)
  (.set 38 (.cn (.int .i64 0))
  (.blk 0
    (.loop
      (.chk (.bn (.cm .lss .i64) (.vr 38) (.vr 37))
      (.set 39 (.bn (.cm .lss .i64) (.vr 38) (.vr 37))
      (.ite (.vr 39)
        .nil
        (.exit 0)
      (.blk 1
        (.call (some 43) 75 [(.vr 0), (.vr 10)] []
        (.op (some 44) (.buildSlice 22 1 #[(0, (.tmp 43))]) 22 [(43, (.vr 43))] []
        (.op (some 45) (.call ⟨(.builtin .append), #[(.tmp 40), (.tmp 44)], #[22, 22]⟩) 22 [(40, (.vr 11)), (44, (.vr 44))] []
        (.set 11 (.vr 45)
        .nil))))
      (.chk (.bn (.ar .add .i64) (.vr 38) (.cn (.int .i64 1)))
      (.set 38 (.bn (.ar .add .i64) (.vr 38) (.cn (.int .i64 1)))
      .nil)))))))
  (.call (some 48) 59 [(.vr 0)] []
  (.chk (.bn (.cm .neq .i64) (.vr 48) (.cn (.int .i64 0)))
  (.set 49 (.bn (.cm .neq .i64) (.vr 48) (.cn (.int .i64 0)))
  (.ite (.vr 49)
    (.call (some 51) 59 [(.vr 0)] []
    (.set 4 (.cn (.int .i64 0))
    (.set 5 (.cn (.slice none 0 0))
    (.set 6 (.vr 51)
    .ret))))
    .nil
  (.call (some 53) 49 [(.vr 11)] []
  (.chk (.bn (.cm .neq .i64) (.vr 53) (.vr 10))
  (.set 55 (.bn (.cm .neq .i64) (.vr 53) (.vr 10))
  (.ite (.vr 55)
    (.set 4 (.cn (.int .i64 0))
    (.set 5 (.cn (.slice none 0 0))
    (.set 6 (.cn (.int .i64 2))
    .ret)))
    .nil
  (.set 4 (.vr 7)
  (.set 5 (.vr 11)
  (.set 6 (.cn (.int .i64 0))
  .ret))))))))))))))))))))))))))))))))))
def fc60 : Fc := ⟨58, s60, [(.vr 4), (.vr 5), (.vr 6)]⟩
theorem c60 : compF Try.prog 60 = some fc60 := by kernel_rfl

/-- kinora/kinoraref8.part · parameters 3 · 0:r 1:k 2:n 8:b 9:l -/
def s61 : S :=
  (.set 6 (.cn (.slice none 0 0))
  (.set 7 (.cn (.int .i64 0))
  (.chk (.bn (.cm .neq .i64) (.vr 1) (.cn (.int .i64 31)))
  (.set 11 (.bn (.cm .neq .i64) (.vr 1) (.cn (.int .i64 31)))
  (.ite (.vr 11)
    (.call (some 13) 44 [(.vr 1)] []
    (.chk (.un .not (.vr 13))
    (.set 14 (.un .not (.vr 13))
    (.ite (.vr 14)
      (.set 6 (.cn (.slice none 0 0))
      (.set 7 (.cn (.int .i64 2))
      .ret))
      .nil
    (.call (some 18) 76 [(.vr 0), (.vr 1), (.vr 2)] []
    (.chk (.un (.ex 0) (.vr 18))
    (.chk (.un (.ex 1) (.vr 18))
    (.set 6 (.un (.ex 0) (.vr 18))
    (.set 7 (.un (.ex 1) (.vr 18))
    .ret)))))))))
    .nil
  (.call (some 22) 33 [(.vr 0), (.cn (.int .i64 5))] []
  (.chk (.un (.cv .i64) (.vr 22))
  (.set 8 (.un (.cv .i64) (.vr 22))
  (.call (some 27) 77 [(.vr 0), (.vr 2), (.vr 8)] []
  (.set 9 (.vr 27)
  (.chk (.un .nck (.vr 0))
  (.chk (.un (.fa 2) (.un .nck (.vr 0)))
  (.chk (.ld (.un (.fa 2) (.un .nck (.vr 0))))
  (.chk (.bn (.cm .neq .i64) (.ld (.un (.fa 2) (.un .nck (.vr 0)))) (.cn (.int .i64 0)))
  (.set 32 (.bn (.cm .neq .i64) (.ld (.un (.fa 2) (.un .nck (.vr 0)))) (.cn (.int .i64 0)))
  (.ite (.vr 32)
    (.draw
    (.chk (.un .nck (.vr 0))
    (.chk (.un (.fa 2) (.un .nck (.vr 0)))
    (.chk (.ld (.un (.fa 2) (.un .nck (.vr 0))))
    (.set 6 (.cn (.slice none 0 0))
    (.set 7 (.ld (.un (.fa 2) (.un .nck (.vr 0))))
    .ret))))))
    .nil
  (.call (some 38) 41 [(.vr 9)] []
  (.chk (.bn (.cm .neq .i64) (.vr 38) (.vr 8))
  (.set 40 (.bn (.cm .neq .i64) (.vr 38) (.vr 8))
  (.ite (.vr 40)
    (.set 6 (.cn (.slice none 0 0))
    (.set 7 (.cn (.int .i64 2))
    .ret))
    .nil
  (.set 6 (.vr 9)
  (.set 7 (.cn (.int .i64 0))
  .ret))))))))))))))))))))))
def fc61 : Fc := ⟨42, s61, [(.vr 6), (.vr 7)]⟩
theorem c61 : compF Try.prog 61 = some fc61 := by kernel_rfl

/-- (*kinora/bits.Writer).bit · parameters 2 · 0:w 1:b -/
def s62 : S :=
  (.chk (.un .nck (.vr 0))
  (.chk (.un (.fa 1) (.un .nck (.vr 0)))
  (.chk (.ld (.un (.fa 1) (.un .nck (.vr 0))))
  (.chk (.bn (.dv true .i64) (.ld (.un (.fa 1) (.un .nck (.vr 0)))) (.cn (.int .i64 8)))
  (.set 9 (.bn (.cm .eql .i64) (.bn (.dv true .i64) (.ld (.un (.fa 1) (.un .nck (.vr 0)))) (.cn (.int .i64 8))) (.cn (.int .i64 0)))
  (.ite (.vr 9)
    (.chk (.un .nck (.vr 0))
    (.chk (.un (.fa 0) (.un .nck (.vr 0)))
    (.chk (.ld (.un (.fa 0) (.un .nck (.vr 0))))
    (.set 14 (.ld (.un (.fa 0) (.un .nck (.vr 0))))
    (.op (some 15) (.buildSlice 33 1 #[(0, (.const (.int .u8 0)))]) 33 [] []
    (.op (some 16) (.call ⟨(.builtin .append), #[(.tmp 14), (.tmp 15)], #[33, 33]⟩) 33 [(14, (.vr 14)), (15, (.vr 15))] []
    (.chk (.un .nck (.vr 0))
    (.chk (.un (.fa 0) (.un .nck (.vr 0)))
    (.st 1 (.un (.fa 0) (.un .nck (.vr 0))) (.vr 16) []
    .nil)))))))))
    .nil
  (.draw
  (.chk (.un .nck (.vr 0))
  (.chk (.un (.fa 0) (.un .nck (.vr 0)))
  (.chk (.ld (.un (.fa 0) (.un .nck (.vr 0))))
  (.set 22 (.ld (.un (.fa 0) (.un .nck (.vr 0))))
  (.chk (.un .nck (.vr 0))
  (.chk (.un (.fa 1) (.un .nck (.vr 0)))
  (.chk (.ld (.un (.fa 1) (.un .nck (.vr 0))))
  (.set 26 (.ld (.un (.fa 1) (.un .nck (.vr 0))))
  (.chk (.bn (.dv false .i64) (.vr 26) (.cn (.int .i64 8)))
  (.chk (.bn (.ia 1) (.vr 22) (.bn (.dv false .i64) (.vr 26) (.cn (.int .i64 8))))
  (.chk (.ld (.bn (.ia 1) (.vr 22) (.bn (.dv false .i64) (.vr 26) (.cn (.int .i64 8)))))
  (.set 29 (.ld (.bn (.ia 1) (.vr 22) (.bn (.dv false .i64) (.vr 26) (.cn (.int .i64 8)))))
  (.chk (.un .nck (.vr 0))
  (.chk (.un (.fa 1) (.un .nck (.vr 0)))
  (.chk (.ld (.un (.fa 1) (.un .nck (.vr 0))))
  (.set 34 (.ld (.un (.fa 1) (.un .nck (.vr 0))))
  (.chk (.bn (.dv true .i64) (.vr 34) (.cn (.int .i64 8)))
  (.chk (.bn (.sh true .u8) (.vr 1) (.bn (.ar .sub .i64) (.cn (.int .i64 7)) (.bn (.dv true .i64) (.vr 34) (.cn (.int .i64 8)))))
  (.chk (.bn (.bt .or .u8) (.vr 29) (.bn (.sh true .u8) (.vr 1) (.bn (.ar .sub .i64) (.cn (.int .i64 7)) (.bn (.dv true .i64) (.vr 34) (.cn (.int .i64 8))))))
  (.chk (.bn (.ia 1) (.vr 22) (.bn (.dv false .i64) (.vr 26) (.cn (.int .i64 8))))
  (.st 1 (.bn (.ia 1) (.vr 22) (.bn (.dv false .i64) (.vr 26) (.cn (.int .i64 8)))) (.bn (.bt .or .u8) (.vr 29) (.bn (.sh true .u8) (.vr 1) (.bn (.ar .sub .i64) (.cn (.int .i64 7)) (.bn (.dv true .i64) (.vr 34) (.cn (.int .i64 8)))))) []
  (.chk (.un .nck (.vr 0))
  (.chk (.un (.fa 1) (.un .nck (.vr 0)))
  (.chk (.ld (.un (.fa 1) (.un .nck (.vr 0))))
  (.set 43 (.ld (.un (.fa 1) (.un .nck (.vr 0))))
  (.chk (.bn (.ar .add .i64) (.vr 43) (.cn (.int .i64 1)))
  (.chk (.un .nck (.vr 0))
  (.chk (.un (.fa 1) (.un .nck (.vr 0)))
  (.st 1 (.un (.fa 1) (.un .nck (.vr 0))) (.bn (.ar .add .i64) (.vr 43) (.cn (.int .i64 1))) []
  .nil))))))))))))))))))))))))))))))))))))
def fc62 : Fc := ⟨47, s62, []⟩
theorem c62 : compF Try.prog 62 = some fc62 := by kernel_rfl

/-- kinora/parts.choose · parameters 1 · 0:part 3:k -/
def s63 : S :=
  (.set 2 (.cn (.int .i64 0))
  (.call (some 5) 78 [(.vr 0)] []
  (.set 3 (.vr 5)
  (.call (some 7) 46 [(.vr 0)] []
  (.call (some 10) 29 [(.vr 3), (.vr 0)] []
  (.chk (.bn (.cm .lss .i64) (.vr 7) (.vr 10))
  (.set 11 (.bn (.cm .lss .i64) (.vr 7) (.vr 10))
  (.ite (.vr 11)
    (.set 2 (.cn (.int .i64 31))
    .ret)
    .nil
  (.set 2 (.vr 3)
  .ret)))))))))
def fc63 : Fc := ⟨13, s63, [(.vr 2)]⟩
theorem c63 : compF Try.prog 63 = some fc63 := by kernel_rfl

/-- kinora/kinoraref8.bestK · parameters 1 · 0:l 3:k -/
def s64 : S :=
  (.set 2 (.cn (.int .i64 0))
  (.call (some 5) 79 [(.vr 0)] []
  (.set 3 (.vr 5)
  (.call (some 7) 47 [(.cn (.int .i64 31)), (.vr 0)] []
  (.call (some 10) 66 [(.vr 3), (.vr 0)] []
  (.chk (.bn (.cm .lss .i64) (.vr 7) (.vr 10))
  (.set 11 (.bn (.cm .lss .i64) (.vr 7) (.vr 10))
  (.ite (.vr 11)
    (.set 2 (.cn (.int .i64 31))
    .ret)
    .nil
  (.set 2 (.vr 3)
  .ret)))))))))
def fc64 : Fc := ⟨13, s64, [(.vr 2)]⟩
theorem c64 : compF Try.prog 64 = some fc64 := by kernel_rfl

/-- kinora/kinoraref2.Fits · parameters 2 · 0:x 1:bits -/
def s65 : S :=
  (.set 4 (.cn (.bool false))
  (.chk (.bn (.cm .geq .i64) (.vr 1) (.cn (.int .i64 1)))
  (.set 7 (.bn (.cm .geq .i64) (.vr 1) (.cn (.int .i64 1)))
  (.chk (.gd (.vr 7) true (.bn (.cm .leq .i64) (.vr 1) (.cn (.int .i64 31))))
  (.chk (.and (.vr 7) (.bn (.cm .leq .i64) (.vr 1) (.cn (.int .i64 31))))
  (.set 11 (.and (.vr 7) (.bn (.cm .leq .i64) (.vr 1) (.cn (.int .i64 31))))
  (.ifg (.vr 11) true
    (.call (some 14) 80 [(.vr 1)] []
    .nil)
    (.set 14 (.cn undef)
    .nil)
  (.chk (.gd (.vr 11) true (.bn (.cm .geq .i64) (.vr 0) (.vr 14)))
  (.chk (.and (.vr 11) (.bn (.cm .geq .i64) (.vr 0) (.vr 14)))
  (.set 17 (.and (.vr 11) (.bn (.cm .geq .i64) (.vr 0) (.vr 14)))
  (.ifg (.vr 17) true
    (.call (some 20) 81 [(.vr 1)] []
    .nil)
    (.set 20 (.cn undef)
    .nil)
  (.chk (.gd (.vr 17) true (.bn (.cm .leq .i64) (.vr 0) (.vr 20)))
  (.chk (.and (.vr 17) (.bn (.cm .leq .i64) (.vr 0) (.vr 20)))
  (.set 4 (.and (.vr 17) (.bn (.cm .leq .i64) (.vr 0) (.vr 20)))
  .ret))))))))))))))
def fc65 : Fc := ⟨23, s65, [(.vr 4)]⟩
theorem c65 : compF Try.prog 65 = some fc65 := by kernel_rfl

/-- kinora/kinoraref8.RiceSum · parameters 2 · 0:k 1:l 5:n 6:i -/
def s66 : S :=
  (.set 4 (.cn (.int .i64 0))
  (.set 5 (.cn (.int .i64 0))
  (.set 6 (.cn (.int .i64 0))
  (.blk 0
    (.loop
      (.chk (.un .ln (.vr 1))
      (.chk (.bn (.cm .lss .i64) (.vr 6) (.un .ln (.vr 1)))
      (.set 10 (.bn (.cm .lss .i64) (.vr 6) (.un .ln (.vr 1)))
      (.ite (.vr 10)
        .nil
        (.exit 0)
      (.blk 1
        (.chk (.bn (.ia 1) (.vr 1) (.vr 6))
        (.chk (.ld (.bn (.ia 1) (.vr 1) (.vr 6)))
        (.set 18 (.ld (.bn (.ia 1) (.vr 1) (.vr 6)))
        (.call (some 19) 82 [(.vr 0), (.vr 18)] []
        (.chk (.bn (.ar .add .i64) (.vr 5) (.vr 19))
        (.set 5 (.bn (.ar .add .i64) (.vr 5) (.vr 19))
        .nil))))))
      (.chk (.bn (.ar .add .i64) (.vr 6) (.cn (.int .i64 1)))
      (.set 6 (.bn (.ar .add .i64) (.vr 6) (.cn (.int .i64 1)))
      .nil))))))))
  (.set 4 (.vr 5)
  .ret)))))
def fc66 : Fc := ⟨22, s66, [(.vr 4)]⟩
theorem c66 : compF Try.prog 66 = some fc66 := by kernel_rfl

/-- kinora/rice.parameter · parameters 1 · 0:k -/
def s67 : S :=
  (.set 2 (.cn (.bool false))
  (.chk (.bn (.cm .leq .i64) (.cn (.int .i64 0)) (.vr 0))
  (.chk (.gd (.bn (.cm .leq .i64) (.cn (.int .i64 0)) (.vr 0)) true (.bn (.cm .leq .i64) (.vr 0) (.cn (.int .i64 25))))
  (.set 2 (.and (.bn (.cm .leq .i64) (.cn (.int .i64 0)) (.vr 0)) (.bn (.cm .leq .i64) (.vr 0) (.cn (.int .i64 25))))
  .ret))))
def fc67 : Fc := ⟨9, s67, [(.vr 2)]⟩
theorem c67 : compF Try.prog 67 = some fc67 := by kernel_rfl

/-- kinora/rice.wide · parameters 1 · 0:x -/
def s68 : S :=
  (.set 2 (.cn (.bool false))
  (.chk (.bn (.cm .leq .i64) (.cn (.int .i64 (-1073741824))) (.vr 0))
  (.chk (.gd (.bn (.cm .leq .i64) (.cn (.int .i64 (-1073741824))) (.vr 0)) true (.bn (.cm .lss .i64) (.vr 0) (.cn (.int .i64 1073741824))))
  (.set 2 (.and (.bn (.cm .leq .i64) (.cn (.int .i64 (-1073741824))) (.vr 0)) (.bn (.cm .lss .i64) (.vr 0) (.cn (.int .i64 1073741824))))
  .ret))))
def fc68 : Fc := ⟨9, s68, [(.vr 2)]⟩
theorem c68 : compF Try.prog 68 = some fc68 := by kernel_rfl

/-- kinora/rice.Fold · parameters 1 · 0:x -/
def s69 : S :=
  (.set 2 (.cn (.int .u64 0))
  (.blk 0
    (.call (some 5) 68 [(.vr 0)] []
    (.chk (.un .not (.vr 5))
    (.set 3 (.un .not (.vr 5))
    (.ite (.vr 3)
      (.set 2 (.cn (.int .u64 0))
      .ret)
      (.chk (.bn (.cm .geq .i64) (.vr 0) (.cn (.int .i64 0)))
      (.set 7 (.bn (.cm .geq .i64) (.vr 0) (.cn (.int .i64 0)))
      (.ite (.vr 7)
        (.chk (.bn (.ar .mul .i64) (.cn (.int .i64 2)) (.vr 0))
        (.set 2 (.un (.cv .u64) (.bn (.ar .mul .i64) (.cn (.int .i64 2)) (.vr 0)))
        .ret))
        .nil
      .nil)))
    .nil))))
  (.chk (.bn (.ar .mul .i64) (.cn (.int .i64 (-2))) (.vr 0))
  (.set 2 (.un (.cv .u64) (.bn (.ar .sub .i64) (.bn (.ar .mul .i64) (.cn (.int .i64 (-2))) (.vr 0)) (.cn (.int .i64 1))))
  .ret))))
def fc69 : Fc := ⟨17, s69, [(.vr 2)]⟩
theorem c69 : compF Try.prog 69 = some fc69 := by kernel_rfl

/-- (*kinora/bits.Writer).Unary · parameters 2 · 0:w 1:n -/
def s70 : S :=
  (.set 4 (.cn (.int .i64 0))
  (.chk (.bn (.cm .lss .i64) (.vr 1) (.cn (.int .i64 0)))
  (.chk (.gd (.bn (.cm .lss .i64) (.vr 1) (.cn (.int .i64 0))) false (.bn (.cm .gtr .i64) (.vr 1) (.cn (.int .i64 4096))))
  (.set 10 (.or (.bn (.cm .lss .i64) (.vr 1) (.cn (.int .i64 0))) (.bn (.cm .gtr .i64) (.vr 1) (.cn (.int .i64 4096))))
  (.ite (.vr 10)
    (.set 4 (.cn (.int .i64 1))
    .ret)
    .nil
  (.set 11 (.vr 1)
  (.set 12 (.cn (.int .i64 0))
  (.blk 0
    (.loop
      (.chk (.bn (.cm .lss .i64) (.vr 12) (.vr 11))
      (.set 13 (.bn (.cm .lss .i64) (.vr 12) (.vr 11))
      (.ite (.vr 13)
        .nil
        (.exit 0)
      (.blk 1
        (.call (some 15) 62 [(.vr 0), (.cn (.int .u8 0))] []
        .nil)
      (.chk (.bn (.ar .add .i64) (.vr 12) (.cn (.int .i64 1)))
      (.set 12 (.bn (.ar .add .i64) (.vr 12) (.cn (.int .i64 1)))
      .nil)))))))
  (.call (some 18) 62 [(.vr 0), (.cn (.int .u8 1))] []
  (.set 4 (.cn (.int .i64 0))
  .ret))))))))))
def fc70 : Fc := ⟨19, s70, [(.vr 4)]⟩
theorem c70 : compF Try.prog 70 = some fc70 := by kernel_rfl

/-- kinora/sample.Fits · parameters 2 · 0:x 1:bits -/
def s71 : S :=
  (.set 4 (.cn (.bool false))
  (.chk (.bn (.cm .geq .i64) (.vr 1) (.cn (.int .i64 1)))
  (.set 7 (.bn (.cm .geq .i64) (.vr 1) (.cn (.int .i64 1)))
  (.chk (.gd (.vr 7) true (.bn (.cm .leq .i64) (.vr 1) (.cn (.int .i64 31))))
  (.chk (.and (.vr 7) (.bn (.cm .leq .i64) (.vr 1) (.cn (.int .i64 31))))
  (.set 11 (.and (.vr 7) (.bn (.cm .leq .i64) (.vr 1) (.cn (.int .i64 31))))
  (.ifg (.vr 11) true
    (.call (some 13) 83 [(.vr 1)] []
    .nil)
    (.set 13 (.cn undef)
    .nil)
  (.chk (.gd (.vr 11) true (.bn (.cm .leq .i64) (.vr 13) (.vr 0)))
  (.chk (.and (.vr 11) (.bn (.cm .leq .i64) (.vr 13) (.vr 0)))
  (.set 17 (.and (.vr 11) (.bn (.cm .leq .i64) (.vr 13) (.vr 0)))
  (.ifg (.vr 17) true
    (.call (some 20) 84 [(.vr 1)] []
    .nil)
    (.set 20 (.cn undef)
    .nil)
  (.chk (.gd (.vr 17) true (.bn (.cm .leq .i64) (.vr 0) (.vr 20)))
  (.chk (.and (.vr 17) (.bn (.cm .leq .i64) (.vr 0) (.vr 20)))
  (.set 4 (.and (.vr 17) (.bn (.cm .leq .i64) (.vr 0) (.vr 20)))
  .ret))))))))))))))
def fc71 : Fc := ⟨23, s71, [(.vr 4)]⟩
theorem c71 : compF Try.prog 71 = some fc71 := by kernel_rfl

/-- kinora/kinoraref8.Fold · parameters 1 · 0:x -/
def s72 : S :=
  (.set 2 (.cn (.int .u64 0))
  (.call (some 4) 53 [(.vr 0)] []
  (.chk (.un .not (.vr 4))
  (.set 5 (.un .not (.vr 4))
  (.ite (.vr 5)
    (.set 2 (.cn (.int .u64 0))
    .ret)
    .nil
  (.call (some 7) 85 [(.vr 0)] []
  (.set 2 (.vr 7)
  .ret)))))))
def fc72 : Fc := ⟨8, s72, [(.vr 2)]⟩
theorem c72 : compF Try.prog 72 = some fc72 := by kernel_rfl

/-- (*kinora/kinoraref2.Writer).Unary · parameters 2 · 0:w 1:n 5:i -/
def s73 : S :=
  (.set 4 (.cn (.int .i64 0))
  (.chk (.bn (.cm .lss .i64) (.vr 1) (.cn (.int .i64 0)))
  (.chk (.gd (.bn (.cm .lss .i64) (.vr 1) (.cn (.int .i64 0))) false (.bn (.cm .gtr .i64) (.vr 1) (.cn (.int .i64 4096))))
  (.set 11 (.or (.bn (.cm .lss .i64) (.vr 1) (.cn (.int .i64 0))) (.bn (.cm .gtr .i64) (.vr 1) (.cn (.int .i64 4096))))
  (.ite (.vr 11)
    (.set 4 (.cn (.int .i64 1))
    .ret)
    .nil
  (.set 5 (.cn (.int .i64 0))
  (.blk 0
    (.loop
      (.chk (.bn (.cm .lss .i64) (.vr 5) (.vr 1))
      (.set 14 (.bn (.cm .lss .i64) (.vr 5) (.vr 1))
      (.ite (.vr 14)
        .nil
        (.exit 0)
      (.blk 1
        (.chk (.un .nck (.vr 0))
        (.chk (.un (.fa 0) (.un .nck (.vr 0)))
        (.chk (.ld (.un (.fa 0) (.un .nck (.vr 0))))
        (.set 21 (.ld (.un (.fa 0) (.un .nck (.vr 0))))
        (.op (some 22) (.buildSlice 33 1 #[(0, (.const (.int .u8 0)))]) 33 [] []
        (.op (some 23) (.call ⟨(.builtin .append), #[(.tmp 21), (.tmp 22)], #[33, 33]⟩) 33 [(21, (.vr 21)), (22, (.vr 22))] []
        (.chk (.un .nck (.vr 0))
        (.chk (.un (.fa 0) (.un .nck (.vr 0)))
        (.st 1 (.un (.fa 0) (.un .nck (.vr 0))) (.vr 23) []
        .nil)))))))))
      (.chk (.bn (.ar .add .i64) (.vr 5) (.cn (.int .i64 1)))
      (.set 5 (.bn (.ar .add .i64) (.vr 5) (.cn (.int .i64 1)))
      .nil)))))))
  (.chk (.un .nck (.vr 0))
  (.chk (.un (.fa 0) (.un .nck (.vr 0)))
  (.chk (.ld (.un (.fa 0) (.un .nck (.vr 0))))
  (.set 30 (.ld (.un (.fa 0) (.un .nck (.vr 0))))
  (.op (some 31) (.buildSlice 33 1 #[(0, (.const (.int .u8 1)))]) 33 [] []
  (.op (some 32) (.call ⟨(.builtin .append), #[(.tmp 30), (.tmp 31)], #[33, 33]⟩) 33 [(30, (.vr 30)), (31, (.vr 31))] []
  (.chk (.un .nck (.vr 0))
  (.chk (.un (.fa 0) (.un .nck (.vr 0)))
  (.st 1 (.un (.fa 0) (.un .nck (.vr 0))) (.vr 32) []
  (.set 4 (.cn (.int .i64 0))
  .ret)))))))))))))))))
def fc73 : Fc := ⟨35, s73, [(.vr 4)]⟩
theorem c73 : compF Try.prog 73 = some fc73 := by kernel_rfl

/-- kinora/rice.Get · parameters 3 · 0:r 1:k 2:n 8:out 9:x 10:err -/
def s74 : S :=
  (.set 6 (.cn (.slice none 0 0))
  (.set 7 (.cn (.int .i64 0))
  (.call (some 12) 67 [(.vr 1)] []
  (.chk (.un .not (.vr 12))
  (.set 14 (.un .not (.vr 12))
  (.chk (.gd (.vr 14) false (.bn (.cm .lss .i64) (.vr 2) (.cn (.int .i64 0))))
  (.chk (.or (.vr 14) (.bn (.cm .lss .i64) (.vr 2) (.cn (.int .i64 0))))
  (.set 18 (.or (.vr 14) (.bn (.cm .lss .i64) (.vr 2) (.cn (.int .i64 0))))
  (.chk (.gd (.vr 18) false (.bn (.cm .gtr .i64) (.vr 2) (.cn (.int .i64 4194304))))
  (.chk (.or (.vr 18) (.bn (.cm .gtr .i64) (.vr 2) (.cn (.int .i64 4194304))))
  (.set 21 (.or (.vr 18) (.bn (.cm .gtr .i64) (.vr 2) (.cn (.int .i64 4194304))))
  (.ite (.vr 21)
    (.set 6 (.cn (.slice none 0 0))
    (.set 7 (.cn (.int .i64 1))
    .ret))
    .nil
  (.call (some 23) 59 [(.vr 0)] []
  (.chk (.bn (.cm .neq .i64) (.vr 23) (.cn (.int .i64 0)))
  (.set 24 (.bn (.cm .neq .i64) (.vr 23) (.cn (.int .i64 0)))
  (.ite (.vr 24)
    (.call (some 26) 59 [(.vr 0)] []
    (.set 6 (.cn (.slice none 0 0))
    (.set 7 (.vr 26)
    .ret)))
    .nil
  (.set 8 (.cn (.slice none 0 0))
  (.set 27 (.vr 2)
  (.set 28 (.cn (.int .i64 0))
  (.blk 0
    (.loop
      (.chk (.bn (.cm .lss .i64) (.vr 28) (.vr 27))
      (.set 29 (.bn (.cm .lss .i64) (.vr 28) (.vr 27))
      (.ite (.vr 29)
        .nil
        (.exit 0)
      (.blk 1
        (.call (some 33) 86 [(.vr 0), (.vr 1)] []
        (.chk (.un (.ex 0) (.vr 33))
        (.chk (.un (.ex 1) (.vr 33))
        (.set 9 (.un (.ex 0) (.vr 33))
        (.set 10 (.un (.ex 1) (.vr 33))
        (.chk (.bn (.cm .neq .i64) (.vr 10) (.cn (.int .i64 0)))
        (.set 37 (.bn (.cm .neq .i64) (.vr 10) (.cn (.int .i64 0)))
        (.ite (.vr 37)
          (.set 6 (.cn (.slice none 0 0))
          (.set 7 (.vr 10)
          .ret))
          .nil
        (.op (some 41) (.buildSlice 22 1 #[(0, (.tmp 40))]) 22 [(40, (.vr 9))] []
        (.op (some 42) (.call ⟨(.builtin .append), #[(.tmp 39), (.tmp 41)], #[22, 22]⟩) 22 [(39, (.vr 8)), (41, (.vr 41))] []
        (.set 8 (.vr 42)
        .nil)))))))))))
      (.chk (.bn (.ar .add .i64) (.vr 28) (.cn (.int .i64 1)))
      (.set 28 (.bn (.ar .add .i64) (.vr 28) (.cn (.int .i64 1)))
      .nil)))))))
  (.set 6 (.vr 8)
  (.set 7 (.cn (.int .i64 0))
  .ret))))))))))))))))))))))
def fc74 : Fc := ⟨45, s74, [(.vr 6), (.vr 7)]⟩
theorem c74 : compF Try.prog 74 = some fc74 := by kernel_rfl

/-- (*kinora/bits.Reader).Signed · parameters 2 · 0:r 1:n 5:v -/
def s75 : S :=
  (.set 4 (.cn (.int .i64 0))
  (.call (some 8) 32 [(.vr 0), (.vr 1)] []
  (.set 5 (.vr 8)
  (.chk (.un .nck (.vr 0))
  (.chk (.un (.fa 2) (.un .nck (.vr 0)))
  (.chk (.ld (.un (.fa 2) (.un .nck (.vr 0))))
  (.chk (.bn (.cm .neq .i64) (.ld (.un (.fa 2) (.un .nck (.vr 0)))) (.cn (.int .i64 0)))
  (.chk (.gd (.bn (.cm .neq .i64) (.ld (.un (.fa 2) (.un .nck (.vr 0)))) (.cn (.int .i64 0))) false (.bn (.cm .eql .i64) (.vr 1) (.cn (.int .i64 0))))
  (.set 17 (.or (.bn (.cm .neq .i64) (.ld (.un (.fa 2) (.un .nck (.vr 0)))) (.cn (.int .i64 0))) (.bn (.cm .eql .i64) (.vr 1) (.cn (.int .i64 0))))
  (.ite (.vr 17)
    (.set 4 (.cn (.int .i64 0))
    .ret)
    .nil
  (.chk (.bn (.ar .sub .i64) (.cn (.int .i64 64)) (.vr 1))
  (.chk (.bn (.sh true .u64) (.vr 5) (.bn (.ar .sub .i64) (.cn (.int .i64 64)) (.vr 1)))
  (.chk (.bn (.ar .sub .i64) (.cn (.int .i64 64)) (.vr 1))
  (.chk (.bn (.sh false .i64) (.un (.cv .i64) (.bn (.sh true .u64) (.vr 5) (.bn (.ar .sub .i64) (.cn (.int .i64 64)) (.vr 1)))) (.bn (.ar .sub .i64) (.cn (.int .i64 64)) (.vr 1)))
  (.set 4 (.bn (.sh false .i64) (.un (.cv .i64) (.bn (.sh true .u64) (.vr 5) (.bn (.ar .sub .i64) (.cn (.int .i64 64)) (.vr 1)))) (.bn (.ar .sub .i64) (.cn (.int .i64 64)) (.vr 1)))
  .ret)))))))))))))))
def fc75 : Fc := ⟨26, s75, [(.vr 4)]⟩
theorem c75 : compF Try.prog 75 = some fc75 := by kernel_rfl

/-- kinora/kinoraref8.RiceGet · parameters 3 · 0:r 1:k 2:n 8:out 9:i 10:q 11:u -/
def s76 : S :=
  (.set 6 (.cn (.slice none 0 0))
  (.set 7 (.cn (.int .i64 0))
  (.call (some 13) 44 [(.vr 1)] []
  (.chk (.un .not (.vr 13))
  (.set 15 (.un .not (.vr 13))
  (.chk (.gd (.vr 15) false (.bn (.cm .lss .i64) (.vr 2) (.cn (.int .i64 0))))
  (.chk (.or (.vr 15) (.bn (.cm .lss .i64) (.vr 2) (.cn (.int .i64 0))))
  (.set 19 (.or (.vr 15) (.bn (.cm .lss .i64) (.vr 2) (.cn (.int .i64 0))))
  (.chk (.gd (.vr 19) false (.bn (.cm .gtr .i64) (.vr 2) (.cn (.int .i64 4194304))))
  (.chk (.or (.vr 19) (.bn (.cm .gtr .i64) (.vr 2) (.cn (.int .i64 4194304))))
  (.set 22 (.or (.vr 19) (.bn (.cm .gtr .i64) (.vr 2) (.cn (.int .i64 4194304))))
  (.ite (.vr 22)
    (.set 6 (.cn (.slice none 0 0))
    (.set 7 (.cn (.int .i64 1))
    .ret))
    .nil
  (.chk (.un .nck (.vr 0))
  (.chk (.un (.fa 2) (.un .nck (.vr 0)))
  (.chk (.ld (.un (.fa 2) (.un .nck (.vr 0))))
  (.chk (.bn (.cm .neq .i64) (.ld (.un (.fa 2) (.un .nck (.vr 0)))) (.cn (.int .i64 0)))
  (.set 27 (.bn (.cm .neq .i64) (.ld (.un (.fa 2) (.un .nck (.vr 0)))) (.cn (.int .i64 0)))
  (.ite (.vr 27)
    (.draw
    (.chk (.un .nck (.vr 0))
    (.chk (.un (.fa 2) (.un .nck (.vr 0)))
    (.chk (.ld (.un (.fa 2) (.un .nck (.vr 0))))
    (.set 6 (.cn (.slice none 0 0))
    (.set 7 (.ld (.un (.fa 2) (.un .nck (.vr 0))))
    .ret))))))
    .nil
  (.set 8 (.cn (.slice none 0 0))
  (.set 9 (.cn (.int .i64 0))
  (.blk 0
    (.loop
      (.chk (.bn (.cm .lss .i64) (.vr 9) (.vr 2))
      (.set 34 (.bn (.cm .lss .i64) (.vr 9) (.vr 2))
      (.ite (.vr 34)
        .nil
        (.exit 0)
      (.blk 1
        (.call (some 38) 87 [(.vr 0), (.cn (.int .i64 32))] []
        (.set 10 (.vr 38)
        (.set 11 (.cn (.int .u64 0))
        (.chk (.bn (.cm .lss .i64) (.vr 10) (.cn (.int .i64 32)))
        (.set 40 (.bn (.cm .lss .i64) (.vr 10) (.cn (.int .i64 32)))
        (.ite (.vr 40)
          (.chk (.un (.cv .u64) (.vr 10))
          (.chk (.un (.cv .u64) (.vr 1))
          (.chk (.bn (.sh true .u64) (.un (.cv .u64) (.vr 10)) (.un (.cv .u64) (.vr 1)))
          (.call (some 48) 33 [(.vr 0), (.vr 1)] []
          (.chk (.bn (.bt .or .u64) (.bn (.sh true .u64) (.un (.cv .u64) (.vr 10)) (.un (.cv .u64) (.vr 1))) (.vr 48))
          (.set 11 (.bn (.bt .or .u64) (.bn (.sh true .u64) (.un (.cv .u64) (.vr 10)) (.un (.cv .u64) (.vr 1))) (.vr 48))
          .nil))))))
          (.call (some 51) 33 [(.vr 0), (.cn (.int .i64 32))] []
          (.set 11 (.vr 51)
          (.chk (.un .nck (.vr 0))
          (.chk (.un (.fa 2) (.un .nck (.vr 0)))
          (.chk (.ld (.un (.fa 2) (.un .nck (.vr 0))))
          (.chk (.bn (.cm .eql .i64) (.ld (.un (.fa 2) (.un .nck (.vr 0)))) (.cn (.int .i64 0)))
          (.chk (.gd (.bn (.cm .eql .i64) (.ld (.un (.fa 2) (.un .nck (.vr 0)))) (.cn (.int .i64 0))) true (.bn (.cm .geq .u64) (.vr 11) (.cn (.int .u64 2147483648))))
          (.chk (.gd (.gd (.bn (.cm .eql .i64) (.ld (.un (.fa 2) (.un .nck (.vr 0)))) (.cn (.int .i64 0))) true (.bn (.cm .geq .u64) (.vr 11) (.cn (.int .u64 2147483648)))) false (.un (.cv .u64) (.vr 1)))
          (.chk (.gd (.gd (.bn (.cm .eql .i64) (.ld (.un (.fa 2) (.un .nck (.vr 0)))) (.cn (.int .i64 0))) true (.bn (.cm .geq .u64) (.vr 11) (.cn (.int .u64 2147483648)))) false (.bn (.sh false .u64) (.vr 11) (.un (.cv .u64) (.vr 1))))
          (.set 67 (.and (.bn (.cm .eql .i64) (.ld (.un (.fa 2) (.un .nck (.vr 0)))) (.cn (.int .i64 0))) (.or (.bn (.cm .geq .u64) (.vr 11) (.cn (.int .u64 2147483648))) (.bn (.cm .lss .u64) (.bn (.sh false .u64) (.vr 11) (.un (.cv .u64) (.vr 1))) (.cn (.int .u64 32)))))
          (.ite (.vr 67)
            (.set 6 (.cn (.slice none 0 0))
            (.set 7 (.cn (.int .i64 2))
            .ret))
            .nil
          .nil)))))))))))
        (.chk (.un .nck (.vr 0))
        (.chk (.un (.fa 2) (.un .nck (.vr 0)))
        (.chk (.ld (.un (.fa 2) (.un .nck (.vr 0))))
        (.chk (.bn (.cm .neq .i64) (.ld (.un (.fa 2) (.un .nck (.vr 0)))) (.cn (.int .i64 0)))
        (.set 72 (.bn (.cm .neq .i64) (.ld (.un (.fa 2) (.un .nck (.vr 0)))) (.cn (.int .i64 0)))
        (.ite (.vr 72)
          (.draw
          (.chk (.un .nck (.vr 0))
          (.chk (.un (.fa 2) (.un .nck (.vr 0)))
          (.chk (.ld (.un (.fa 2) (.un .nck (.vr 0))))
          (.set 6 (.cn (.slice none 0 0))
          (.set 7 (.ld (.un (.fa 2) (.un .nck (.vr 0))))
          .ret))))))
          .nil
        (.call (some 79) 88 [(.vr 11)] []
        (.op (some 80) (.buildSlice 22 1 #[(0, (.tmp 79))]) 22 [(79, (.vr 79))] []
        (.op (some 81) (.call ⟨(.builtin .append), #[(.tmp 77), (.tmp 80)], #[22, 22]⟩) 22 [(77, (.vr 8)), (80, (.vr 80))] []
        (.set 8 (.vr 81)
        .nil))))))))))))))))
      (.chk (.bn (.ar .add .i64) (.vr 9) (.cn (.int .i64 1)))
      (.set 9 (.bn (.ar .add .i64) (.vr 9) (.cn (.int .i64 1)))
      .nil)))))))
  (.set 6 (.vr 8)
  (.set 7 (.cn (.int .i64 0))
  .ret)))))))))))))))))))))))
def fc76 : Fc := ⟨83, s76, [(.vr 6), (.vr 7)]⟩
theorem c76 : compF Try.prog 76 = some fc76 := by kernel_rfl

/-- kinora/kinoraref8.GetSigned · parameters 3 · 0:r 1:n 2:bits 7:out 8:i -/
def s77 : S :=
  (.set 6 (.cn (.slice none 0 0))
  (.set 7 (.cn (.slice none 0 0))
  (.set 8 (.cn (.int .i64 0))
  (.blk 0
    (.loop
      (.chk (.bn (.cm .lss .i64) (.vr 8) (.vr 1))
      (.chk (.gd (.bn (.cm .lss .i64) (.vr 8) (.vr 1)) true (.un .nck (.vr 0)))
      (.chk (.gd (.bn (.cm .lss .i64) (.vr 8) (.vr 1)) true (.un (.fa 2) (.un .nck (.vr 0))))
      (.chk (.gd (.bn (.cm .lss .i64) (.vr 8) (.vr 1)) true (.ld (.un (.fa 2) (.un .nck (.vr 0)))))
      (.chk (.gd (.bn (.cm .lss .i64) (.vr 8) (.vr 1)) true (.bn (.cm .eql .i64) (.ld (.un (.fa 2) (.un .nck (.vr 0)))) (.cn (.int .i64 0))))
      (.set 18 (.and (.bn (.cm .lss .i64) (.vr 8) (.vr 1)) (.bn (.cm .eql .i64) (.ld (.un (.fa 2) (.un .nck (.vr 0)))) (.cn (.int .i64 0))))
      (.ite (.vr 18)
        .nil
        (.exit 0)
      (.blk 1
        (.call (some 24) 89 [(.vr 0), (.vr 2)] []
        (.op (some 25) (.buildSlice 22 1 #[(0, (.tmp 24))]) 22 [(24, (.vr 24))] []
        (.op (some 26) (.call ⟨(.builtin .append), #[(.tmp 21), (.tmp 25)], #[22, 22]⟩) 22 [(21, (.vr 7)), (25, (.vr 25))] []
        (.set 7 (.vr 26)
        .nil))))
      (.chk (.bn (.ar .add .i64) (.vr 8) (.cn (.int .i64 1)))
      (.set 8 (.bn (.ar .add .i64) (.vr 8) (.cn (.int .i64 1)))
      .nil)))))))))))
  (.set 6 (.vr 7)
  .ret)))))
def fc77 : Fc := ⟨28, s77, [(.vr 6)]⟩
theorem c77 : compF Try.prog 77 = some fc77 := by kernel_rfl

/-- kinora/rice.Best · parameters 1 · 0:l 3:best 4:least 5:k 6:sum -/
def s78 : S :=
  (.set 2 (.cn (.int .i64 0))
  (.call (some 8) 29 [(.cn (.int .i64 0)), (.vr 0)] []
  (.set 3 (.cn (.int .i64 0))
  (.set 4 (.vr 8)
  (.set 5 (.cn (.int .i64 1))
  (.blk 0
    (.loop
      (.chk (.bn (.cm .leq .i64) (.vr 5) (.cn (.int .i64 25)))
      (.set 10 (.bn (.cm .leq .i64) (.vr 5) (.cn (.int .i64 25)))
      (.ite (.vr 10)
        .nil
        (.exit 0)
      (.blk 1
        (.call (some 15) 29 [(.vr 5), (.vr 0)] []
        (.set 6 (.vr 15)
        (.chk (.bn (.cm .lss .i64) (.vr 6) (.vr 4))
        (.set 18 (.bn (.cm .lss .i64) (.vr 6) (.vr 4))
        (.ite (.vr 18)
          (.set 3 (.vr 5)
          (.set 4 (.vr 6)
          .nil))
          .nil
        .nil)))))
      (.chk (.bn (.ar .add .i64) (.vr 5) (.cn (.int .i64 1)))
      (.set 5 (.bn (.ar .add .i64) (.vr 5) (.cn (.int .i64 1)))
      .nil)))))))
  (.set 2 (.vr 3)
  .ret)))))))
def fc78 : Fc := ⟨22, s78, [(.vr 2)]⟩
theorem c78 : compF Try.prog 78 = some fc78 := by kernel_rfl

/-- kinora/kinoraref8.RiceBest · parameters 1 · 0:l 3:best 4:k -/
def s79 : S :=
  (.set 2 (.cn (.int .i64 0))
  (.set 3 (.cn (.int .i64 0))
  (.set 4 (.cn (.int .i64 1))
  (.blk 0
    (.loop
      (.chk (.bn (.cm .leq .i64) (.vr 4) (.cn (.int .i64 25)))
      (.set 6 (.bn (.cm .leq .i64) (.vr 4) (.cn (.int .i64 25)))
      (.ite (.vr 6)
        .nil
        (.exit 0)
      (.blk 1
        (.call (some 11) 66 [(.vr 4), (.vr 0)] []
        (.call (some 14) 66 [(.vr 3), (.vr 0)] []
        (.chk (.bn (.cm .lss .i64) (.vr 11) (.vr 14))
        (.set 15 (.bn (.cm .lss .i64) (.vr 11) (.vr 14))
        (.ite (.vr 15)
          (.set 3 (.vr 4)
          .nil)
          .nil
        .nil)))))
      (.chk (.bn (.ar .add .i64) (.vr 4) (.cn (.int .i64 1)))
      (.set 4 (.bn (.ar .add .i64) (.vr 4) (.cn (.int .i64 1)))
      .nil)))))))
  (.set 2 (.vr 3)
  .ret)))))
def fc79 : Fc := ⟨18, s79, [(.vr 2)]⟩
theorem c79 : compF Try.prog 79 = some fc79 := by kernel_rfl

/-- kinora/kinoraref2.Low · parameters 1 · 0:bits -/
def s80 : S :=
  (.set 2 (.cn (.int .i64 0))
  (.chk (.bn (.cm .lss .i64) (.vr 0) (.cn (.int .i64 1)))
  (.chk (.gd (.bn (.cm .lss .i64) (.vr 0) (.cn (.int .i64 1))) false (.bn (.cm .gtr .i64) (.vr 0) (.cn (.int .i64 31))))
  (.set 8 (.or (.bn (.cm .lss .i64) (.vr 0) (.cn (.int .i64 1))) (.bn (.cm .gtr .i64) (.vr 0) (.cn (.int .i64 31))))
  (.ite (.vr 8)
    (.set 2 (.cn (.int .i64 0))
    .ret)
    .nil
  (.chk (.bn (.ar .sub .i64) (.vr 0) (.cn (.int .i64 1)))
  (.chk (.bn (.sh true .i64) (.cn (.int .i64 (-1))) (.un (.cv .u64) (.bn (.ar .sub .i64) (.vr 0) (.cn (.int .i64 1)))))
  (.set 2 (.bn (.sh true .i64) (.cn (.int .i64 (-1))) (.un (.cv .u64) (.bn (.ar .sub .i64) (.vr 0) (.cn (.int .i64 1)))))
  .ret))))))))
def fc80 : Fc := ⟨13, s80, [(.vr 2)]⟩
theorem c80 : compF Try.prog 80 = some fc80 := by kernel_rfl

/-- kinora/kinoraref2.High · parameters 1 · 0:bits -/
def s81 : S :=
  (.set 2 (.cn (.int .i64 0))
  (.chk (.bn (.cm .lss .i64) (.vr 0) (.cn (.int .i64 1)))
  (.chk (.gd (.bn (.cm .lss .i64) (.vr 0) (.cn (.int .i64 1))) false (.bn (.cm .gtr .i64) (.vr 0) (.cn (.int .i64 31))))
  (.set 8 (.or (.bn (.cm .lss .i64) (.vr 0) (.cn (.int .i64 1))) (.bn (.cm .gtr .i64) (.vr 0) (.cn (.int .i64 31))))
  (.ite (.vr 8)
    (.set 2 (.cn (.int .i64 0))
    .ret)
    .nil
  (.chk (.bn (.ar .sub .i64) (.vr 0) (.cn (.int .i64 1)))
  (.chk (.bn (.sh true .i64) (.cn (.int .i64 1)) (.un (.cv .u64) (.bn (.ar .sub .i64) (.vr 0) (.cn (.int .i64 1)))))
  (.set 2 (.bn (.ar .sub .i64) (.bn (.sh true .i64) (.cn (.int .i64 1)) (.un (.cv .u64) (.bn (.ar .sub .i64) (.vr 0) (.cn (.int .i64 1))))) (.cn (.int .i64 1)))
  .ret))))))))
def fc81 : Fc := ⟨14, s81, [(.vr 2)]⟩
theorem c81 : compF Try.prog 81 = some fc81 := by kernel_rfl

/-- kinora/kinoraref8.RiceCost · parameters 2 · 0:k 1:x 5:q -/
def s82 : S :=
  (.set 4 (.cn (.int .i64 0))
  (.call (some 7) 44 [(.vr 0)] []
  (.chk (.un .not (.vr 7))
  (.set 9 (.un .not (.vr 7))
  (.ifg (.vr 9) false
    (.call (some 11) 53 [(.vr 1)] []
    .nil)
    (.set 11 (.cn undef)
    .nil)
  (.chk (.gd (.vr 9) false (.un .not (.vr 11)))
  (.chk (.or (.vr 9) (.un .not (.vr 11)))
  (.set 13 (.or (.vr 9) (.un .not (.vr 11)))
  (.ite (.vr 13)
    (.set 4 (.cn (.int .i64 0))
    .ret)
    .nil
  (.call (some 15) 72 [(.vr 1)] []
  (.chk (.un (.cv .u64) (.vr 0))
  (.chk (.bn (.sh false .u64) (.vr 15) (.un (.cv .u64) (.vr 0)))
  (.set 5 (.un (.cv .i64) (.bn (.sh false .u64) (.vr 15) (.un (.cv .u64) (.vr 0))))
  (.chk (.bn (.cm .lss .i64) (.vr 5) (.cn (.int .i64 32)))
  (.set 21 (.bn (.cm .lss .i64) (.vr 5) (.cn (.int .i64 32)))
  (.ite (.vr 21)
    (.chk (.bn (.ar .add .i64) (.vr 5) (.cn (.int .i64 1)))
    (.chk (.bn (.ar .add .i64) (.bn (.ar .add .i64) (.vr 5) (.cn (.int .i64 1))) (.vr 0))
    (.set 4 (.bn (.ar .add .i64) (.bn (.ar .add .i64) (.vr 5) (.cn (.int .i64 1))) (.vr 0))
    .ret)))
    .nil
  (.set 4 (.cn (.int .i64 65))
  .ret)))))))))))))))))
def fc82 : Fc := ⟨26, s82, [(.vr 4)]⟩
theorem c82 : compF Try.prog 82 = some fc82 := by kernel_rfl

/-- kinora/sample.Low · parameters 1 · 0:bits -/
def s83 : S :=
  (.set 2 (.cn (.int .i64 0))
  (.chk (.bn (.cm .lss .i64) (.vr 0) (.cn (.int .i64 1)))
  (.chk (.gd (.bn (.cm .lss .i64) (.vr 0) (.cn (.int .i64 1))) false (.bn (.cm .gtr .i64) (.vr 0) (.cn (.int .i64 31))))
  (.set 8 (.or (.bn (.cm .lss .i64) (.vr 0) (.cn (.int .i64 1))) (.bn (.cm .gtr .i64) (.vr 0) (.cn (.int .i64 31))))
  (.ite (.vr 8)
    (.set 2 (.cn (.int .i64 0))
    .ret)
    .nil
  (.chk (.bn (.ar .sub .i64) (.vr 0) (.cn (.int .i64 1)))
  (.chk (.bn (.sh true .i64) (.cn (.int .i64 (-1))) (.bn (.ar .sub .i64) (.vr 0) (.cn (.int .i64 1))))
  (.set 2 (.bn (.sh true .i64) (.cn (.int .i64 (-1))) (.bn (.ar .sub .i64) (.vr 0) (.cn (.int .i64 1))))
  .ret))))))))
def fc83 : Fc := ⟨12, s83, [(.vr 2)]⟩
theorem c83 : compF Try.prog 83 = some fc83 := by kernel_rfl

/-- kinora/sample.High · parameters 1 · 0:bits -/
def s84 : S :=
  (.set 2 (.cn (.int .i64 0))
  (.chk (.bn (.cm .lss .i64) (.vr 0) (.cn (.int .i64 1)))
  (.chk (.gd (.bn (.cm .lss .i64) (.vr 0) (.cn (.int .i64 1))) false (.bn (.cm .gtr .i64) (.vr 0) (.cn (.int .i64 31))))
  (.set 8 (.or (.bn (.cm .lss .i64) (.vr 0) (.cn (.int .i64 1))) (.bn (.cm .gtr .i64) (.vr 0) (.cn (.int .i64 31))))
  (.ite (.vr 8)
    (.set 2 (.cn (.int .i64 0))
    .ret)
    .nil
  (.chk (.bn (.ar .sub .i64) (.vr 0) (.cn (.int .i64 1)))
  (.chk (.bn (.sh true .i64) (.cn (.int .i64 1)) (.bn (.ar .sub .i64) (.vr 0) (.cn (.int .i64 1))))
  (.set 2 (.bn (.ar .sub .i64) (.bn (.sh true .i64) (.cn (.int .i64 1)) (.bn (.ar .sub .i64) (.vr 0) (.cn (.int .i64 1)))) (.cn (.int .i64 1)))
  .ret))))))))
def fc84 : Fc := ⟨13, s84, [(.vr 2)]⟩
theorem c84 : compF Try.prog 84 = some fc84 := by kernel_rfl

/-- kinora/kinoraref2.Zig · parameters 1 · 0:n 3:u -/
def s85 : S :=
  (.set 2 (.cn (.int .u64 0))
  (.chk (.un (.cv .u64) (.vr 0))
  (.set 3 (.bn (.sh true .u64) (.un (.cv .u64) (.vr 0)) (.cn (.int .u64 1)))
  (.chk (.bn (.cm .lss .i64) (.vr 0) (.cn (.int .i64 0)))
  (.set 8 (.bn (.cm .lss .i64) (.vr 0) (.cn (.int .i64 0)))
  (.ite (.vr 8)
    (.chk (.un (.cpl .u64) (.vr 3))
    (.set 3 (.un (.cpl .u64) (.vr 3))
    .nil))
    .nil
  (.set 2 (.vr 3)
  .ret)))))))
def fc85 : Fc := ⟨12, s85, [(.vr 2)]⟩
theorem c85 : compF Try.prog 85 = some fc85 := by kernel_rfl

/-- kinora/rice.one · parameters 2 · 0:r 1:k 6:q 7:low 8:u -/
def s86 : S :=
  (.set 4 (.cn (.int .i64 0))
  (.set 5 (.cn (.int .i64 0))
  (.call (some 10) 90 [(.vr 0), (.cn (.int .i64 32))] []
  (.chk (.un (.cv .u64) (.vr 10))
  (.set 6 (.un (.cv .u64) (.vr 10))
  (.call (some 13) 59 [(.vr 0)] []
  (.chk (.bn (.cm .neq .i64) (.vr 13) (.cn (.int .i64 0)))
  (.set 14 (.bn (.cm .neq .i64) (.vr 13) (.cn (.int .i64 0)))
  (.ite (.vr 14)
    (.call (some 16) 59 [(.vr 0)] []
    (.set 4 (.cn (.int .i64 0))
    (.set 5 (.vr 16)
    .ret)))
    .nil
  (.chk (.bn (.cm .lss .u64) (.vr 6) (.cn (.int .u64 32)))
  (.set 18 (.bn (.cm .lss .u64) (.vr 6) (.cn (.int .u64 32)))
  (.ite (.vr 18)
    (.call (some 21) 32 [(.vr 0), (.vr 1)] []
    (.set 7 (.vr 21)
    (.chk (.bn (.sh true .u64) (.vr 6) (.vr 1))
    (.chk (.bn (.ar .add .u64) (.bn (.sh true .u64) (.vr 6) (.vr 1)) (.vr 7))
    (.call (some 27) 91 [(.bn (.ar .add .u64) (.bn (.sh true .u64) (.vr 6) (.vr 1)) (.vr 7))] []
    (.call (some 29) 59 [(.vr 0)] []
    (.set 4 (.vr 27)
    (.set 5 (.vr 29)
    .ret))))))))
    .nil
  (.call (some 31) 32 [(.vr 0), (.cn (.int .i64 32))] []
  (.set 8 (.vr 31)
  (.call (some 33) 59 [(.vr 0)] []
  (.chk (.bn (.cm .neq .i64) (.vr 33) (.cn (.int .i64 0)))
  (.set 34 (.bn (.cm .neq .i64) (.vr 33) (.cn (.int .i64 0)))
  (.ite (.vr 34)
    (.call (some 36) 59 [(.vr 0)] []
    (.set 4 (.cn (.int .i64 0))
    (.set 5 (.vr 36)
    .ret)))
    .nil
  (.chk (.bn (.cm .geq .u64) (.vr 8) (.cn (.int .u64 2147483648)))
  (.chk (.gd (.bn (.cm .geq .u64) (.vr 8) (.cn (.int .u64 2147483648))) false (.bn (.sh false .u64) (.vr 8) (.vr 1)))
  (.set 44 (.or (.bn (.cm .geq .u64) (.vr 8) (.cn (.int .u64 2147483648))) (.bn (.cm .lss .u64) (.bn (.sh false .u64) (.vr 8) (.vr 1)) (.cn (.int .u64 32))))
  (.ite (.vr 44)
    (.set 4 (.cn (.int .i64 0))
    (.set 5 (.cn (.int .i64 2))
    .ret))
    .nil
  (.call (some 46) 91 [(.vr 8)] []
  (.set 4 (.vr 46)
  (.set 5 (.cn (.int .i64 0))
  .ret)))))))))))))))))))))))))
def fc86 : Fc := ⟨47, s86, [(.vr 4), (.vr 5)]⟩
theorem c86 : compF Try.prog 86 = some fc86 := by kernel_rfl

/-- (*kinora/kinoraref2.Reader).Unary · parameters 2 · 0:r 1:most 5:i -/
def s87 : S :=
  (.set 4 (.cn (.int .i64 0))
  (.chk (.un .nck (.vr 0))
  (.chk (.un (.fa 2) (.un .nck (.vr 0)))
  (.chk (.ld (.un (.fa 2) (.un .nck (.vr 0))))
  (.chk (.bn (.cm .neq .i64) (.ld (.un (.fa 2) (.un .nck (.vr 0)))) (.cn (.int .i64 0)))
  (.set 10 (.bn (.cm .neq .i64) (.ld (.un (.fa 2) (.un .nck (.vr 0)))) (.cn (.int .i64 0)))
  (.ite (.vr 10)
    (.set 4 (.cn (.int .i64 0))
    .ret)
    .nil
  (.chk (.bn (.mx .i64) (.vr 1) (.cn (.int .i64 0)))
  (.set 1 (.bn (.mx .i64) (.vr 1) (.cn (.int .i64 0)))
  (.set 5 (.cn (.int .i64 0))
  (.blk 0
    (.loop
      (.call (some 15) 57 [(.vr 0)] []
      (.chk (.bn (.cm .lss .i64) (.vr 5) (.vr 15))
      (.set 16 (.bn (.cm .lss .i64) (.vr 5) (.vr 15))
      (.ite (.vr 16)
        .nil
        (.exit 0)
      (.blk 1
        (.chk (.un .nck (.vr 0))
        (.chk (.un (.fa 1) (.un .nck (.vr 0)))
        (.chk (.ld (.un (.fa 1) (.un .nck (.vr 0))))
        (.set 23 (.ld (.un (.fa 1) (.un .nck (.vr 0))))
        (.chk (.bn (.ar .add .i64) (.vr 23) (.vr 5))
        (.call (some 26) 58 [(.vr 0), (.bn (.ar .add .i64) (.vr 23) (.vr 5))] []
        (.chk (.bn (.cm .eql .u64) (.vr 26) (.cn (.int .u64 1)))
        (.set 27 (.bn (.cm .eql .u64) (.vr 26) (.cn (.int .u64 1)))
        (.ite (.vr 27)
          (.chk (.un .nck (.vr 0))
          (.chk (.un (.fa 1) (.un .nck (.vr 0)))
          (.chk (.ld (.un (.fa 1) (.un .nck (.vr 0))))
          (.set 32 (.ld (.un (.fa 1) (.un .nck (.vr 0))))
          (.chk (.bn (.ar .add .i64) (.vr 32) (.vr 5))
          (.chk (.un .nck (.vr 0))
          (.chk (.un (.fa 1) (.un .nck (.vr 0)))
          (.st 1 (.un (.fa 1) (.un .nck (.vr 0))) (.bn (.ar .add .i64) (.bn (.ar .add .i64) (.vr 32) (.vr 5)) (.cn (.int .i64 1))) []
          (.set 4 (.vr 5)
          .ret)))))))))
          .nil
        (.chk (.bn (.cm .geq .i64) (.vr 5) (.vr 1))
        (.set 41 (.bn (.cm .geq .i64) (.vr 5) (.vr 1))
        (.ite (.vr 41)
          (.chk (.un .nck (.vr 0))
          (.chk (.un (.fa 2) (.un .nck (.vr 0)))
          (.st 1 (.un (.fa 2) (.un .nck (.vr 0))) (.cn (.int .i64 2)) []
          (.set 4 (.cn (.int .i64 0))
          .ret))))
          .nil
        .nil))))))))))))
      (.chk (.bn (.ar .add .i64) (.vr 5) (.cn (.int .i64 1)))
      (.set 5 (.bn (.ar .add .i64) (.vr 5) (.cn (.int .i64 1)))
      .nil))))))))
  (.chk (.un .nck (.vr 0))
  (.chk (.un (.fa 2) (.un .nck (.vr 0)))
  (.st 1 (.un (.fa 2) (.un .nck (.vr 0))) (.cn (.int .i64 3)) []
  (.set 4 (.cn (.int .i64 0))
  .ret)))))))))))))))
def fc87 : Fc := ⟨48, s87, [(.vr 4)]⟩
theorem c87 : compF Try.prog 87 = some fc87 := by kernel_rfl

/-- kinora/kinoraref8.Unfold · parameters 1 · 0:u -/
def s88 : S :=
  (.set 2 (.cn (.int .i64 0))
  (.chk (.bn (.cm .geq .u64) (.vr 0) (.cn (.int .u64 2147483648)))
  (.set 4 (.bn (.cm .geq .u64) (.vr 0) (.cn (.int .u64 2147483648)))
  (.ite (.vr 4)
    (.set 2 (.cn (.int .i64 0))
    .ret)
    .nil
  (.call (some 6) 92 [(.vr 0)] []
  (.set 2 (.vr 6)
  .ret))))))
def fc88 : Fc := ⟨7, s88, [(.vr 2)]⟩
theorem c88 : compF Try.prog 88 = some fc88 := by kernel_rfl

/-- (*kinora/kinoraref2.Reader).Signed · parameters 2 · 0:r 1:n 5:v -/
def s89 : S :=
  (.set 4 (.cn (.int .i64 0))
  (.call (some 8) 33 [(.vr 0), (.vr 1)] []
  (.set 5 (.vr 8)
  (.chk (.un .nck (.vr 0))
  (.chk (.un (.fa 2) (.un .nck (.vr 0)))
  (.chk (.ld (.un (.fa 2) (.un .nck (.vr 0))))
  (.chk (.bn (.cm .neq .i64) (.ld (.un (.fa 2) (.un .nck (.vr 0)))) (.cn (.int .i64 0)))
  (.chk (.gd (.bn (.cm .neq .i64) (.ld (.un (.fa 2) (.un .nck (.vr 0)))) (.cn (.int .i64 0))) false (.bn (.cm .eql .i64) (.vr 1) (.cn (.int .i64 0))))
  (.set 17 (.or (.bn (.cm .neq .i64) (.ld (.un (.fa 2) (.un .nck (.vr 0)))) (.cn (.int .i64 0))) (.bn (.cm .eql .i64) (.vr 1) (.cn (.int .i64 0))))
  (.ite (.vr 17)
    (.set 4 (.cn (.int .i64 0))
    .ret)
    .nil
  (.chk (.bn (.ar .sub .i64) (.cn (.int .i64 64)) (.vr 1))
  (.chk (.bn (.sh true .u64) (.vr 5) (.un (.cv .u64) (.bn (.ar .sub .i64) (.cn (.int .i64 64)) (.vr 1))))
  (.chk (.bn (.ar .sub .i64) (.cn (.int .i64 64)) (.vr 1))
  (.chk (.bn (.sh false .i64) (.un (.cv .i64) (.bn (.sh true .u64) (.vr 5) (.un (.cv .u64) (.bn (.ar .sub .i64) (.cn (.int .i64 64)) (.vr 1))))) (.un (.cv .u64) (.bn (.ar .sub .i64) (.cn (.int .i64 64)) (.vr 1))))
  (.set 4 (.bn (.sh false .i64) (.un (.cv .i64) (.bn (.sh true .u64) (.vr 5) (.un (.cv .u64) (.bn (.ar .sub .i64) (.cn (.int .i64 64)) (.vr 1))))) (.un (.cv .u64) (.bn (.ar .sub .i64) (.cn (.int .i64 64)) (.vr 1))))
  .ret)))))))))))))))
def fc89 : Fc := ⟨28, s89, [(.vr 4)]⟩
theorem c89 : compF Try.prog 89 = some fc89 := by kernel_rfl

/-- (*kinora/bits.Reader).Unary · parameters 2 · 0:r 1:most 5:zeros 6:i -/
def s90 : S :=
  (.set 4 (.cn (.int .i64 0))
  (.chk (.un .nck (.vr 0))
  (.chk (.un (.fa 2) (.un .nck (.vr 0)))
  (.chk (.ld (.un (.fa 2) (.un .nck (.vr 0))))
  (.chk (.bn (.cm .neq .i64) (.ld (.un (.fa 2) (.un .nck (.vr 0)))) (.cn (.int .i64 0)))
  (.set 11 (.bn (.cm .neq .i64) (.ld (.un (.fa 2) (.un .nck (.vr 0)))) (.cn (.int .i64 0)))
  (.ite (.vr 11)
    (.set 4 (.cn (.int .i64 0))
    .ret)
    .nil
  (.chk (.bn (.mx .i64) (.vr 1) (.cn (.int .i64 0)))
  (.set 1 (.bn (.mx .i64) (.vr 1) (.cn (.int .i64 0)))
  (.draw
  (.chk (.un .nck (.vr 0))
  (.chk (.un (.fa 1) (.un .nck (.vr 0)))
  (.chk (.ld (.un (.fa 1) (.un .nck (.vr 0))))
  (.set 5 (.cn (.int .i64 0))
  (.set 6 (.ld (.un (.fa 1) (.un .nck (.vr 0))))
  (.blk 0
    (.loop
      (.blk 1
        (.chk (.un .nck (.vr 0))
        (.chk (.un (.fa 0) (.un .nck (.vr 0)))
        (.chk (.ld (.un (.fa 0) (.un .nck (.vr 0))))
        (.chk (.un .ln (.ld (.un (.fa 0) (.un .nck (.vr 0)))))
        (.chk (.bn (.cm .eql .i64) (.vr 6) (.bn (.ar .mul .i64) (.cn (.int .i64 8)) (.un .ln (.ld (.un (.fa 0) (.un .nck (.vr 0)))))))
        (.set 29 (.bn (.cm .eql .i64) (.vr 6) (.bn (.ar .mul .i64) (.cn (.int .i64 8)) (.un .ln (.ld (.un (.fa 0) (.un .nck (.vr 0)))))))
        (.ite (.vr 29)
          (.chk (.un .nck (.vr 0))
          (.chk (.un (.fa 2) (.un .nck (.vr 0)))
          (.st 1 (.un (.fa 2) (.un .nck (.vr 0))) (.cn (.int .i64 3)) []
          (.set 4 (.cn (.int .i64 0))
          .ret))))
          .nil
        (.call (some 35) 56 [(.vr 0), (.vr 6)] []
        (.chk (.bn (.cm .eql .u8) (.vr 35) (.cn (.int .u8 1)))
        (.set 36 (.bn (.cm .eql .u8) (.vr 35) (.cn (.int .u8 1)))
        (.ite (.vr 36)
          (.chk (.bn (.ar .add .i64) (.vr 6) (.cn (.int .i64 1)))
          (.chk (.un .nck (.vr 0))
          (.chk (.un (.fa 1) (.un .nck (.vr 0)))
          (.st 1 (.un (.fa 1) (.un .nck (.vr 0))) (.bn (.ar .add .i64) (.vr 6) (.cn (.int .i64 1))) []
          (.set 4 (.vr 5)
          .ret)))))
          .nil
        (.chk (.bn (.cm .eql .i64) (.vr 5) (.vr 1))
        (.set 45 (.bn (.cm .eql .i64) (.vr 5) (.vr 1))
        (.ite (.vr 45)
          (.chk (.un .nck (.vr 0))
          (.chk (.un (.fa 2) (.un .nck (.vr 0)))
          (.st 1 (.un (.fa 2) (.un .nck (.vr 0))) (.cn (.int .i64 2)) []
          (.set 4 (.cn (.int .i64 0))
          .ret))))
          .nil
        .nil))))))))))))))
      (.chk (.bn (.ar .add .i64) (.vr 5) (.cn (.int .i64 1)))
      (.chk (.bn (.ar .add .i64) (.vr 6) (.cn (.int .i64 1)))
      (.set 5 (.bn (.ar .add .i64) (.vr 5) (.cn (.int .i64 1)))
      (.set 6 (.bn (.ar .add .i64) (.vr 6) (.cn (.int .i64 1)))
      .nil))))))
  .nil))))))))))))))))
def fc90 : Fc := ⟨49, s90, [(.vr 4)]⟩
theorem c90 : compF Try.prog 90 = some fc90 := by kernel_rfl

/-- kinora/rice.Unfold · parameters 1 · 0:u -/
def s91 : S :=
  (.set 2 (.cn (.int .i64 0))
  (.blk 0
    (.chk (.bn (.cm .geq .u64) (.vr 0) (.cn (.int .u64 2147483648)))
    (.set 3 (.bn (.cm .geq .u64) (.vr 0) (.cn (.int .u64 2147483648)))
    (.ite (.vr 3)
      (.set 2 (.cn (.int .i64 0))
      .ret)
      (.chk (.bn (.dv true .u64) (.vr 0) (.cn (.int .u64 2)))
      (.set 6 (.bn (.cm .eql .u64) (.bn (.dv true .u64) (.vr 0) (.cn (.int .u64 2))) (.cn (.int .u64 0)))
      (.ite (.vr 6)
        (.chk (.bn (.dv false .u64) (.vr 0) (.cn (.int .u64 2)))
        (.set 2 (.un (.cv .i64) (.bn (.dv false .u64) (.vr 0) (.cn (.int .u64 2))))
        .ret))
        .nil
      .nil)))
    .nil)))
  (.chk (.bn (.dv false .u64) (.vr 0) (.cn (.int .u64 2)))
  (.set 2 (.bn (.ar .sub .i64) (.un (.neg .i64) (.un (.cv .i64) (.bn (.dv false .u64) (.vr 0) (.cn (.int .u64 2))))) (.cn (.int .i64 1)))
  .ret))))
def fc91 : Fc := ⟨18, s91, [(.vr 2)]⟩
theorem c91 : compF Try.prog 91 = some fc91 := by kernel_rfl

/-- kinora/kinoraref2.Zag · parameters 1 · 0:u 3:n -/
def s92 : S :=
  (.set 2 (.cn (.int .i64 0))
  (.chk (.bn (.sh false .u64) (.vr 0) (.cn (.int .u64 1)))
  (.set 3 (.un (.cv .i64) (.bn (.sh false .u64) (.vr 0) (.cn (.int .u64 1))))
  (.chk (.bn (.bt .and .u64) (.vr 0) (.cn (.int .u64 1)))
  (.set 9 (.bn (.cm .eql .u64) (.bn (.bt .and .u64) (.vr 0) (.cn (.int .u64 1))) (.cn (.int .u64 1)))
  (.ite (.vr 9)
    (.chk (.un (.cpl .i64) (.vr 3))
    (.set 3 (.un (.cpl .i64) (.vr 3))
    .nil))
    .nil
  (.set 2 (.vr 3)
  .ret)))))))
def fc92 : Fc := ⟨13, s92, [(.vr 2)]⟩
theorem c92 : compF Try.prog 92 = some fc92 := by kernel_rfl

end Go.Proofs.Ytajkofndbeohpaa.VG
