/-
  The translations of the functions, printed by program (wip/vg/Print.lean); each is checked against the program by the kernel.
-/
import Derived.Test.YtgjnfajdejkkjaaChecked
import Derived.Test.YtgjnfajdejkkjaaVgH
namespace Go.Proofs.Ytgjnfajdejkkjaa.VG
open Go
set_option maxRecDepth 100000

/-- kinora/kinoralaw7.PrefixLens · parameters 2 · 0:freq 1:most 5:l 6:e 7:m 8:f -/
def s3 : S :=
  (.set 4 (.cn (.bool false))
  (.call (some 9) 11 [] []
  (.chk (.un .not (.vr 9))
  (.set 10 (.un .not (.vr 9))
  (.ite (.vr 10)
    (.set 4 (.cn (.bool false))
    .ret)
    .nil
  (.chk (.un .ln (.vr 0))
  (.chk (.gd (.bn (.cm .gtr .i64) (.un .ln (.vr 0)) (.cn (.int .i64 80))) true (.un .ln (.vr 0)))
  (.set 18 (.and (.bn (.cm .gtr .i64) (.un .ln (.vr 0)) (.cn (.int .i64 80))) (.bn (.cm .leq .i64) (.un .ln (.vr 0)) (.cn (.int .i64 1024))))
  (.ite (.vr 18)
    (.set 4 (.cn (.bool true))
    .ret)
    .nil
  (.call (some 22) 12 [(.vr 0), (.vr 1)] []
  (.chk (.un (.ex 0) (.vr 22))
  (.chk (.un (.ex 1) (.vr 22))
  (.set 5 (.un (.ex 0) (.vr 22))
  (.set 6 (.un (.ex 1) (.vr 22))
  (.call (some 28) 13 [(.vr 0), (.vr 1)] []
  (.chk (.un (.ex 0) (.vr 28))
  (.chk (.un (.ex 1) (.vr 28))
  (.set 7 (.un (.ex 0) (.vr 28))
  (.set 8 (.un (.ex 1) (.vr 28))
  (.call (some 33) 14 [(.vr 5), (.vr 7)] []
  (.set 34 (.vr 33)
  (.chk (.gd (.vr 34) true (.bn (.cm .eql .i64) (.vr 6) (.vr 8)))
  (.chk (.and (.vr 34) (.bn (.cm .eql .i64) (.vr 6) (.vr 8)))
  (.set 4 (.and (.vr 34) (.bn (.cm .eql .i64) (.vr 6) (.vr 8)))
  .ret))))))))))))))))))))))))
def fc3 : Fc := ⟨39, s3, [(.vr 4)]⟩
theorem c3 : compF Try.prog 3 = some fc3 := by kernel_rfl

/-- kinora/kinoralaw7.PrefixApart · parameters 1 · 0:lens 3:c 4:e 5:i 6:k -/
def s4 : S :=
  (.set 2 (.cn (.bool false))
  (.call (some 7) 11 [] []
  (.chk (.un .not (.vr 7))
  (.set 8 (.un .not (.vr 7))
  (.ite (.vr 8)
    (.set 2 (.cn (.bool false))
    .ret)
    .nil
  (.chk (.un .ln (.vr 0))
  (.set 11 (.bn (.cm .gtr .i64) (.un .ln (.vr 0)) (.cn (.int .i64 60)))
  (.ite (.vr 11)
    (.set 2 (.cn (.bool true))
    .ret)
    .nil
  (.call (some 14) 15 [(.vr 0)] []
  (.chk (.un (.ex 0) (.vr 14))
  (.chk (.un (.ex 1) (.vr 14))
  (.set 3 (.un (.ex 0) (.vr 14))
  (.set 4 (.un (.ex 1) (.vr 14))
  (.chk (.bn (.cm .eql .i64) (.vr 4) (.cn (.int .i64 0)))
  (.call (some 20) 16 [(.vr 0)] []
  (.chk (.bn (.eqb true) (.bn (.cm .eql .i64) (.vr 4) (.cn (.int .i64 0))) (.vr 20))
  (.set 21 (.bn (.eqb true) (.bn (.cm .eql .i64) (.vr 4) (.cn (.int .i64 0))) (.vr 20))
  (.ite (.vr 21)
    (.set 2 (.cn (.bool false))
    .ret)
    .nil
  (.chk (.bn (.cm .neq .i64) (.vr 4) (.cn (.int .i64 0)))
  (.set 23 (.bn (.cm .neq .i64) (.vr 4) (.cn (.int .i64 0)))
  (.ite (.vr 23)
    (.chk (.un .ln (.vr 3))
    (.set 2 (.bn (.cm .eql .i64) (.un .ln (.vr 3)) (.cn (.int .i64 0)))
    .ret))
    .nil
  (.chk (.un .ln (.vr 3))
  (.chk (.un .ln (.vr 0))
  (.set 31 (.bn (.cm .neq .i64) (.un .ln (.vr 3)) (.un .ln (.vr 0)))
  (.ite (.vr 31)
    (.set 2 (.cn (.bool false))
    .ret)
    .nil
  (.set 5 (.cn (.int .i64 0))
  (.blk 0
    (.loop
      (.chk (.un .ln (.vr 0))
      (.chk (.bn (.cm .lss .i64) (.vr 5) (.un .ln (.vr 0)))
      (.set 35 (.bn (.cm .lss .i64) (.vr 5) (.un .ln (.vr 0)))
      (.ite (.vr 35)
        .nil
        (.exit 0)
      (.blk 1
        (.draw
        (.chk (.bn (.ia 1) (.vr 3) (.vr 5))
        (.chk (.ld (.bn (.ia 1) (.vr 3) (.vr 5)))
        (.chk (.bn (.ia 1) (.vr 0) (.vr 5))
        (.chk (.ld (.bn (.ia 1) (.vr 0) (.vr 5)))
        (.chk (.un (.cv .u64) (.ld (.bn (.ia 1) (.vr 0) (.vr 5))))
        (.chk (.bn (.sh false .u64) (.ld (.bn (.ia 1) (.vr 3) (.vr 5))) (.un (.cv .u64) (.ld (.bn (.ia 1) (.vr 0) (.vr 5)))))
        (.set 48 (.bn (.cm .neq .u64) (.bn (.sh false .u64) (.ld (.bn (.ia 1) (.vr 3) (.vr 5))) (.un (.cv .u64) (.ld (.bn (.ia 1) (.vr 0) (.vr 5))))) (.cn (.int .u64 0)))
        (.ite (.vr 48)
          (.set 2 (.cn (.bool false))
          .ret)
          .nil
        (.set 6 (.cn (.int .i64 0))
        (.blk 2
          (.loop
            (.chk (.un .ln (.vr 0))
            (.chk (.bn (.cm .lss .i64) (.vr 6) (.un .ln (.vr 0)))
            (.set 52 (.bn (.cm .lss .i64) (.vr 6) (.un .ln (.vr 0)))
            (.ite (.vr 52)
              .nil
              (.exit 2)
            (.blk 3
              (.draw
              (.chk (.bn (.cm .neq .i64) (.vr 5) (.vr 6))
              (.chk (.gd (.bn (.cm .neq .i64) (.vr 5) (.vr 6)) true (.bn (.ia 1) (.vr 0) (.vr 5)))
              (.chk (.gd (.bn (.cm .neq .i64) (.vr 5) (.vr 6)) true (.ld (.bn (.ia 1) (.vr 0) (.vr 5))))
              (.chk (.gd (.bn (.cm .neq .i64) (.vr 5) (.vr 6)) true (.bn (.cm .gtr .i64) (.ld (.bn (.ia 1) (.vr 0) (.vr 5))) (.cn (.int .i64 0))))
              (.chk (.gd (.and (.bn (.cm .neq .i64) (.vr 5) (.vr 6)) (.bn (.cm .gtr .i64) (.ld (.bn (.ia 1) (.vr 0) (.vr 5))) (.cn (.int .i64 0)))) true (.bn (.ia 1) (.vr 0) (.vr 6)))
              (.chk (.gd (.and (.bn (.cm .neq .i64) (.vr 5) (.vr 6)) (.bn (.cm .gtr .i64) (.ld (.bn (.ia 1) (.vr 0) (.vr 5))) (.cn (.int .i64 0)))) true (.ld (.bn (.ia 1) (.vr 0) (.vr 6))))
              (.chk (.gd (.and (.bn (.cm .neq .i64) (.vr 5) (.vr 6)) (.bn (.cm .gtr .i64) (.ld (.bn (.ia 1) (.vr 0) (.vr 5))) (.cn (.int .i64 0)))) true (.bn (.ia 1) (.vr 0) (.vr 5)))
              (.chk (.gd (.and (.bn (.cm .neq .i64) (.vr 5) (.vr 6)) (.bn (.cm .gtr .i64) (.ld (.bn (.ia 1) (.vr 0) (.vr 5))) (.cn (.int .i64 0)))) true (.ld (.bn (.ia 1) (.vr 0) (.vr 5))))
              (.chk (.gd (.and (.bn (.cm .neq .i64) (.vr 5) (.vr 6)) (.bn (.cm .gtr .i64) (.ld (.bn (.ia 1) (.vr 0) (.vr 5))) (.cn (.int .i64 0)))) true (.bn (.cm .geq .i64) (.ld (.bn (.ia 1) (.vr 0) (.vr 6))) (.ld (.bn (.ia 1) (.vr 0) (.vr 5)))))
              (.chk (.gd (.and (.and (.bn (.cm .neq .i64) (.vr 5) (.vr 6)) (.bn (.cm .gtr .i64) (.ld (.bn (.ia 1) (.vr 0) (.vr 5))) (.cn (.int .i64 0)))) (.bn (.cm .geq .i64) (.ld (.bn (.ia 1) (.vr 0) (.vr 6))) (.ld (.bn (.ia 1) (.vr 0) (.vr 5))))) true (.bn (.ia 1) (.vr 3) (.vr 6)))
              (.chk (.gd (.and (.and (.bn (.cm .neq .i64) (.vr 5) (.vr 6)) (.bn (.cm .gtr .i64) (.ld (.bn (.ia 1) (.vr 0) (.vr 5))) (.cn (.int .i64 0)))) (.bn (.cm .geq .i64) (.ld (.bn (.ia 1) (.vr 0) (.vr 6))) (.ld (.bn (.ia 1) (.vr 0) (.vr 5))))) true (.ld (.bn (.ia 1) (.vr 3) (.vr 6))))
              (.chk (.gd (.and (.and (.bn (.cm .neq .i64) (.vr 5) (.vr 6)) (.bn (.cm .gtr .i64) (.ld (.bn (.ia 1) (.vr 0) (.vr 5))) (.cn (.int .i64 0)))) (.bn (.cm .geq .i64) (.ld (.bn (.ia 1) (.vr 0) (.vr 6))) (.ld (.bn (.ia 1) (.vr 0) (.vr 5))))) true (.bn (.ia 1) (.vr 0) (.vr 6)))
              (.chk (.gd (.and (.and (.bn (.cm .neq .i64) (.vr 5) (.vr 6)) (.bn (.cm .gtr .i64) (.ld (.bn (.ia 1) (.vr 0) (.vr 5))) (.cn (.int .i64 0)))) (.bn (.cm .geq .i64) (.ld (.bn (.ia 1) (.vr 0) (.vr 6))) (.ld (.bn (.ia 1) (.vr 0) (.vr 5))))) true (.ld (.bn (.ia 1) (.vr 0) (.vr 6))))
              (.chk (.gd (.and (.and (.bn (.cm .neq .i64) (.vr 5) (.vr 6)) (.bn (.cm .gtr .i64) (.ld (.bn (.ia 1) (.vr 0) (.vr 5))) (.cn (.int .i64 0)))) (.bn (.cm .geq .i64) (.ld (.bn (.ia 1) (.vr 0) (.vr 6))) (.ld (.bn (.ia 1) (.vr 0) (.vr 5))))) true (.bn (.ia 1) (.vr 0) (.vr 5)))
              (.chk (.gd (.and (.and (.bn (.cm .neq .i64) (.vr 5) (.vr 6)) (.bn (.cm .gtr .i64) (.ld (.bn (.ia 1) (.vr 0) (.vr 5))) (.cn (.int .i64 0)))) (.bn (.cm .geq .i64) (.ld (.bn (.ia 1) (.vr 0) (.vr 6))) (.ld (.bn (.ia 1) (.vr 0) (.vr 5))))) true (.ld (.bn (.ia 1) (.vr 0) (.vr 5))))
              (.chk (.gd (.and (.and (.bn (.cm .neq .i64) (.vr 5) (.vr 6)) (.bn (.cm .gtr .i64) (.ld (.bn (.ia 1) (.vr 0) (.vr 5))) (.cn (.int .i64 0)))) (.bn (.cm .geq .i64) (.ld (.bn (.ia 1) (.vr 0) (.vr 6))) (.ld (.bn (.ia 1) (.vr 0) (.vr 5))))) true (.bn (.ar .sub .i64) (.ld (.bn (.ia 1) (.vr 0) (.vr 6))) (.ld (.bn (.ia 1) (.vr 0) (.vr 5)))))
              (.chk (.gd (.and (.and (.bn (.cm .neq .i64) (.vr 5) (.vr 6)) (.bn (.cm .gtr .i64) (.ld (.bn (.ia 1) (.vr 0) (.vr 5))) (.cn (.int .i64 0)))) (.bn (.cm .geq .i64) (.ld (.bn (.ia 1) (.vr 0) (.vr 6))) (.ld (.bn (.ia 1) (.vr 0) (.vr 5))))) true (.bn (.sh false .u64) (.ld (.bn (.ia 1) (.vr 3) (.vr 6))) (.un (.cv .u64) (.bn (.ar .sub .i64) (.ld (.bn (.ia 1) (.vr 0) (.vr 6))) (.ld (.bn (.ia 1) (.vr 0) (.vr 5)))))))
              (.chk (.gd (.and (.and (.bn (.cm .neq .i64) (.vr 5) (.vr 6)) (.bn (.cm .gtr .i64) (.ld (.bn (.ia 1) (.vr 0) (.vr 5))) (.cn (.int .i64 0)))) (.bn (.cm .geq .i64) (.ld (.bn (.ia 1) (.vr 0) (.vr 6))) (.ld (.bn (.ia 1) (.vr 0) (.vr 5))))) true (.bn (.ia 1) (.vr 3) (.vr 5)))
              (.chk (.gd (.and (.and (.bn (.cm .neq .i64) (.vr 5) (.vr 6)) (.bn (.cm .gtr .i64) (.ld (.bn (.ia 1) (.vr 0) (.vr 5))) (.cn (.int .i64 0)))) (.bn (.cm .geq .i64) (.ld (.bn (.ia 1) (.vr 0) (.vr 6))) (.ld (.bn (.ia 1) (.vr 0) (.vr 5))))) true (.ld (.bn (.ia 1) (.vr 3) (.vr 5))))
              (.chk (.gd (.and (.and (.bn (.cm .neq .i64) (.vr 5) (.vr 6)) (.bn (.cm .gtr .i64) (.ld (.bn (.ia 1) (.vr 0) (.vr 5))) (.cn (.int .i64 0)))) (.bn (.cm .geq .i64) (.ld (.bn (.ia 1) (.vr 0) (.vr 6))) (.ld (.bn (.ia 1) (.vr 0) (.vr 5))))) true (.bn (.cm .eql .u64) (.bn (.sh false .u64) (.ld (.bn (.ia 1) (.vr 3) (.vr 6))) (.un (.cv .u64) (.bn (.ar .sub .i64) (.ld (.bn (.ia 1) (.vr 0) (.vr 6))) (.ld (.bn (.ia 1) (.vr 0) (.vr 5)))))) (.ld (.bn (.ia 1) (.vr 3) (.vr 5)))))
              (.set 97 (.and (.and (.and (.bn (.cm .neq .i64) (.vr 5) (.vr 6)) (.bn (.cm .gtr .i64) (.ld (.bn (.ia 1) (.vr 0) (.vr 5))) (.cn (.int .i64 0)))) (.bn (.cm .geq .i64) (.ld (.bn (.ia 1) (.vr 0) (.vr 6))) (.ld (.bn (.ia 1) (.vr 0) (.vr 5))))) (.bn (.cm .eql .u64) (.bn (.sh false .u64) (.ld (.bn (.ia 1) (.vr 3) (.vr 6))) (.un (.cv .u64) (.bn (.ar .sub .i64) (.ld (.bn (.ia 1) (.vr 0) (.vr 6))) (.ld (.bn (.ia 1) (.vr 0) (.vr 5)))))) (.ld (.bn (.ia 1) (.vr 3) (.vr 5)))))
              (.ite (.vr 97)
                (.set 2 (.cn (.bool false))
                .ret)
                .nil
              .nil)))))))))))))))))))))))
            (.chk (.bn (.ar .add .i64) (.vr 6) (.cn (.int .i64 1)))
            (.set 6 (.bn (.ar .add .i64) (.vr 6) (.cn (.int .i64 1)))
            .nil))))))))
        .nil)))))))))))
      (.chk (.bn (.ar .add .i64) (.vr 5) (.cn (.int .i64 1)))
      (.set 5 (.bn (.ar .add .i64) (.vr 5) (.cn (.int .i64 1)))
      .nil))))))))
  (.set 2 (.cn (.bool true))
  .ret))))))))))))))))))))))))))))
def fc4 : Fc := ⟨98, s4, [(.vr 2)]⟩
theorem c4 : compF Try.prog 4 = some fc4 := by kernel_rfl

/-- kinora/kinoralaw7.PrefixOften · parameters 2 · 0:freq 1:most 5:lens 6:e 7:i 8:k -/
def s5 : S :=
  (.set 4 (.cn (.bool false))
  (.call (some 9) 11 [] []
  (.chk (.un .not (.vr 9))
  (.set 10 (.un .not (.vr 9))
  (.ite (.vr 10)
    (.set 4 (.cn (.bool false))
    .ret)
    .nil
  (.chk (.un .ln (.vr 0))
  (.set 13 (.bn (.cm .gtr .i64) (.un .ln (.vr 0)) (.cn (.int .i64 60)))
  (.ite (.vr 13)
    (.set 4 (.cn (.bool true))
    .ret)
    .nil
  (.call (some 17) 12 [(.vr 0), (.vr 1)] []
  (.chk (.un (.ex 0) (.vr 17))
  (.chk (.un (.ex 1) (.vr 17))
  (.set 5 (.un (.ex 0) (.vr 17))
  (.set 6 (.un (.ex 1) (.vr 17))
  (.chk (.bn (.cm .neq .i64) (.vr 6) (.cn (.int .i64 0)))
  (.set 21 (.bn (.cm .neq .i64) (.vr 6) (.cn (.int .i64 0)))
  (.ite (.vr 21)
    (.set 4 (.cn (.bool true))
    .ret)
    .nil
  (.chk (.un .ln (.vr 5))
  (.chk (.un .ln (.vr 0))
  (.set 26 (.bn (.cm .neq .i64) (.un .ln (.vr 5)) (.un .ln (.vr 0)))
  (.ite (.vr 26)
    (.set 4 (.cn (.bool false))
    .ret)
    .nil
  (.set 7 (.cn (.int .i64 0))
  (.blk 0
    (.loop
      (.chk (.un .ln (.vr 0))
      (.chk (.bn (.cm .lss .i64) (.vr 7) (.un .ln (.vr 0)))
      (.set 30 (.bn (.cm .lss .i64) (.vr 7) (.un .ln (.vr 0)))
      (.ite (.vr 30)
        .nil
        (.exit 0)
      (.blk 1
        (.set 8 (.cn (.int .i64 0))
        (.blk 2
          (.loop
            (.chk (.un .ln (.vr 0))
            (.chk (.bn (.cm .lss .i64) (.vr 8) (.un .ln (.vr 0)))
            (.set 36 (.bn (.cm .lss .i64) (.vr 8) (.un .ln (.vr 0)))
            (.ite (.vr 36)
              .nil
              (.exit 2)
            (.blk 3
              (.draw
              (.chk (.bn (.ia 1) (.vr 0) (.vr 7))
              (.chk (.ld (.bn (.ia 1) (.vr 0) (.vr 7)))
              (.chk (.bn (.ia 1) (.vr 0) (.vr 8))
              (.chk (.ld (.bn (.ia 1) (.vr 0) (.vr 8)))
              (.chk (.bn (.cm .gtr .i64) (.ld (.bn (.ia 1) (.vr 0) (.vr 7))) (.ld (.bn (.ia 1) (.vr 0) (.vr 8))))
              (.chk (.gd (.bn (.cm .gtr .i64) (.ld (.bn (.ia 1) (.vr 0) (.vr 7))) (.ld (.bn (.ia 1) (.vr 0) (.vr 8)))) true (.bn (.ia 1) (.vr 0) (.vr 8)))
              (.chk (.gd (.bn (.cm .gtr .i64) (.ld (.bn (.ia 1) (.vr 0) (.vr 7))) (.ld (.bn (.ia 1) (.vr 0) (.vr 8)))) true (.ld (.bn (.ia 1) (.vr 0) (.vr 8))))
              (.chk (.gd (.bn (.cm .gtr .i64) (.ld (.bn (.ia 1) (.vr 0) (.vr 7))) (.ld (.bn (.ia 1) (.vr 0) (.vr 8)))) true (.bn (.cm .gtr .i64) (.ld (.bn (.ia 1) (.vr 0) (.vr 8))) (.cn (.int .i64 0))))
              (.chk (.gd (.and (.bn (.cm .gtr .i64) (.ld (.bn (.ia 1) (.vr 0) (.vr 7))) (.ld (.bn (.ia 1) (.vr 0) (.vr 8)))) (.bn (.cm .gtr .i64) (.ld (.bn (.ia 1) (.vr 0) (.vr 8))) (.cn (.int .i64 0)))) true (.bn (.ia 1) (.vr 5) (.vr 7)))
              (.chk (.gd (.and (.bn (.cm .gtr .i64) (.ld (.bn (.ia 1) (.vr 0) (.vr 7))) (.ld (.bn (.ia 1) (.vr 0) (.vr 8)))) (.bn (.cm .gtr .i64) (.ld (.bn (.ia 1) (.vr 0) (.vr 8))) (.cn (.int .i64 0)))) true (.ld (.bn (.ia 1) (.vr 5) (.vr 7))))
              (.chk (.gd (.and (.bn (.cm .gtr .i64) (.ld (.bn (.ia 1) (.vr 0) (.vr 7))) (.ld (.bn (.ia 1) (.vr 0) (.vr 8)))) (.bn (.cm .gtr .i64) (.ld (.bn (.ia 1) (.vr 0) (.vr 8))) (.cn (.int .i64 0)))) true (.bn (.ia 1) (.vr 5) (.vr 8)))
              (.chk (.gd (.and (.bn (.cm .gtr .i64) (.ld (.bn (.ia 1) (.vr 0) (.vr 7))) (.ld (.bn (.ia 1) (.vr 0) (.vr 8)))) (.bn (.cm .gtr .i64) (.ld (.bn (.ia 1) (.vr 0) (.vr 8))) (.cn (.int .i64 0)))) true (.ld (.bn (.ia 1) (.vr 5) (.vr 8))))
              (.chk (.gd (.and (.bn (.cm .gtr .i64) (.ld (.bn (.ia 1) (.vr 0) (.vr 7))) (.ld (.bn (.ia 1) (.vr 0) (.vr 8)))) (.bn (.cm .gtr .i64) (.ld (.bn (.ia 1) (.vr 0) (.vr 8))) (.cn (.int .i64 0)))) true (.bn (.cm .gtr .i64) (.ld (.bn (.ia 1) (.vr 5) (.vr 7))) (.ld (.bn (.ia 1) (.vr 5) (.vr 8)))))
              (.set 65 (.and (.and (.bn (.cm .gtr .i64) (.ld (.bn (.ia 1) (.vr 0) (.vr 7))) (.ld (.bn (.ia 1) (.vr 0) (.vr 8)))) (.bn (.cm .gtr .i64) (.ld (.bn (.ia 1) (.vr 0) (.vr 8))) (.cn (.int .i64 0)))) (.bn (.cm .gtr .i64) (.ld (.bn (.ia 1) (.vr 5) (.vr 7))) (.ld (.bn (.ia 1) (.vr 5) (.vr 8)))))
              (.ite (.vr 65)
                (.set 4 (.cn (.bool false))
                .ret)
                .nil
              .nil))))))))))))))))
            (.chk (.bn (.ar .add .i64) (.vr 8) (.cn (.int .i64 1)))
            (.set 8 (.bn (.ar .add .i64) (.vr 8) (.cn (.int .i64 1)))
            .nil))))))))
        .nil))
      (.chk (.bn (.ar .add .i64) (.vr 7) (.cn (.int .i64 1)))
      (.set 7 (.bn (.ar .add .i64) (.vr 7) (.cn (.int .i64 1)))
      .nil))))))))
  (.set 4 (.cn (.bool true))
  .ret)))))))))))))))))))))))
def fc5 : Fc := ⟨66, s5, [(.vr 4)]⟩
theorem c5 : compF Try.prog 5 = some fc5 := by kernel_rfl

/-- kinora/kinoralaw7.PrefixTells · parameters 2 · 0:lens 1:freq 5:c 6:e 7:d 8:f 9:i -/
def s6 : S :=
  (.set 4 (.cn (.bool false))
  (.call (some 10) 11 [] []
  (.chk (.un .not (.vr 10))
  (.set 11 (.un .not (.vr 10))
  (.ite (.vr 11)
    (.set 4 (.cn (.bool false))
    .ret)
    .nil
  (.chk (.un .ln (.vr 0))
  (.chk (.gd (.bn (.cm .gtr .i64) (.un .ln (.vr 0)) (.cn (.int .i64 1100))) false (.un .ln (.vr 1)))
  (.set 19 (.or (.bn (.cm .gtr .i64) (.un .ln (.vr 0)) (.cn (.int .i64 1100))) (.bn (.cm .gtr .i64) (.un .ln (.vr 1)) (.cn (.int .i64 1100))))
  (.ite (.vr 19)
    (.set 4 (.cn (.bool true))
    .ret)
    .nil
  (.call (some 22) 15 [(.vr 0)] []
  (.chk (.un (.ex 0) (.vr 22))
  (.chk (.un (.ex 1) (.vr 22))
  (.set 5 (.un (.ex 0) (.vr 22))
  (.set 6 (.un (.ex 1) (.vr 22))
  (.call (some 27) 17 [(.vr 0)] []
  (.chk (.un (.ex 0) (.vr 27))
  (.chk (.un (.ex 1) (.vr 27))
  (.set 7 (.un (.ex 0) (.vr 27))
  (.set 8 (.un (.ex 1) (.vr 27))
  (.set 9 (.cn (.int .i64 0))
  (.blk 0
    (.loop
      (.chk (.un .ln (.vr 1))
      (.chk (.bn (.cm .lss .i64) (.vr 9) (.un .ln (.vr 1)))
      (.chk (.gd (.bn (.cm .lss .i64) (.vr 9) (.un .ln (.vr 1))) true (.un .ln (.vr 0)))
      (.chk (.gd (.bn (.cm .lss .i64) (.vr 9) (.un .ln (.vr 1))) true (.bn (.cm .lss .i64) (.vr 9) (.un .ln (.vr 0))))
      (.set 39 (.and (.bn (.cm .lss .i64) (.vr 9) (.un .ln (.vr 1))) (.bn (.cm .lss .i64) (.vr 9) (.un .ln (.vr 0))))
      (.ite (.vr 39)
        .nil
        (.exit 0)
      (.blk 1
        (.chk (.bn (.ia 1) (.vr 1) (.vr 9))
        (.chk (.ld (.bn (.ia 1) (.vr 1) (.vr 9)))
        (.chk (.bn (.cm .lss .i64) (.ld (.bn (.ia 1) (.vr 1) (.vr 9))) (.cn (.int .i64 0)))
        (.chk (.gd (.bn (.cm .lss .i64) (.ld (.bn (.ia 1) (.vr 1) (.vr 9))) (.cn (.int .i64 0))) false (.bn (.ia 1) (.vr 1) (.vr 9)))
        (.chk (.gd (.bn (.cm .lss .i64) (.ld (.bn (.ia 1) (.vr 1) (.vr 9))) (.cn (.int .i64 0))) false (.ld (.bn (.ia 1) (.vr 1) (.vr 9))))
        (.chk (.gd (.bn (.cm .lss .i64) (.ld (.bn (.ia 1) (.vr 1) (.vr 9))) (.cn (.int .i64 0))) false (.bn (.cm .gtr .i64) (.ld (.bn (.ia 1) (.vr 1) (.vr 9))) (.cn (.int .i64 1099511627776))))
        (.chk (.gd (.or (.bn (.cm .lss .i64) (.ld (.bn (.ia 1) (.vr 1) (.vr 9))) (.cn (.int .i64 0))) (.bn (.cm .gtr .i64) (.ld (.bn (.ia 1) (.vr 1) (.vr 9))) (.cn (.int .i64 1099511627776)))) false (.bn (.ia 1) (.vr 0) (.vr 9)))
        (.chk (.gd (.or (.bn (.cm .lss .i64) (.ld (.bn (.ia 1) (.vr 1) (.vr 9))) (.cn (.int .i64 0))) (.bn (.cm .gtr .i64) (.ld (.bn (.ia 1) (.vr 1) (.vr 9))) (.cn (.int .i64 1099511627776)))) false (.ld (.bn (.ia 1) (.vr 0) (.vr 9))))
        (.chk (.gd (.or (.bn (.cm .lss .i64) (.ld (.bn (.ia 1) (.vr 1) (.vr 9))) (.cn (.int .i64 0))) (.bn (.cm .gtr .i64) (.ld (.bn (.ia 1) (.vr 1) (.vr 9))) (.cn (.int .i64 1099511627776)))) false (.bn (.cm .lss .i64) (.ld (.bn (.ia 1) (.vr 0) (.vr 9))) (.cn (.int .i64 0))))
        (.chk (.gd (.or (.or (.bn (.cm .lss .i64) (.ld (.bn (.ia 1) (.vr 1) (.vr 9))) (.cn (.int .i64 0))) (.bn (.cm .gtr .i64) (.ld (.bn (.ia 1) (.vr 1) (.vr 9))) (.cn (.int .i64 1099511627776)))) (.bn (.cm .lss .i64) (.ld (.bn (.ia 1) (.vr 0) (.vr 9))) (.cn (.int .i64 0)))) false (.bn (.ia 1) (.vr 0) (.vr 9)))
        (.chk (.gd (.or (.or (.bn (.cm .lss .i64) (.ld (.bn (.ia 1) (.vr 1) (.vr 9))) (.cn (.int .i64 0))) (.bn (.cm .gtr .i64) (.ld (.bn (.ia 1) (.vr 1) (.vr 9))) (.cn (.int .i64 1099511627776)))) (.bn (.cm .lss .i64) (.ld (.bn (.ia 1) (.vr 0) (.vr 9))) (.cn (.int .i64 0)))) false (.ld (.bn (.ia 1) (.vr 0) (.vr 9))))
        (.chk (.gd (.or (.or (.bn (.cm .lss .i64) (.ld (.bn (.ia 1) (.vr 1) (.vr 9))) (.cn (.int .i64 0))) (.bn (.cm .gtr .i64) (.ld (.bn (.ia 1) (.vr 1) (.vr 9))) (.cn (.int .i64 1099511627776)))) (.bn (.cm .lss .i64) (.ld (.bn (.ia 1) (.vr 0) (.vr 9))) (.cn (.int .i64 0)))) false (.bn (.cm .gtr .i64) (.ld (.bn (.ia 1) (.vr 0) (.vr 9))) (.cn (.int .i64 64))))
        (.set 67 (.or (.or (.or (.bn (.cm .lss .i64) (.ld (.bn (.ia 1) (.vr 1) (.vr 9))) (.cn (.int .i64 0))) (.bn (.cm .gtr .i64) (.ld (.bn (.ia 1) (.vr 1) (.vr 9))) (.cn (.int .i64 1099511627776)))) (.bn (.cm .lss .i64) (.ld (.bn (.ia 1) (.vr 0) (.vr 9))) (.cn (.int .i64 0)))) (.bn (.cm .gtr .i64) (.ld (.bn (.ia 1) (.vr 0) (.vr 9))) (.cn (.int .i64 64))))
        (.ite (.vr 67)
          (.call (some 69) 16 [(.vr 0)] []
          (.call (some 71) 18 [(.vr 0)] []
          (.chk (.bn (.eqb false) (.vr 69) (.vr 71))
          (.set 73 (.bn (.eqb false) (.vr 69) (.vr 71))
          (.ifg (.vr 73) true
            (.call (some 76) 19 [(.vr 5), (.vr 7)] []
            .nil)
            (.set 76 (.cn undef)
            .nil)
          (.chk (.pk (.vr 73) (.vr 76) (.cn (.bool false)))
          (.set 78 (.pk (.vr 73) (.vr 76) (.cn (.bool false)))
          (.chk (.gd (.vr 78) true (.bn (.cm .eql .i64) (.vr 6) (.vr 8)))
          (.chk (.and (.vr 78) (.bn (.cm .eql .i64) (.vr 6) (.vr 8)))
          (.set 4 (.and (.vr 78) (.bn (.cm .eql .i64) (.vr 6) (.vr 8)))
          .ret))))))))))
          .nil
        .nil))))))))))))))
      (.chk (.bn (.ar .add .i64) (.vr 9) (.cn (.int .i64 1)))
      (.set 9 (.bn (.ar .add .i64) (.vr 9) (.cn (.int .i64 1)))
      .nil))))))))))
  (.call (some 84) 16 [(.vr 0)] []
  (.call (some 86) 18 [(.vr 0)] []
  (.chk (.bn (.eqb false) (.vr 84) (.vr 86))
  (.set 88 (.bn (.eqb false) (.vr 84) (.vr 86))
  (.ifg (.vr 88) true
    (.call (some 91) 19 [(.vr 5), (.vr 7)] []
    .nil)
    (.set 91 (.cn undef)
    .nil)
  (.chk (.pk (.vr 88) (.vr 91) (.cn (.bool false)))
  (.set 93 (.pk (.vr 88) (.vr 91) (.cn (.bool false)))
  (.chk (.gd (.vr 93) true (.bn (.cm .eql .i64) (.vr 6) (.vr 8)))
  (.chk (.and (.vr 93) (.bn (.cm .eql .i64) (.vr 6) (.vr 8)))
  (.set 98 (.and (.vr 93) (.bn (.cm .eql .i64) (.vr 6) (.vr 8)))
  (.ifg (.vr 98) true
    (.call (some 101) 20 [(.vr 1), (.vr 0)] []
    .nil)
    (.set 101 (.cn undef)
    .nil)
  (.ifg (.vr 98) true
    (.call (some 104) 21 [(.vr 1), (.vr 0)] []
    .nil)
    (.set 104 (.cn undef)
    .nil)
  (.chk (.gd (.vr 98) true (.bn (.cm .eql .i64) (.vr 101) (.vr 104)))
  (.chk (.and (.vr 98) (.bn (.cm .eql .i64) (.vr 101) (.vr 104)))
  (.set 4 (.and (.vr 98) (.bn (.cm .eql .i64) (.vr 101) (.vr 104)))
  .ret))))))))))))))))))))))))))))))))))))
def fc6 : Fc := ⟨107, s6, [(.vr 4)]⟩
theorem c6 : compF Try.prog 6 = some fc6 := by kernel_rfl

/-- kinora/kinoralaw7.PrefixLeast · parameters 3 · 0:freq 1:most 2:other 7:lens 8:e 9:fits 10:i -/
def s7 : S :=
  (.set 6 (.cn (.bool false))
  (.call (some 11) 11 [] []
  (.chk (.un .not (.vr 11))
  (.set 12 (.un .not (.vr 11))
  (.ite (.vr 12)
    (.set 6 (.cn (.bool false))
    .ret)
    .nil
  (.chk (.un .ln (.vr 0))
  (.set 15 (.bn (.cm .gtr .i64) (.un .ln (.vr 0)) (.cn (.int .i64 60)))
  (.ite (.vr 15)
    (.set 6 (.cn (.bool true))
    .ret)
    .nil
  (.call (some 19) 12 [(.vr 0), (.vr 1)] []
  (.chk (.un (.ex 0) (.vr 19))
  (.chk (.un (.ex 1) (.vr 19))
  (.set 7 (.un (.ex 0) (.vr 19))
  (.set 8 (.un (.ex 1) (.vr 19))
  (.chk (.bn (.cm .neq .i64) (.vr 8) (.cn (.int .i64 0)))
  (.set 23 (.bn (.cm .neq .i64) (.vr 8) (.cn (.int .i64 0)))
  (.ite (.vr 23)
    (.set 6 (.cn (.bool true))
    .ret)
    .nil
  (.call (some 25) 16 [(.vr 7)] []
  (.chk (.un .not (.vr 25))
  (.set 27 (.un .not (.vr 25))
  (.chk (.gd (.vr 27) false (.un .ln (.vr 7)))
  (.chk (.gd (.vr 27) false (.un .ln (.vr 0)))
  (.chk (.or (.vr 27) (.bn (.cm .neq .i64) (.un .ln (.vr 7)) (.un .ln (.vr 0))))
  (.set 33 (.or (.vr 27) (.bn (.cm .neq .i64) (.un .ln (.vr 7)) (.un .ln (.vr 0))))
  (.ite (.vr 33)
    (.set 6 (.cn (.bool false))
    .ret)
    .nil
  (.chk (.un .ln (.vr 2))
  (.chk (.un .ln (.vr 0))
  (.set 39 (.bn (.cm .eql .i64) (.un .ln (.vr 2)) (.un .ln (.vr 0)))
  (.ifg (.vr 39) true
    (.call (some 41) 18 [(.vr 2)] []
    .nil)
    (.set 41 (.cn undef)
    .nil)
  (.chk (.pk (.vr 39) (.vr 41) (.cn (.bool false)))
  (.set 9 (.pk (.vr 39) (.vr 41) (.cn (.bool false)))
  (.set 10 (.cn (.int .i64 0))
  (.blk 0
    (.loop
      (.chk (.un .ln (.vr 0))
      (.chk (.bn (.cm .lss .i64) (.vr 10) (.un .ln (.vr 0)))
      (.set 46 (.bn (.cm .lss .i64) (.vr 10) (.un .ln (.vr 0)))
      (.ite (.vr 46)
        .nil
        (.exit 0)
      (.blk 1
        (.draw
        (.chk (.bn (.ia 1) (.vr 7) (.vr 10))
        (.chk (.ld (.bn (.ia 1) (.vr 7) (.vr 10)))
        (.chk (.bn (.cm .gtr .i64) (.ld (.bn (.ia 1) (.vr 7) (.vr 10))) (.cn (.int .i64 0)))
        (.chk (.bn (.ia 1) (.vr 0) (.vr 10))
        (.chk (.ld (.bn (.ia 1) (.vr 0) (.vr 10)))
        (.chk (.bn (.cm .gtr .i64) (.ld (.bn (.ia 1) (.vr 0) (.vr 10))) (.cn (.int .i64 0)))
        (.chk (.gd (.bn (.eqb true) (.bn (.cm .gtr .i64) (.ld (.bn (.ia 1) (.vr 7) (.vr 10))) (.cn (.int .i64 0))) (.bn (.cm .gtr .i64) (.ld (.bn (.ia 1) (.vr 0) (.vr 10))) (.cn (.int .i64 0)))) false (.bn (.ia 1) (.vr 7) (.vr 10)))
        (.chk (.gd (.bn (.eqb true) (.bn (.cm .gtr .i64) (.ld (.bn (.ia 1) (.vr 7) (.vr 10))) (.cn (.int .i64 0))) (.bn (.cm .gtr .i64) (.ld (.bn (.ia 1) (.vr 0) (.vr 10))) (.cn (.int .i64 0)))) false (.ld (.bn (.ia 1) (.vr 7) (.vr 10))))
        (.chk (.gd (.bn (.eqb true) (.bn (.cm .gtr .i64) (.ld (.bn (.ia 1) (.vr 7) (.vr 10))) (.cn (.int .i64 0))) (.bn (.cm .gtr .i64) (.ld (.bn (.ia 1) (.vr 0) (.vr 10))) (.cn (.int .i64 0)))) false (.bn (.cm .gtr .i64) (.ld (.bn (.ia 1) (.vr 7) (.vr 10))) (.vr 1)))
        (.set 67 (.or (.bn (.eqb true) (.bn (.cm .gtr .i64) (.ld (.bn (.ia 1) (.vr 7) (.vr 10))) (.cn (.int .i64 0))) (.bn (.cm .gtr .i64) (.ld (.bn (.ia 1) (.vr 0) (.vr 10))) (.cn (.int .i64 0)))) (.bn (.cm .gtr .i64) (.ld (.bn (.ia 1) (.vr 7) (.vr 10))) (.vr 1)))
        (.ite (.vr 67)
          (.set 6 (.cn (.bool false))
          .ret)
          .nil
        (.draw
        (.chk (.gd (.vr 9) true (.bn (.ia 1) (.vr 2) (.vr 10)))
        (.chk (.gd (.vr 9) true (.ld (.bn (.ia 1) (.vr 2) (.vr 10))))
        (.chk (.gd (.vr 9) true (.bn (.cm .gtr .i64) (.ld (.bn (.ia 1) (.vr 2) (.vr 10))) (.cn (.int .i64 0))))
        (.chk (.gd (.vr 9) true (.bn (.ia 1) (.vr 0) (.vr 10)))
        (.chk (.gd (.vr 9) true (.ld (.bn (.ia 1) (.vr 0) (.vr 10))))
        (.chk (.gd (.vr 9) true (.bn (.cm .gtr .i64) (.ld (.bn (.ia 1) (.vr 0) (.vr 10))) (.cn (.int .i64 0))))
        (.chk (.and (.vr 9) (.bn (.eqb false) (.bn (.cm .gtr .i64) (.ld (.bn (.ia 1) (.vr 2) (.vr 10))) (.cn (.int .i64 0))) (.bn (.cm .gtr .i64) (.ld (.bn (.ia 1) (.vr 0) (.vr 10))) (.cn (.int .i64 0)))))
        (.chk (.gd (.and (.vr 9) (.bn (.eqb false) (.bn (.cm .gtr .i64) (.ld (.bn (.ia 1) (.vr 2) (.vr 10))) (.cn (.int .i64 0))) (.bn (.cm .gtr .i64) (.ld (.bn (.ia 1) (.vr 0) (.vr 10))) (.cn (.int .i64 0))))) true (.bn (.ia 1) (.vr 2) (.vr 10)))
        (.chk (.gd (.and (.vr 9) (.bn (.eqb false) (.bn (.cm .gtr .i64) (.ld (.bn (.ia 1) (.vr 2) (.vr 10))) (.cn (.int .i64 0))) (.bn (.cm .gtr .i64) (.ld (.bn (.ia 1) (.vr 0) (.vr 10))) (.cn (.int .i64 0))))) true (.ld (.bn (.ia 1) (.vr 2) (.vr 10))))
        (.chk (.gd (.and (.vr 9) (.bn (.eqb false) (.bn (.cm .gtr .i64) (.ld (.bn (.ia 1) (.vr 2) (.vr 10))) (.cn (.int .i64 0))) (.bn (.cm .gtr .i64) (.ld (.bn (.ia 1) (.vr 0) (.vr 10))) (.cn (.int .i64 0))))) true (.bn (.cm .leq .i64) (.ld (.bn (.ia 1) (.vr 2) (.vr 10))) (.vr 1)))
        (.set 9 (.and (.and (.vr 9) (.bn (.eqb false) (.bn (.cm .gtr .i64) (.ld (.bn (.ia 1) (.vr 2) (.vr 10))) (.cn (.int .i64 0))) (.bn (.cm .gtr .i64) (.ld (.bn (.ia 1) (.vr 0) (.vr 10))) (.cn (.int .i64 0))))) (.bn (.cm .leq .i64) (.ld (.bn (.ia 1) (.vr 2) (.vr 10))) (.vr 1)))
        .nil))))))))))))))))))))))))
      (.chk (.bn (.ar .add .i64) (.vr 10) (.cn (.int .i64 1)))
      (.set 10 (.bn (.ar .add .i64) (.vr 10) (.cn (.int .i64 1)))
      .nil))))))))
  (.chk (.un .not (.vr 9))
  (.set 92 (.un .not (.vr 9))
  (.ifg (.vr 92) false
    (.call (some 95) 20 [(.vr 0), (.vr 7)] []
    .nil)
    (.set 95 (.cn undef)
    .nil)
  (.ifg (.vr 92) false
    (.call (some 98) 20 [(.vr 0), (.vr 2)] []
    .nil)
    (.set 98 (.cn undef)
    .nil)
  (.chk (.gd (.vr 92) false (.bn (.cm .leq .i64) (.vr 95) (.vr 98)))
  (.chk (.or (.vr 92) (.bn (.cm .leq .i64) (.vr 95) (.vr 98)))
  (.set 6 (.or (.vr 92) (.bn (.cm .leq .i64) (.vr 95) (.vr 98)))
  .ret)))))))))))))))))))))))))))))))))))))))
def fc7 : Fc := ⟨101, s7, [(.vr 6)]⟩
theorem c7 : compF Try.prog 7 = some fc7 := by kernel_rfl

/-- kinora/kinoralaw7.PrefixRoom · parameters 2 · 0:freq 1:most 5:a 6:e 7:b 8:f 9:c 10:g -/
def s8 : S :=
  (.set 4 (.cn (.bool false))
  (.call (some 11) 11 [] []
  (.chk (.un .not (.vr 11))
  (.set 12 (.un .not (.vr 11))
  (.ite (.vr 12)
    (.set 4 (.cn (.bool false))
    .ret)
    .nil
  (.chk (.un .ln (.vr 0))
  (.chk (.gd (.bn (.cm .gtr .i64) (.un .ln (.vr 0)) (.cn (.int .i64 24))) false (.bn (.cm .lss .i64) (.vr 1) (.cn (.int .i64 1))))
  (.chk (.gd (.or (.bn (.cm .gtr .i64) (.un .ln (.vr 0)) (.cn (.int .i64 24))) (.bn (.cm .lss .i64) (.vr 1) (.cn (.int .i64 1)))) false (.bn (.cm .geq .i64) (.vr 1) (.cn (.int .i64 24))))
  (.set 23 (.or (.or (.bn (.cm .gtr .i64) (.un .ln (.vr 0)) (.cn (.int .i64 24))) (.bn (.cm .lss .i64) (.vr 1) (.cn (.int .i64 1)))) (.bn (.cm .geq .i64) (.vr 1) (.cn (.int .i64 24))))
  (.ite (.vr 23)
    (.set 4 (.cn (.bool true))
    .ret)
    .nil
  (.call (some 27) 12 [(.vr 0), (.vr 1)] []
  (.chk (.un (.ex 0) (.vr 27))
  (.chk (.un (.ex 1) (.vr 27))
  (.set 5 (.un (.ex 0) (.vr 27))
  (.set 6 (.un (.ex 1) (.vr 27))
  (.chk (.bn (.ar .add .i64) (.vr 1) (.cn (.int .i64 1)))
  (.call (some 34) 12 [(.vr 0), (.bn (.ar .add .i64) (.vr 1) (.cn (.int .i64 1)))] []
  (.chk (.un (.ex 0) (.vr 34))
  (.chk (.un (.ex 1) (.vr 34))
  (.set 7 (.un (.ex 0) (.vr 34))
  (.set 8 (.un (.ex 1) (.vr 34))
  (.call (some 39) 12 [(.vr 0), (.cn (.int .i64 24))] []
  (.chk (.un (.ex 0) (.vr 39))
  (.chk (.un (.ex 1) (.vr 39))
  (.set 9 (.un (.ex 0) (.vr 39))
  (.set 10 (.un (.ex 1) (.vr 39))
  (.chk (.bn (.cm .neq .i64) (.vr 6) (.cn (.int .i64 0)))
  (.set 43 (.bn (.cm .neq .i64) (.vr 6) (.cn (.int .i64 0)))
  (.ite (.vr 43)
    (.chk (.bn (.cm .neq .i64) (.vr 6) (.cn (.int .i64 6)))
    (.chk (.gd (.bn (.cm .neq .i64) (.vr 6) (.cn (.int .i64 6))) false (.bn (.cm .eql .i64) (.vr 8) (.cn (.int .i64 0))))
    (.chk (.gd (.or (.bn (.cm .neq .i64) (.vr 6) (.cn (.int .i64 6))) (.bn (.cm .eql .i64) (.vr 8) (.cn (.int .i64 0)))) false (.bn (.cm .eql .i64) (.vr 8) (.cn (.int .i64 6))))
    (.set 4 (.or (.or (.bn (.cm .neq .i64) (.vr 6) (.cn (.int .i64 6))) (.bn (.cm .eql .i64) (.vr 8) (.cn (.int .i64 0)))) (.bn (.cm .eql .i64) (.vr 8) (.cn (.int .i64 6))))
    .ret))))
    .nil
  (.chk (.bn (.cm .eql .i64) (.vr 8) (.cn (.int .i64 0)))
  (.set 56 (.bn (.cm .eql .i64) (.vr 8) (.cn (.int .i64 0)))
  (.chk (.gd (.vr 56) true (.bn (.cm .eql .i64) (.vr 10) (.cn (.int .i64 0))))
  (.chk (.and (.vr 56) (.bn (.cm .eql .i64) (.vr 10) (.cn (.int .i64 0))))
  (.set 60 (.and (.vr 56) (.bn (.cm .eql .i64) (.vr 10) (.cn (.int .i64 0))))
  (.ifg (.vr 60) true
    (.call (some 63) 20 [(.vr 0), (.vr 7)] []
    .nil)
    (.set 63 (.cn undef)
    .nil)
  (.ifg (.vr 60) true
    (.call (some 66) 20 [(.vr 0), (.vr 5)] []
    .nil)
    (.set 66 (.cn undef)
    .nil)
  (.chk (.gd (.vr 60) true (.bn (.cm .leq .i64) (.vr 63) (.vr 66)))
  (.chk (.and (.vr 60) (.bn (.cm .leq .i64) (.vr 63) (.vr 66)))
  (.set 69 (.and (.vr 60) (.bn (.cm .leq .i64) (.vr 63) (.vr 66)))
  (.ifg (.vr 69) true
    (.call (some 72) 20 [(.vr 0), (.vr 9)] []
    .nil)
    (.set 72 (.cn undef)
    .nil)
  (.ifg (.vr 69) true
    (.call (some 75) 20 [(.vr 0), (.vr 7)] []
    .nil)
    (.set 75 (.cn undef)
    .nil)
  (.chk (.gd (.vr 69) true (.bn (.cm .leq .i64) (.vr 72) (.vr 75)))
  (.chk (.and (.vr 69) (.bn (.cm .leq .i64) (.vr 72) (.vr 75)))
  (.set 4 (.and (.vr 69) (.bn (.cm .leq .i64) (.vr 72) (.vr 75)))
  .ret))))))))))))))))))))))))))))))))))))))))))))
def fc8 : Fc := ⟨78, s8, [(.vr 4)]⟩
theorem c8 : compF Try.prog 8 = some fc8 := by kernel_rfl

/-- kinora/kinoralaw7.PrefixGets · parameters 4 · 0:b 1:lens 2:n 3:skip 9:r 10:s 11:l 12:e 13:m 14:f -/
def s9 : S :=
  (.set 8 (.cn (.bool false))
  (.call (some 15) 11 [] []
  (.chk (.un .not (.vr 15))
  (.set 16 (.un .not (.vr 15))
  (.ite (.vr 16)
    (.set 8 (.cn (.bool false))
    .ret)
    .nil
  (.chk (.un .ln (.vr 0))
  (.chk (.gd (.bn (.cm .gtr .i64) (.un .ln (.vr 0)) (.cn (.int .i64 100))) false (.un .ln (.vr 1)))
  (.set 24 (.or (.bn (.cm .gtr .i64) (.un .ln (.vr 0)) (.cn (.int .i64 100))) (.bn (.cm .gtr .i64) (.un .ln (.vr 1)) (.cn (.int .i64 300))))
  (.ite (.vr 24)
    (.set 8 (.cn (.bool true))
    .ret)
    .nil
  (.call (some 26) 22 [(.vr 0)] []
  (.call (some 28) 23 [(.vr 0)] []
  (.set 9 (.vr 26)
  (.set 10 (.vr 28)
  (.chk (.un (.pnil false) (.vr 9))
  (.set 30 (.un (.pnil false) (.vr 9))
  (.ite (.vr 30)
    (.set 8 (.cn (.bool false))
    .ret)
    .nil
  (.call (some 33) 24 [(.vr 9), (.vr 3)] []
  (.call (some 36) 25 [(.vr 10), (.vr 3)] []
  (.call (some 41) 26 [(.vr 9), (.vr 1), (.vr 2)] []
  (.chk (.un (.ex 0) (.vr 41))
  (.chk (.un (.ex 1) (.vr 41))
  (.set 11 (.un (.ex 0) (.vr 41))
  (.set 12 (.un (.ex 1) (.vr 41))
  (.call (some 48) 27 [(.vr 10), (.vr 1), (.vr 2)] []
  (.chk (.un (.ex 0) (.vr 48))
  (.chk (.un (.ex 1) (.vr 48))
  (.set 13 (.un (.ex 0) (.vr 48))
  (.set 14 (.un (.ex 1) (.vr 48))
  (.draw
  (.call (some 53) 14 [(.vr 11), (.vr 13)] []
  (.set 54 (.vr 53)
  (.chk (.gd (.vr 54) true (.bn (.cm .eql .i64) (.vr 12) (.vr 14)))
  (.chk (.and (.vr 54) (.bn (.cm .eql .i64) (.vr 12) (.vr 14)))
  (.set 59 (.and (.vr 54) (.bn (.cm .eql .i64) (.vr 12) (.vr 14)))
  (.chk (.gd (.vr 59) true (.bn (.cm .neq .i64) (.vr 12) (.cn (.int .i64 0))))
  (.set 62 (.gd (.vr 59) true (.bn (.cm .neq .i64) (.vr 12) (.cn (.int .i64 0))))
  (.chk (.gd (.vr 62) false (.un .nck (.vr 10)))
  (.chk (.gd (.vr 62) false (.un (.fa 1) (.un .nck (.vr 10))))
  (.chk (.gd (.vr 62) false (.ld (.un (.fa 1) (.un .nck (.vr 10)))))
  (.set 68 (.gd (.vr 62) false (.ld (.un (.fa 1) (.un .nck (.vr 10)))))
  (.ifg (.vr 62) false
    (.call (some 64) 28 [(.vr 9)] [⟨17, (.un (.fa 1) (.un .nck (.vr 10))), 1, (some ((.vr 62), false))⟩]
    .nil)
    (.set 64 (.cn undef)
    .nil)
  (.chk (.gd (.vr 62) false (.bn (.cm .eql .i64) (.vr 64) (.vr 68)))
  (.chk (.gd (.vr 59) true (.or (.vr 62) (.bn (.cm .eql .i64) (.vr 64) (.vr 68))))
  (.chk (.and (.vr 59) (.or (.vr 62) (.bn (.cm .eql .i64) (.vr 64) (.vr 68))))
  (.set 8 (.and (.vr 59) (.or (.vr 62) (.bn (.cm .eql .i64) (.vr 64) (.vr 68))))
  .ret)))))))))))))))))))))))))))))))))))))))))))))
def fc9 : Fc := ⟨72, s9, [(.vr 8)]⟩
theorem c9 : compF Try.prog 9 = some fc9 := by kernel_rfl

/-- kinora/kinoralaw7.PrefixBack · parameters 3 · 0:freq 1:most 2:picks 7:lens 8:e 9:used 10:l 11:i 12:i 13:w 14:f 15:g 16:r 17:m 18:h 19:x 20:i -/
def s10 : S :=
  (.set 6 (.cn (.bool false))
  (.call (some 21) 11 [] []
  (.chk (.un .not (.vr 21))
  (.set 22 (.un .not (.vr 21))
  (.ite (.vr 22)
    (.set 6 (.cn (.bool false))
    .ret)
    .nil
  (.chk (.un .ln (.vr 0))
  (.chk (.gd (.bn (.cm .gtr .i64) (.un .ln (.vr 0)) (.cn (.int .i64 100))) false (.un .ln (.vr 2)))
  (.set 30 (.or (.bn (.cm .gtr .i64) (.un .ln (.vr 0)) (.cn (.int .i64 100))) (.bn (.cm .gtr .i64) (.un .ln (.vr 2)) (.cn (.int .i64 100))))
  (.ite (.vr 30)
    (.set 6 (.cn (.bool true))
    .ret)
    .nil
  (.call (some 34) 12 [(.vr 0), (.vr 1)] []
  (.chk (.un (.ex 0) (.vr 34))
  (.chk (.un (.ex 1) (.vr 34))
  (.set 7 (.un (.ex 0) (.vr 34))
  (.set 8 (.un (.ex 1) (.vr 34))
  (.chk (.bn (.cm .neq .i64) (.vr 8) (.cn (.int .i64 0)))
  (.set 38 (.bn (.cm .neq .i64) (.vr 8) (.cn (.int .i64 0)))
  (.ite (.vr 38)
    (.chk (.un .ln (.vr 7))
    (.set 6 (.bn (.cm .eql .i64) (.un .ln (.vr 7)) (.cn (.int .i64 0)))
    .ret))
    .nil
  (.set 9 (.cn (.slice none 0 0))
  (.set 10 (.cn (.slice none 0 0))
  (.set 11 (.cn (.int .i64 0))
  (.blk 0
    (.loop
      (.chk (.un .ln (.vr 0))
      (.chk (.bn (.cm .lss .i64) (.vr 11) (.un .ln (.vr 0)))
      (.set 45 (.bn (.cm .lss .i64) (.vr 11) (.un .ln (.vr 0)))
      (.ite (.vr 45)
        .nil
        (.exit 0)
      (.blk 1
        (.chk (.bn (.ia 1) (.vr 0) (.vr 11))
        (.chk (.ld (.bn (.ia 1) (.vr 0) (.vr 11)))
        (.chk (.bn (.cm .gtr .i64) (.ld (.bn (.ia 1) (.vr 0) (.vr 11))) (.cn (.int .i64 0)))
        (.set 52 (.bn (.cm .gtr .i64) (.ld (.bn (.ia 1) (.vr 0) (.vr 11))) (.cn (.int .i64 0)))
        (.ite (.vr 52)
          (.op (some 55) (.buildSlice 22 1 #[(0, (.tmp 54))]) 22 [(54, (.vr 11))] []
          (.op (some 56) (.call ⟨(.builtin .append), #[(.tmp 53), (.tmp 55)], #[22, 22]⟩) 22 [(53, (.vr 9)), (55, (.vr 55))] []
          (.set 9 (.vr 56)
          .nil)))
          .nil
        .nil)))))
      (.chk (.bn (.ar .add .i64) (.vr 11) (.cn (.int .i64 1)))
      (.set 11 (.bn (.ar .add .i64) (.vr 11) (.cn (.int .i64 1)))
      .nil))))))))
  (.set 12 (.cn (.int .i64 0))
  (.blk 2
    (.loop
      (.chk (.un .ln (.vr 2))
      (.chk (.bn (.cm .lss .i64) (.vr 12) (.un .ln (.vr 2)))
      (.chk (.gd (.bn (.cm .lss .i64) (.vr 12) (.un .ln (.vr 2))) true (.un .ln (.vr 9)))
      (.set 65 (.and (.bn (.cm .lss .i64) (.vr 12) (.un .ln (.vr 2))) (.bn (.cm .gtr .i64) (.un .ln (.vr 9)) (.cn (.int .i64 0))))
      (.ite (.vr 65)
        .nil
        (.exit 2)
      (.blk 3
        (.chk (.bn (.ia 1) (.vr 2) (.vr 12))
        (.chk (.ld (.bn (.ia 1) (.vr 2) (.vr 12)))
        (.set 73 (.ld (.bn (.ia 1) (.vr 2) (.vr 12)))
        (.chk (.un (.cv .i64) (.vr 73))
        (.chk (.un .ln (.vr 9))
        (.chk (.bn (.dv true .i64) (.un (.cv .i64) (.vr 73)) (.un .ln (.vr 9)))
        (.chk (.bn (.ia 1) (.vr 9) (.bn (.dv true .i64) (.un (.cv .i64) (.vr 73)) (.un .ln (.vr 9))))
        (.chk (.ld (.bn (.ia 1) (.vr 9) (.bn (.dv true .i64) (.un (.cv .i64) (.vr 73)) (.un .ln (.vr 9)))))
        (.set 79 (.ld (.bn (.ia 1) (.vr 9) (.bn (.dv true .i64) (.un (.cv .i64) (.vr 73)) (.un .ln (.vr 9)))))
        (.op (some 80) (.buildSlice 22 1 #[(0, (.tmp 79))]) 22 [(79, (.vr 79))] []
        (.op (some 81) (.call ⟨(.builtin .append), #[(.tmp 68), (.tmp 80)], #[22, 22]⟩) 22 [(68, (.vr 10)), (80, (.vr 80))] []
        (.set 10 (.vr 81)
        .nil))))))))))))
      (.chk (.bn (.ar .add .i64) (.vr 12) (.cn (.int .i64 1)))
      (.set 12 (.bn (.ar .add .i64) (.vr 12) (.cn (.int .i64 1)))
      .nil)))))))))
  (.op (some 83) (.box 54 (.tmp 82)) 52 [(82, (.cn (.agg #[(.slice none 0 0), (.int .i64 0)])))] []
  (.set 13 (.vr 83)
  (.call (some 86) 29 [(.vr 13), (.vr 7)] []
  (.call (some 90) 30 [(.vr 13), (.vr 7), (.vr 10)] []
  (.set 14 (.vr 86)
  (.set 15 (.vr 90)
  (.call (some 92) 31 [(.vr 13)] []
  (.call (some 93) 22 [(.vr 92)] []
  (.set 16 (.vr 93)
  (.chk (.un (.pnil false) (.vr 16))
  (.chk (.gd (.un (.pnil false) (.vr 16)) false (.bn (.cm .neq .i64) (.vr 14) (.cn (.int .i64 0))))
  (.chk (.gd (.or (.un (.pnil false) (.vr 16)) (.bn (.cm .neq .i64) (.vr 14) (.cn (.int .i64 0)))) false (.bn (.cm .neq .i64) (.vr 15) (.cn (.int .i64 0))))
  (.chk (.gd (.or (.or (.un (.pnil false) (.vr 16)) (.bn (.cm .neq .i64) (.vr 14) (.cn (.int .i64 0)))) (.bn (.cm .neq .i64) (.vr 15) (.cn (.int .i64 0)))) false (.un .ln (.vr 9)))
  (.set 108 (.or (.or (.or (.un (.pnil false) (.vr 16)) (.bn (.cm .neq .i64) (.vr 14) (.cn (.int .i64 0)))) (.bn (.cm .neq .i64) (.vr 15) (.cn (.int .i64 0)))) (.bn (.cm .eql .i64) (.un .ln (.vr 9)) (.cn (.int .i64 0))))
  (.ite (.vr 108)
    (.set 6 (.cn (.bool false))
    .ret)
    .nil
  (.call (some 111) 32 [(.vr 16)] []
  (.chk (.un (.ex 0) (.vr 111))
  (.chk (.un (.ex 1) (.vr 111))
  (.set 17 (.un (.ex 0) (.vr 111))
  (.set 18 (.un (.ex 1) (.vr 111))
  (.chk (.un .ln (.vr 10))
  (.call (some 119) 26 [(.vr 16), (.vr 17), (.un .ln (.vr 10))] []
  (.chk (.un (.ex 0) (.vr 119))
  (.chk (.un (.ex 1) (.vr 119))
  (.set 19 (.un (.ex 0) (.vr 119))
  (.set 20 (.un (.ex 1) (.vr 119))
  (.chk (.bn (.cm .eql .i64) (.vr 18) (.cn (.int .i64 0)))
  (.set 124 (.bn (.cm .eql .i64) (.vr 18) (.cn (.int .i64 0)))
  (.chk (.gd (.vr 124) true (.bn (.cm .eql .i64) (.vr 20) (.cn (.int .i64 0))))
  (.chk (.and (.vr 124) (.bn (.cm .eql .i64) (.vr 20) (.cn (.int .i64 0))))
  (.set 128 (.and (.vr 124) (.bn (.cm .eql .i64) (.vr 20) (.cn (.int .i64 0))))
  (.ifg (.vr 128) true
    (.call (some 131) 14 [(.vr 17), (.vr 7)] []
    .nil)
    (.set 131 (.cn undef)
    .nil)
  (.chk (.pk (.vr 128) (.vr 131) (.cn (.bool false)))
  (.set 133 (.pk (.vr 128) (.vr 131) (.cn (.bool false)))
  (.ifg (.vr 133) true
    (.call (some 136) 14 [(.vr 19), (.vr 10)] []
    .nil)
    (.set 136 (.cn undef)
    .nil)
  (.chk (.pk (.vr 133) (.vr 136) (.cn (.bool false)))
  (.set 138 (.pk (.vr 133) (.vr 136) (.cn (.bool false)))
  (.ifg (.vr 138) true
    (.call (some 140) 28 [(.vr 16)] []
    .nil)
    (.set 140 (.cn undef)
    .nil)
  (.ifg (.vr 138) true
    (.call (some 142) 33 [(.vr 13)] []
    .nil)
    (.set 142 (.cn undef)
    .nil)
  (.chk (.gd (.vr 138) true (.bn (.cm .eql .i64) (.vr 140) (.vr 142)))
  (.chk (.and (.vr 138) (.bn (.cm .eql .i64) (.vr 140) (.vr 142)))
  (.set 6 (.and (.vr 138) (.bn (.cm .eql .i64) (.vr 140) (.vr 142)))
  .ret)))))))))))))))))))))))))))))))))))))))))))))))))))))))))))))))))
def fc10 : Fc := ⟨145, s10, [(.vr 6)]⟩
theorem c10 : compF Try.prog 10 = some fc10 := by kernel_rfl

/-- kinora/kinoralaw7.known · parameters 0 · 1:lens 2:e 3:c 4:f 5:w 6:g -/
def s11 : S :=
  (.set 0 (.cn (.bool false))
  (.op (some 8) (.buildSlice 22 4 #[(0, (.const (.int .i64 5))), (1, (.const (.int .i64 1))), (2, (.const (.int .i64 0))), (3, (.const (.int .i64 2)))]) 22 [] []
  (.call (some 9) 12 [(.vr 8), (.cn (.int .i64 4))] []
  (.chk (.un (.ex 0) (.vr 9))
  (.chk (.un (.ex 1) (.vr 9))
  (.set 1 (.un (.ex 0) (.vr 9))
  (.set 2 (.un (.ex 1) (.vr 9))
  (.call (some 14) 15 [(.vr 1)] []
  (.chk (.un (.ex 0) (.vr 14))
  (.chk (.un (.ex 1) (.vr 14))
  (.set 3 (.un (.ex 0) (.vr 14))
  (.set 4 (.un (.ex 1) (.vr 14))
  (.op (some 18) (.box 54 (.tmp 17)) 52 [(17, (.cn (.agg #[(.slice none 0 0), (.int .i64 0)])))] []
  (.set 5 (.vr 18)
  (.op (some 21) (.buildSlice 22 3 #[(0, (.const (.int .i64 0))), (1, (.const (.int .i64 3))), (2, (.const (.int .i64 1)))]) 22 [] []
  (.call (some 22) 30 [(.vr 5), (.vr 1), (.vr 21)] []
  (.set 6 (.vr 22)
  (.chk (.bn (.cm .eql .i64) (.vr 2) (.cn (.int .i64 0)))
  (.set 25 (.bn (.cm .eql .i64) (.vr 2) (.cn (.int .i64 0)))
  (.chk (.gd (.vr 25) true (.bn (.cm .eql .i64) (.vr 4) (.cn (.int .i64 0))))
  (.chk (.and (.vr 25) (.bn (.cm .eql .i64) (.vr 4) (.cn (.int .i64 0))))
  (.set 29 (.and (.vr 25) (.bn (.cm .eql .i64) (.vr 4) (.cn (.int .i64 0))))
  (.chk (.gd (.vr 29) true (.bn (.cm .eql .i64) (.vr 6) (.cn (.int .i64 0))))
  (.chk (.and (.vr 29) (.bn (.cm .eql .i64) (.vr 6) (.cn (.int .i64 0))))
  (.set 33 (.and (.vr 29) (.bn (.cm .eql .i64) (.vr 6) (.cn (.int .i64 0))))
  (.ifg (.vr 33) true
    (.op (some 35) (.buildSlice 22 4 #[(0, (.const (.int .i64 1))), (1, (.const (.int .i64 2))), (2, (.const (.int .i64 0))), (3, (.const (.int .i64 2)))]) 22 [] []
    .nil)
    (.set 35 (.cn undef)
    .nil)
  (.ifg (.vr 33) true
    (.call (some 36) 14 [(.vr 1), (.vr 35)] []
    .nil)
    (.set 36 (.cn undef)
    .nil)
  (.chk (.pk (.vr 33) (.vr 36) (.cn (.bool false)))
  (.set 38 (.pk (.vr 33) (.vr 36) (.cn (.bool false)))
  (.chk (.gd (.vr 38) true (.un .ln (.vr 3)))
  (.chk (.and (.vr 38) (.bn (.cm .eql .i64) (.un .ln (.vr 3)) (.cn (.int .i64 4))))
  (.set 43 (.and (.vr 38) (.bn (.cm .eql .i64) (.un .ln (.vr 3)) (.cn (.int .i64 4))))
  (.chk (.gd (.vr 43) true (.bn (.ia 1) (.vr 3) (.cn (.int .i64 0))))
  (.chk (.gd (.vr 43) true (.ld (.bn (.ia 1) (.vr 3) (.cn (.int .i64 0)))))
  (.set 46 (.gd (.vr 43) true (.ld (.bn (.ia 1) (.vr 3) (.cn (.int .i64 0)))))
  (.chk (.gd (.vr 43) true (.bn (.cm .eql .u64) (.vr 46) (.cn (.int .u64 0))))
  (.chk (.and (.vr 43) (.bn (.cm .eql .u64) (.vr 46) (.cn (.int .u64 0))))
  (.set 49 (.and (.vr 43) (.bn (.cm .eql .u64) (.vr 46) (.cn (.int .u64 0))))
  (.chk (.gd (.vr 49) true (.bn (.ia 1) (.vr 3) (.cn (.int .i64 1))))
  (.chk (.gd (.vr 49) true (.ld (.bn (.ia 1) (.vr 3) (.cn (.int .i64 1)))))
  (.set 52 (.gd (.vr 49) true (.ld (.bn (.ia 1) (.vr 3) (.cn (.int .i64 1)))))
  (.chk (.gd (.vr 49) true (.bn (.cm .eql .u64) (.vr 52) (.cn (.int .u64 2))))
  (.chk (.and (.vr 49) (.bn (.cm .eql .u64) (.vr 52) (.cn (.int .u64 2))))
  (.set 55 (.and (.vr 49) (.bn (.cm .eql .u64) (.vr 52) (.cn (.int .u64 2))))
  (.chk (.gd (.vr 55) true (.bn (.ia 1) (.vr 3) (.cn (.int .i64 3))))
  (.chk (.gd (.vr 55) true (.ld (.bn (.ia 1) (.vr 3) (.cn (.int .i64 3)))))
  (.set 58 (.gd (.vr 55) true (.ld (.bn (.ia 1) (.vr 3) (.cn (.int .i64 3)))))
  (.chk (.gd (.vr 55) true (.bn (.cm .eql .u64) (.vr 58) (.cn (.int .u64 3))))
  (.chk (.and (.vr 55) (.bn (.cm .eql .u64) (.vr 58) (.cn (.int .u64 3))))
  (.set 61 (.and (.vr 55) (.bn (.cm .eql .u64) (.vr 58) (.cn (.int .u64 3))))
  (.ifg (.vr 61) true
    (.call (some 63) 31 [(.vr 5)] []
    .nil)
    (.set 63 (.cn undef)
    .nil)
  (.ifg (.vr 61) true
    (.op (some 64) (.convert 38 9 (.tmp 63)) 9 [(63, (.vr 63))] []
    .nil)
    (.set 64 (.cn undef)
    .nil)
  (.chk (.gd (.vr 61) true (.bn (.eqs false) (.vr 64) (.cn (.string ⟨#[112]⟩))))
  (.chk (.and (.vr 61) (.bn (.eqs false) (.vr 64) (.cn (.string ⟨#[112]⟩))))
  (.set 67 (.and (.vr 61) (.bn (.eqs false) (.vr 64) (.cn (.string ⟨#[112]⟩))))
  (.ifg (.vr 67) true
    (.op (some 68) (.buildSlice 22 2 #[(0, (.const (.int .i64 0))), (1, (.const (.int .i64 1)))]) 22 [] []
    .nil)
    (.set 68 (.cn undef)
    .nil)
  (.ifg (.vr 67) true
    (.call (some 69) 16 [(.vr 68)] []
    .nil)
    (.set 69 (.cn undef)
    .nil)
  (.chk (.pk (.vr 67) (.vr 69) (.cn (.bool false)))
  (.set 71 (.pk (.vr 67) (.vr 69) (.cn (.bool false)))
  (.ifg (.vr 71) true
    (.op (some 72) (.buildSlice 22 2 #[(0, (.const (.int .i64 2))), (1, (.const (.int .i64 2)))]) 22 [] []
    .nil)
    (.set 72 (.cn undef)
    .nil)
  (.ifg (.vr 71) true
    (.call (some 73) 16 [(.vr 72)] []
    .nil)
    (.set 73 (.cn undef)
    .nil)
  (.chk (.gd (.vr 71) true (.un .not (.vr 73)))
  (.chk (.and (.vr 71) (.un .not (.vr 73)))
  (.set 0 (.and (.vr 71) (.un .not (.vr 73)))
  .ret))))))))))))))))))))))))))))))))))))))))))))))))))))))))))))))))
def fc11 : Fc := ⟨76, s11, [(.vr 0)]⟩
theorem c11 : compF Try.prog 11 = some fc11 := by kernel_rfl

/-- kinora/prefix.Lengths · parameters 2 · 0:freq 1:most 6:coins 7:symbol 8:f 9:lens 10:row 12:e -/
def s12 : S :=
  (.set 4 (.cn (.slice none 0 0))
  (.set 5 (.cn (.int .i64 0))
  (.chk (.un .ln (.vr 0))
  (.chk (.gd (.bn (.cm .lss .i64) (.un .ln (.vr 0)) (.cn (.int .i64 1))) false (.un .ln (.vr 0)))
  (.chk (.gd (.or (.bn (.cm .lss .i64) (.un .ln (.vr 0)) (.cn (.int .i64 1))) (.bn (.cm .gtr .i64) (.un .ln (.vr 0)) (.cn (.int .i64 1024)))) false (.bn (.cm .lss .i64) (.vr 1) (.cn (.int .i64 1))))
  (.chk (.gd (.or (.or (.bn (.cm .lss .i64) (.un .ln (.vr 0)) (.cn (.int .i64 1))) (.bn (.cm .gtr .i64) (.un .ln (.vr 0)) (.cn (.int .i64 1024)))) (.bn (.cm .lss .i64) (.vr 1) (.cn (.int .i64 1)))) false (.bn (.cm .gtr .i64) (.vr 1) (.cn (.int .i64 24))))
  (.set 28 (.or (.or (.or (.bn (.cm .lss .i64) (.un .ln (.vr 0)) (.cn (.int .i64 1))) (.bn (.cm .gtr .i64) (.un .ln (.vr 0)) (.cn (.int .i64 1024)))) (.bn (.cm .lss .i64) (.vr 1) (.cn (.int .i64 1)))) (.bn (.cm .gtr .i64) (.vr 1) (.cn (.int .i64 24))))
  (.ite (.vr 28)
    (.set 4 (.cn (.slice none 0 0))
    (.set 5 (.cn (.int .i64 1))
    .ret))
    .nil
  (.set 6 (.cn (.slice none 0 0))
  (.set 29 (.vr 0)
  (.chk (.un .ln (.vr 29))
  (.set 30 (.un .ln (.vr 29))
  (.set 31 (.cn (.int .i64 0))
  (.blk 0
    (.loop
      (.chk (.bn (.cm .lss .i64) (.vr 31) (.vr 30))
      (.set 32 (.bn (.cm .lss .i64) (.vr 31) (.vr 30))
      (.ite (.vr 32)
        .nil
        (.exit 0)
      (.blk 1
        (.chk (.bn (.ia 1) (.vr 29) (.vr 31))
        (.chk (.ld (.bn (.ia 1) (.vr 29) (.vr 31)))
        (.set 7 (.vr 31)
        (.set 8 (.ld (.bn (.ia 1) (.vr 29) (.vr 31)))
        (.chk (.bn (.cm .lss .i64) (.vr 8) (.cn (.int .i64 0)))
        (.chk (.gd (.bn (.cm .lss .i64) (.vr 8) (.cn (.int .i64 0))) false (.bn (.cm .gtr .i64) (.vr 8) (.cn (.int .i64 1099511627776))))
        (.set 41 (.or (.bn (.cm .lss .i64) (.vr 8) (.cn (.int .i64 0))) (.bn (.cm .gtr .i64) (.vr 8) (.cn (.int .i64 1099511627776))))
        (.ite (.vr 41)
          (.set 4 (.cn (.slice none 0 0))
          (.set 5 (.cn (.int .i64 1))
          .ret))
          .nil
        (.chk (.bn (.cm .gtr .i64) (.vr 8) (.cn (.int .i64 0)))
        (.set 43 (.bn (.cm .gtr .i64) (.vr 8) (.cn (.int .i64 0)))
        (.ite (.vr 43)
          (.chk (.bd 1 1 (.vr 7) (.bd 0 1 (.vr 8) (.cn (.agg #[(.int .i64 0), (.int .i64 0), (.slice none 0 0)]))))
          (.op (some 48) (.box 63 (.tmp 47)) 61 [(47, (.bd 1 1 (.vr 7) (.bd 0 1 (.vr 8) (.cn (.agg #[(.int .i64 0), (.int .i64 0), (.slice none 0 0)])))))] []
          (.op (some 49) (.buildSlice 60 1 #[(0, (.tmp 48))]) 60 [(48, (.vr 48))] []
          (.op (some 50) (.call ⟨(.builtin .append), #[(.tmp 44), (.tmp 49)], #[60, 60]⟩) 60 [(44, (.vr 6)), (49, (.vr 49))] []
          (.set 6 (.vr 50)
          .nil)))))
          .nil
        .nil)))))))))))
      (.chk (.bn (.ar .add .i64) (.vr 31) (.cn (.int .i64 1)))
      (.set 31 (.bn (.ar .add .i64) (.vr 31) (.cn (.int .i64 1)))
      .nil)))))))
  (.chk (.un .ln (.vr 6))
  (.set 54 (.bn (.cm .eql .i64) (.un .ln (.vr 6)) (.cn (.int .i64 0)))
  (.ite (.vr 54)
    (.set 4 (.cn (.slice none 0 0))
    (.set 5 (.cn (.int .i64 7))
    .ret))
    .nil
  (.chk (.un .ln (.vr 6))
  (.chk (.bn (.sh true .i64) (.cn (.int .i64 1)) (.vr 1))
  (.set 59 (.bn (.cm .gtr .i64) (.un .ln (.vr 6)) (.bn (.sh true .i64) (.cn (.int .i64 1)) (.vr 1)))
  (.ite (.vr 59)
    (.set 4 (.cn (.slice none 0 0))
    (.set 5 (.cn (.int .i64 6))
    .ret))
    .nil
  (.chk (.un .ln (.vr 0))
  (.op (some 62) (.makeSlice 22 (.tmp 61) (.tmp 61)) 22 [(61, (.un .ln (.vr 0))), (61, (.un .ln (.vr 0)))] []
  (.set 9 (.vr 62)
  (.chk (.un .ln (.vr 6))
  (.set 65 (.bn (.cm .eql .i64) (.un .ln (.vr 6)) (.cn (.int .i64 1)))
  (.ite (.vr 65)
    (.chk (.bn (.ia 1) (.vr 6) (.cn (.int .i64 0)))
    (.chk (.ld (.bn (.ia 1) (.vr 6) (.cn (.int .i64 0))))
    (.set 69 (.ld (.bn (.ia 1) (.vr 6) (.cn (.int .i64 0))))
    (.chk (.un .nck (.vr 69))
    (.chk (.un (.fa 1) (.un .nck (.vr 69)))
    (.chk (.ld (.un (.fa 1) (.un .nck (.vr 69))))
    (.set 72 (.ld (.un (.fa 1) (.un .nck (.vr 69))))
    (.chk (.bn (.ia 1) (.vr 9) (.vr 72))
    (.st 1 (.bn (.ia 1) (.vr 9) (.vr 72)) (.cn (.int .i64 1)) []
    (.set 4 (.vr 9)
    (.set 5 (.cn (.int .i64 0))
    .ret)))))))))))
    .nil
  (.call (some 76) 34 [(.vr 6)] []
  (.set 10 (.vr 6)
  (.chk (.bn (.ar .sub .i64) (.vr 1) (.cn (.int .i64 1)))
  (.set 79 (.bn (.ar .sub .i64) (.vr 1) (.cn (.int .i64 1)))
  (.set 80 (.cn (.int .i64 0))
  (.blk 2
    (.loop
      (.chk (.bn (.cm .lss .i64) (.vr 80) (.vr 79))
      (.set 81 (.bn (.cm .lss .i64) (.vr 80) (.vr 79))
      (.ite (.vr 81)
        .nil
        (.exit 2)
      (.blk 3
        (.call (some 84) 35 [(.vr 6), (.vr 10)] []
        (.set 10 (.vr 84)
        .nil))
      (.chk (.bn (.ar .add .i64) (.vr 80) (.cn (.int .i64 1)))
      (.set 80 (.bn (.ar .add .i64) (.vr 80) (.cn (.int .i64 1)))
      .nil)))))))
  (.chk (.un .ln (.vr 6))
  (.chk (.sl 1 true (.vr 10) (.cn (.int .i64 0)) (.bn (.ar .sub .i64) (.bn (.ar .mul .i64) (.cn (.int .i64 2)) (.un .ln (.vr 6))) (.cn (.int .i64 2))))
  (.set 91 (.sl 1 true (.vr 10) (.cn (.int .i64 0)) (.bn (.ar .sub .i64) (.bn (.ar .mul .i64) (.cn (.int .i64 2)) (.un .ln (.vr 6))) (.cn (.int .i64 2))))
  (.chk (.un .ln (.vr 91))
  (.set 92 (.un .ln (.vr 91))
  (.set 93 (.cn (.int .i64 0))
  (.blk 4
    (.loop
      (.chk (.bn (.cm .lss .i64) (.vr 93) (.vr 92))
      (.set 94 (.bn (.cm .lss .i64) (.vr 93) (.vr 92))
      (.ite (.vr 94)
        .nil
        (.exit 4)
      (.blk 5
        (.chk (.bn (.ia 1) (.vr 91) (.vr 93))
        (.chk (.ld (.bn (.ia 1) (.vr 91) (.vr 93)))
        (.set 12 (.ld (.bn (.ia 1) (.vr 91) (.vr 93)))
        (.call (some 99) 36 [(.vr 12), (.vr 9)] []
        .nil))))
      (.chk (.bn (.ar .add .i64) (.vr 93) (.cn (.int .i64 1)))
      (.set 93 (.bn (.ar .add .i64) (.vr 93) (.cn (.int .i64 1)))
      .nil)))))))
  (.set 4 (.vr 9)
  (.set 5 (.cn (.int .i64 0))
  .ret))))))))))))))))))))))))))))))))))))))))))
def fc12 : Fc := ⟨102, s12, [(.vr 4), (.vr 5)]⟩
theorem c12 : compF Try.prog 12 = some fc12 := by kernel_rfl

/-- kinora/kinoraref8.PrefixLengths · parameters 2 · 0:freq 1:most 6:coins 7:i 8:u 9:out 10:row 11:i 12:packs 13:k 14:i 15:k -/
def s13 : S :=
  (.set 4 (.cn (.slice none 0 0))
  (.set 5 (.cn (.int .i64 0))
  (.chk (.un .ln (.vr 0))
  (.chk (.gd (.bn (.cm .lss .i64) (.un .ln (.vr 0)) (.cn (.int .i64 1))) false (.un .ln (.vr 0)))
  (.chk (.gd (.or (.bn (.cm .lss .i64) (.un .ln (.vr 0)) (.cn (.int .i64 1))) (.bn (.cm .gtr .i64) (.un .ln (.vr 0)) (.cn (.int .i64 1024)))) false (.bn (.cm .lss .i64) (.vr 1) (.cn (.int .i64 1))))
  (.chk (.gd (.or (.or (.bn (.cm .lss .i64) (.un .ln (.vr 0)) (.cn (.int .i64 1))) (.bn (.cm .gtr .i64) (.un .ln (.vr 0)) (.cn (.int .i64 1024)))) (.bn (.cm .lss .i64) (.vr 1) (.cn (.int .i64 1)))) false (.bn (.cm .gtr .i64) (.vr 1) (.cn (.int .i64 24))))
  (.set 31 (.or (.or (.or (.bn (.cm .lss .i64) (.un .ln (.vr 0)) (.cn (.int .i64 1))) (.bn (.cm .gtr .i64) (.un .ln (.vr 0)) (.cn (.int .i64 1024)))) (.bn (.cm .lss .i64) (.vr 1) (.cn (.int .i64 1)))) (.bn (.cm .gtr .i64) (.vr 1) (.cn (.int .i64 24))))
  (.ite (.vr 31)
    (.set 4 (.cn (.slice none 0 0))
    (.set 5 (.cn (.int .i64 1))
    .ret))
    .nil
  (.set 6 (.cn (.slice none 0 0))
  (.set 7 (.cn (.int .i64 0))
  (.blk 0
    (.loop
      (.chk (.un .ln (.vr 0))
      (.chk (.bn (.cm .lss .i64) (.vr 7) (.un .ln (.vr 0)))
      (.set 35 (.bn (.cm .lss .i64) (.vr 7) (.un .ln (.vr 0)))
      (.ite (.vr 35)
        .nil
        (.exit 0)
      (.blk 1
        (.chk (.bn (.ia 1) (.vr 0) (.vr 7))
        (.chk (.ld (.bn (.ia 1) (.vr 0) (.vr 7)))
        (.chk (.bn (.cm .lss .i64) (.ld (.bn (.ia 1) (.vr 0) (.vr 7))) (.cn (.int .i64 0)))
        (.chk (.gd (.bn (.cm .lss .i64) (.ld (.bn (.ia 1) (.vr 0) (.vr 7))) (.cn (.int .i64 0))) false (.bn (.ia 1) (.vr 0) (.vr 7)))
        (.chk (.gd (.bn (.cm .lss .i64) (.ld (.bn (.ia 1) (.vr 0) (.vr 7))) (.cn (.int .i64 0))) false (.ld (.bn (.ia 1) (.vr 0) (.vr 7))))
        (.chk (.gd (.bn (.cm .lss .i64) (.ld (.bn (.ia 1) (.vr 0) (.vr 7))) (.cn (.int .i64 0))) false (.bn (.cm .gtr .i64) (.ld (.bn (.ia 1) (.vr 0) (.vr 7))) (.cn (.int .i64 1099511627776))))
        (.set 49 (.or (.bn (.cm .lss .i64) (.ld (.bn (.ia 1) (.vr 0) (.vr 7))) (.cn (.int .i64 0))) (.bn (.cm .gtr .i64) (.ld (.bn (.ia 1) (.vr 0) (.vr 7))) (.cn (.int .i64 1099511627776))))
        (.ite (.vr 49)
          (.set 4 (.cn (.slice none 0 0))
          (.set 5 (.cn (.int .i64 1))
          .ret))
          .nil
        (.chk (.bn (.ia 1) (.vr 0) (.vr 7))
        (.chk (.ld (.bn (.ia 1) (.vr 0) (.vr 7)))
        (.chk (.bn (.cm .gtr .i64) (.ld (.bn (.ia 1) (.vr 0) (.vr 7))) (.cn (.int .i64 0)))
        (.set 54 (.bn (.cm .gtr .i64) (.ld (.bn (.ia 1) (.vr 0) (.vr 7))) (.cn (.int .i64 0)))
        (.ite (.vr 54)
          (.chk (.bn (.ia 1) (.vr 0) (.vr 7))
          (.chk (.ld (.bn (.ia 1) (.vr 0) (.vr 7)))
          (.set 59 (.ld (.bn (.ia 1) (.vr 0) (.vr 7)))
          (.op (some 61) (.buildSlice 22 1 #[(0, (.tmp 60))]) 22 [(60, (.vr 7))] []
          (.chk (.bd 1 1 (.vr 61) (.bd 0 1 (.vr 59) (.cn (.agg #[(.int .i64 0), (.slice none 0 0)]))))
          (.call (some 63) 37 [(.vr 6), (.bd 1 1 (.vr 61) (.bd 0 1 (.vr 59) (.cn (.agg #[(.int .i64 0), (.slice none 0 0)]))))] []
          (.set 6 (.vr 63)
          .nil)))))))
          .nil
        .nil)))))))))))))
      (.chk (.bn (.ar .add .i64) (.vr 7) (.cn (.int .i64 1)))
      (.set 7 (.bn (.ar .add .i64) (.vr 7) (.cn (.int .i64 1)))
      .nil))))))))
  (.chk (.un .ln (.vr 6))
  (.set 8 (.un .ln (.vr 6))
  (.chk (.bn (.cm .eql .i64) (.vr 8) (.cn (.int .i64 0)))
  (.set 67 (.bn (.cm .eql .i64) (.vr 8) (.cn (.int .i64 0)))
  (.ite (.vr 67)
    (.set 4 (.cn (.slice none 0 0))
    (.set 5 (.cn (.int .i64 7))
    .ret))
    .nil
  (.chk (.un (.cv .u64) (.vr 1))
  (.chk (.bn (.sh true .i64) (.cn (.int .i64 1)) (.un (.cv .u64) (.vr 1)))
  (.chk (.bn (.cm .gtr .i64) (.vr 8) (.bn (.sh true .i64) (.cn (.int .i64 1)) (.un (.cv .u64) (.vr 1))))
  (.set 72 (.bn (.cm .gtr .i64) (.vr 8) (.bn (.sh true .i64) (.cn (.int .i64 1)) (.un (.cv .u64) (.vr 1))))
  (.ite (.vr 72)
    (.set 4 (.cn (.slice none 0 0))
    (.set 5 (.cn (.int .i64 6))
    .ret))
    .nil
  (.chk (.un .ln (.vr 0))
  (.op (some 75) (.makeSlice 22 (.tmp 74) (.tmp 74)) 22 [(74, (.un .ln (.vr 0))), (74, (.un .ln (.vr 0)))] []
  (.set 9 (.vr 75)
  (.chk (.bn (.cm .eql .i64) (.vr 8) (.cn (.int .i64 1)))
  (.set 77 (.bn (.cm .eql .i64) (.vr 8) (.cn (.int .i64 1)))
  (.ite (.vr 77)
    (.chk (.bn (.ia 2) (.vr 6) (.cn (.int .i64 0)))
    (.chk (.un (.fa 1) (.bn (.ia 2) (.vr 6) (.cn (.int .i64 0))))
    (.chk (.ld (.un (.fa 1) (.bn (.ia 2) (.vr 6) (.cn (.int .i64 0)))))
    (.set 82 (.ld (.un (.fa 1) (.bn (.ia 2) (.vr 6) (.cn (.int .i64 0)))))
    (.chk (.bn (.ia 1) (.vr 82) (.cn (.int .i64 0)))
    (.chk (.ld (.bn (.ia 1) (.vr 82) (.cn (.int .i64 0))))
    (.set 84 (.ld (.bn (.ia 1) (.vr 82) (.cn (.int .i64 0))))
    (.chk (.bn (.ia 1) (.vr 9) (.vr 84))
    (.st 1 (.bn (.ia 1) (.vr 9) (.vr 84)) (.cn (.int .i64 1)) []
    (.set 4 (.vr 9)
    (.set 5 (.cn (.int .i64 0))
    .ret)))))))))))
    .nil
  (.set 10 (.vr 6)
  (.set 11 (.cn (.int .i64 1))
  (.blk 2
    (.loop
      (.chk (.bn (.cm .lss .i64) (.vr 11) (.vr 1))
      (.set 90 (.bn (.cm .lss .i64) (.vr 11) (.vr 1))
      (.ite (.vr 90)
        .nil
        (.exit 2)
      (.blk 3
        (.set 12 (.cn (.slice none 0 0))
        (.set 13 (.cn (.int .i64 0))
        (.blk 4
          (.loop
            (.chk (.bn (.ar .add .i64) (.vr 13) (.cn (.int .i64 1)))
            (.chk (.un .ln (.vr 10))
            (.set 97 (.bn (.cm .lss .i64) (.bn (.ar .add .i64) (.vr 13) (.cn (.int .i64 1))) (.un .ln (.vr 10)))
            (.ite (.vr 97)
              .nil
              (.exit 4)
            (.blk 5
              (.draw
              (.chk (.bn (.ia 2) (.vr 10) (.vr 13))
              (.chk (.un (.fa 0) (.bn (.ia 2) (.vr 10) (.vr 13)))
              (.chk (.ld (.un (.fa 0) (.bn (.ia 2) (.vr 10) (.vr 13))))
              (.set 105 (.ld (.un (.fa 0) (.bn (.ia 2) (.vr 10) (.vr 13))))
              (.chk (.bn (.ar .add .i64) (.vr 13) (.cn (.int .i64 1)))
              (.chk (.bn (.ia 2) (.vr 10) (.bn (.ar .add .i64) (.vr 13) (.cn (.int .i64 1))))
              (.chk (.un (.fa 0) (.bn (.ia 2) (.vr 10) (.bn (.ar .add .i64) (.vr 13) (.cn (.int .i64 1)))))
              (.chk (.ld (.un (.fa 0) (.bn (.ia 2) (.vr 10) (.bn (.ar .add .i64) (.vr 13) (.cn (.int .i64 1))))))
              (.set 111 (.ld (.un (.fa 0) (.bn (.ia 2) (.vr 10) (.bn (.ar .add .i64) (.vr 13) (.cn (.int .i64 1))))))
              (.chk (.bn (.ar .add .i64) (.vr 105) (.vr 111))
              (.chk (.bn (.ia 2) (.vr 10) (.vr 13))
              (.chk (.un (.fa 1) (.bn (.ia 2) (.vr 10) (.vr 13)))
              (.chk (.ld (.un (.fa 1) (.bn (.ia 2) (.vr 10) (.vr 13))))
              (.set 118 (.ld (.un (.fa 1) (.bn (.ia 2) (.vr 10) (.vr 13))))
              (.chk (.bn (.ar .add .i64) (.vr 13) (.cn (.int .i64 1)))
              (.chk (.bn (.ia 2) (.vr 10) (.bn (.ar .add .i64) (.vr 13) (.cn (.int .i64 1))))
              (.chk (.un (.fa 1) (.bn (.ia 2) (.vr 10) (.bn (.ar .add .i64) (.vr 13) (.cn (.int .i64 1)))))
              (.chk (.ld (.un (.fa 1) (.bn (.ia 2) (.vr 10) (.bn (.ar .add .i64) (.vr 13) (.cn (.int .i64 1))))))
              (.set 125 (.ld (.un (.fa 1) (.bn (.ia 2) (.vr 10) (.bn (.ar .add .i64) (.vr 13) (.cn (.int .i64 1))))))
              (.op (some 113) (.buildSlice 22 0 #[]) 22 [] [⟨25, (.un (.fa 1) (.bn (.ia 2) (.vr 10) (.bn (.ar .add .i64) (.vr 13) (.cn (.int .i64 1))))), 1, none⟩, ⟨18, (.un (.fa 1) (.bn (.ia 2) (.vr 10) (.vr 13))), 1, none⟩, ⟨11, (.un (.fa 0) (.bn (.ia 2) (.vr 10) (.bn (.ar .add .i64) (.vr 13) (.cn (.int .i64 1))))), 1, none⟩, ⟨5, (.un (.fa 0) (.bn (.ia 2) (.vr 10) (.vr 13))), 1, none⟩]
              (.op (some 119) (.call ⟨(.builtin .append), #[(.tmp 113), (.tmp 118)], #[22, 22]⟩) 22 [(113, (.vr 113)), (118, (.vr 118))] [⟨25, (.un (.fa 1) (.bn (.ia 2) (.vr 10) (.bn (.ar .add .i64) (.vr 13) (.cn (.int .i64 1))))), 1, none⟩, ⟨11, (.un (.fa 0) (.bn (.ia 2) (.vr 10) (.bn (.ar .add .i64) (.vr 13) (.cn (.int .i64 1))))), 1, none⟩, ⟨5, (.un (.fa 0) (.bn (.ia 2) (.vr 10) (.vr 13))), 1, none⟩]
              (.op (some 126) (.call ⟨(.builtin .append), #[(.tmp 119), (.tmp 125)], #[22, 22]⟩) 22 [(119, (.vr 119)), (125, (.vr 125))] [⟨11, (.un (.fa 0) (.bn (.ia 2) (.vr 10) (.bn (.ar .add .i64) (.vr 13) (.cn (.int .i64 1))))), 1, none⟩, ⟨5, (.un (.fa 0) (.bn (.ia 2) (.vr 10) (.vr 13))), 1, none⟩]
              (.chk (.bd 1 1 (.vr 126) (.bd 0 1 (.bn (.ar .add .i64) (.vr 105) (.vr 111)) (.cn (.agg #[(.int .i64 0), (.slice none 0 0)]))))
              (.op (some 128) (.buildSlice 67 1 #[(0, (.tmp 127))]) 67 [(127, (.bd 1 1 (.vr 126) (.bd 0 1 (.bn (.ar .add .i64) (.vr 105) (.vr 111)) (.cn (.agg #[(.int .i64 0), (.slice none 0 0)])))))] []
              (.op (some 129) (.call ⟨(.builtin .append), #[(.tmp 100), (.tmp 128)], #[67, 67]⟩) 67 [(100, (.vr 12)), (128, (.vr 128))] []
              (.set 12 (.vr 129)
              .nil)))))))))))))))))))))))))))
            (.chk (.bn (.ar .add .i64) (.vr 13) (.cn (.int .i64 2)))
            (.set 13 (.bn (.ar .add .i64) (.vr 13) (.cn (.int .i64 2)))
            .nil))))))))
        (.call (some 132) 38 [(.vr 6), (.vr 12)] []
        (.set 10 (.vr 132)
        .nil)))))
      (.chk (.bn (.ar .add .i64) (.vr 11) (.cn (.int .i64 1)))
      (.set 11 (.bn (.ar .add .i64) (.vr 11) (.cn (.int .i64 1)))
      .nil)))))))
  (.set 14 (.cn (.int .i64 0))
  (.blk 6
    (.loop
      (.chk (.bn (.ar .mul .i64) (.cn (.int .i64 2)) (.vr 8))
      (.chk (.bn (.cm .lss .i64) (.vr 14) (.bn (.ar .sub .i64) (.bn (.ar .mul .i64) (.cn (.int .i64 2)) (.vr 8)) (.cn (.int .i64 2))))
      (.set 137 (.bn (.cm .lss .i64) (.vr 14) (.bn (.ar .sub .i64) (.bn (.ar .mul .i64) (.cn (.int .i64 2)) (.vr 8)) (.cn (.int .i64 2))))
      (.ite (.vr 137)
        .nil
        (.exit 6)
      (.blk 7
        (.set 15 (.cn (.int .i64 0))
        (.blk 8
          (.loop
            (.chk (.bn (.ia 2) (.vr 10) (.vr 14))
            (.chk (.un (.fa 1) (.bn (.ia 2) (.vr 10) (.vr 14)))
            (.chk (.ld (.un (.fa 1) (.bn (.ia 2) (.vr 10) (.vr 14))))
            (.chk (.un .ln (.ld (.un (.fa 1) (.bn (.ia 2) (.vr 10) (.vr 14)))))
            (.chk (.bn (.cm .lss .i64) (.vr 15) (.un .ln (.ld (.un (.fa 1) (.bn (.ia 2) (.vr 10) (.vr 14))))))
            (.set 147 (.bn (.cm .lss .i64) (.vr 15) (.un .ln (.ld (.un (.fa 1) (.bn (.ia 2) (.vr 10) (.vr 14))))))
            (.ite (.vr 147)
              .nil
              (.exit 8)
            (.blk 9
              (.chk (.bn (.ia 2) (.vr 10) (.vr 14))
              (.chk (.un (.fa 1) (.bn (.ia 2) (.vr 10) (.vr 14)))
              (.chk (.ld (.un (.fa 1) (.bn (.ia 2) (.vr 10) (.vr 14))))
              (.set 155 (.ld (.un (.fa 1) (.bn (.ia 2) (.vr 10) (.vr 14))))
              (.chk (.bn (.ia 1) (.vr 155) (.vr 15))
              (.chk (.ld (.bn (.ia 1) (.vr 155) (.vr 15)))
              (.set 158 (.ld (.bn (.ia 1) (.vr 155) (.vr 15)))
              (.chk (.bn (.ia 1) (.vr 9) (.vr 158))
              (.chk (.ld (.bn (.ia 1) (.vr 9) (.vr 158)))
              (.set 160 (.ld (.bn (.ia 1) (.vr 9) (.vr 158)))
              (.chk (.bn (.ar .add .i64) (.vr 160) (.cn (.int .i64 1)))
              (.chk (.bn (.ia 1) (.vr 9) (.vr 158))
              (.st 1 (.bn (.ia 1) (.vr 9) (.vr 158)) (.bn (.ar .add .i64) (.vr 160) (.cn (.int .i64 1))) []
              .nil)))))))))))))
            (.chk (.bn (.ar .add .i64) (.vr 15) (.cn (.int .i64 1)))
            (.set 15 (.bn (.ar .add .i64) (.vr 15) (.cn (.int .i64 1)))
            .nil)))))))))))
        .nil))
      (.chk (.bn (.ar .add .i64) (.vr 14) (.cn (.int .i64 1)))
      (.set 14 (.bn (.ar .add .i64) (.vr 14) (.cn (.int .i64 1)))
      .nil))))))))
  (.set 4 (.vr 9)
  (.set 5 (.cn (.int .i64 0))
  .ret))))))))))))))))))))))))))))))))))
def fc13 : Fc := ⟨164, s13, [(.vr 4), (.vr 5)]⟩
theorem c13 : compF Try.prog 13 = some fc13 := by kernel_rfl

/-- kinora/kinoraref2.SameInts · parameters 2 · 0:a 1:b 5:i -/
def s14 : S :=
  (.set 4 (.cn (.bool false))
  (.chk (.un .ln (.vr 0))
  (.chk (.un .ln (.vr 1))
  (.set 10 (.bn (.cm .neq .i64) (.un .ln (.vr 0)) (.un .ln (.vr 1)))
  (.ite (.vr 10)
    (.set 4 (.cn (.bool false))
    .ret)
    .nil
  (.set 5 (.cn (.int .i64 0))
  (.blk 0
    (.loop
      (.chk (.un .ln (.vr 0))
      (.chk (.bn (.cm .lss .i64) (.vr 5) (.un .ln (.vr 0)))
      (.set 14 (.bn (.cm .lss .i64) (.vr 5) (.un .ln (.vr 0)))
      (.ite (.vr 14)
        .nil
        (.exit 0)
      (.blk 1
        (.draw
        (.chk (.bn (.ia 1) (.vr 0) (.vr 5))
        (.chk (.ld (.bn (.ia 1) (.vr 0) (.vr 5)))
        (.chk (.bn (.ia 1) (.vr 1) (.vr 5))
        (.chk (.ld (.bn (.ia 1) (.vr 1) (.vr 5)))
        (.chk (.bn (.cm .neq .i64) (.ld (.bn (.ia 1) (.vr 0) (.vr 5))) (.ld (.bn (.ia 1) (.vr 1) (.vr 5))))
        (.set 25 (.bn (.cm .neq .i64) (.ld (.bn (.ia 1) (.vr 0) (.vr 5))) (.ld (.bn (.ia 1) (.vr 1) (.vr 5))))
        (.ite (.vr 25)
          (.set 4 (.cn (.bool false))
          .ret)
          .nil
        .nil))))))))
      (.chk (.bn (.ar .add .i64) (.vr 5) (.cn (.int .i64 1)))
      (.set 5 (.bn (.ar .add .i64) (.vr 5) (.cn (.int .i64 1)))
      .nil))))))))
  (.set 4 (.cn (.bool true))
  .ret))))))))
def fc14 : Fc := ⟨26, s14, [(.vr 4)]⟩
theorem c14 : compF Try.prog 14 = some fc14 := by kernel_rfl

/-- kinora/prefix.Codes · parameters 1 · 0:lens 4:words 5:word 6:before 8:symbol -/
def s15 : S :=
  (.set 2 (.cn (.slice none 0 0))
  (.set 3 (.cn (.int .i64 0))
  (.call (some 10) 16 [(.vr 0)] []
  (.chk (.un .not (.vr 10))
  (.set 11 (.un .not (.vr 10))
  (.ite (.vr 11)
    (.set 2 (.cn (.slice none 0 0))
    (.set 3 (.cn (.int .i64 1))
    .ret))
    .nil
  (.chk (.un .ln (.vr 0))
  (.op (some 14) (.makeSlice 29 (.tmp 13) (.tmp 13)) 29 [(13, (.un .ln (.vr 0))), (13, (.un .ln (.vr 0)))] []
  (.set 4 (.vr 14)
  (.set 5 (.cn (.int .u64 0))
  (.set 6 (.cn (.int .i64 0))
  (.call (some 16) 39 [(.vr 0)] []
  (.chk (.un .ln (.vr 16))
  (.set 17 (.un .ln (.vr 16))
  (.set 18 (.cn (.int .i64 0))
  (.blk 0
    (.loop
      (.chk (.bn (.cm .lss .i64) (.vr 18) (.vr 17))
      (.set 19 (.bn (.cm .lss .i64) (.vr 18) (.vr 17))
      (.ite (.vr 19)
        .nil
        (.exit 0)
      (.blk 1
        (.chk (.bn (.ia 1) (.vr 16) (.vr 18))
        (.chk (.ld (.bn (.ia 1) (.vr 16) (.vr 18)))
        (.set 8 (.ld (.bn (.ia 1) (.vr 16) (.vr 18)))
        (.chk (.bn (.cm .gtr .i64) (.vr 6) (.cn (.int .i64 0)))
        (.set 23 (.bn (.cm .gtr .i64) (.vr 6) (.cn (.int .i64 0)))
        (.ite (.vr 23)
          (.chk (.bn (.ar .add .u64) (.vr 5) (.cn (.int .u64 1)))
          (.chk (.bn (.ia 1) (.vr 0) (.vr 8))
          (.chk (.ld (.bn (.ia 1) (.vr 0) (.vr 8)))
          (.chk (.bn (.ar .sub .i64) (.ld (.bn (.ia 1) (.vr 0) (.vr 8))) (.vr 6))
          (.chk (.bn (.sh true .u64) (.bn (.ar .add .u64) (.vr 5) (.cn (.int .u64 1))) (.bn (.ar .sub .i64) (.ld (.bn (.ia 1) (.vr 0) (.vr 8))) (.vr 6)))
          (.set 5 (.bn (.sh true .u64) (.bn (.ar .add .u64) (.vr 5) (.cn (.int .u64 1))) (.bn (.ar .sub .i64) (.ld (.bn (.ia 1) (.vr 0) (.vr 8))) (.vr 6)))
          .nil))))))
          .nil
        (.chk (.bn (.ia 1) (.vr 4) (.vr 8))
        (.st 1 (.bn (.ia 1) (.vr 4) (.vr 8)) (.vr 5) []
        (.chk (.bn (.ia 1) (.vr 0) (.vr 8))
        (.chk (.ld (.bn (.ia 1) (.vr 0) (.vr 8)))
        (.set 6 (.ld (.bn (.ia 1) (.vr 0) (.vr 8)))
        .nil)))))))))))
      (.chk (.bn (.ar .add .i64) (.vr 18) (.cn (.int .i64 1)))
      (.set 18 (.bn (.ar .add .i64) (.vr 18) (.cn (.int .i64 1)))
      .nil)))))))
  (.set 2 (.vr 4)
  (.set 3 (.cn (.int .i64 0))
  .ret))))))))))))))))))
def fc15 : Fc := ⟨43, s15, [(.vr 2), (.vr 3)]⟩
theorem c15 : compF Try.prog 15 = some fc15 := by kernel_rfl

/-- kinora/prefix.Full · parameters 1 · 0:lens 3:used 4:longest 5:sum 7:n -/
def s16 : S :=
  (.set 2 (.cn (.bool false))
  (.chk (.un .ln (.vr 0))
  (.chk (.gd (.bn (.cm .lss .i64) (.un .ln (.vr 0)) (.cn (.int .i64 1))) false (.un .ln (.vr 0)))
  (.set 15 (.or (.bn (.cm .lss .i64) (.un .ln (.vr 0)) (.cn (.int .i64 1))) (.bn (.cm .gtr .i64) (.un .ln (.vr 0)) (.cn (.int .i64 1024))))
  (.ite (.vr 15)
    (.set 2 (.cn (.bool false))
    .ret)
    .nil
  (.set 3 (.cn (.int .i64 0))
  (.set 4 (.cn (.int .i64 0))
  (.set 5 (.cn (.int .i64 0))
  (.set 16 (.vr 0)
  (.chk (.un .ln (.vr 16))
  (.set 17 (.un .ln (.vr 16))
  (.set 18 (.cn (.int .i64 0))
  (.blk 0
    (.loop
      (.chk (.bn (.cm .lss .i64) (.vr 18) (.vr 17))
      (.set 19 (.bn (.cm .lss .i64) (.vr 18) (.vr 17))
      (.ite (.vr 19)
        .nil
        (.exit 0)
      (.blk 1
        (.chk (.bn (.ia 1) (.vr 16) (.vr 18))
        (.chk (.ld (.bn (.ia 1) (.vr 16) (.vr 18)))
        (.set 7 (.ld (.bn (.ia 1) (.vr 16) (.vr 18)))
        (.chk (.bn (.cm .lss .i64) (.vr 7) (.cn (.int .i64 0)))
        (.chk (.gd (.bn (.cm .lss .i64) (.vr 7) (.cn (.int .i64 0))) false (.bn (.cm .gtr .i64) (.vr 7) (.cn (.int .i64 24))))
        (.set 27 (.or (.bn (.cm .lss .i64) (.vr 7) (.cn (.int .i64 0))) (.bn (.cm .gtr .i64) (.vr 7) (.cn (.int .i64 24))))
        (.ite (.vr 27)
          (.set 2 (.cn (.bool false))
          .ret)
          .nil
        (.chk (.bn (.cm .gtr .i64) (.vr 7) (.cn (.int .i64 0)))
        (.set 29 (.bn (.cm .gtr .i64) (.vr 7) (.cn (.int .i64 0)))
        (.ite (.vr 29)
          (.chk (.bn (.ar .add .i64) (.vr 3) (.cn (.int .i64 1)))
          (.set 3 (.bn (.ar .add .i64) (.vr 3) (.cn (.int .i64 1)))
          (.chk (.bn (.mx .i64) (.vr 4) (.vr 7))
          (.set 4 (.bn (.mx .i64) (.vr 4) (.vr 7))
          (.chk (.bn (.ar .sub .i64) (.cn (.int .i64 24)) (.vr 7))
          (.chk (.bn (.sh true .i64) (.cn (.int .i64 1)) (.bn (.ar .sub .i64) (.cn (.int .i64 24)) (.vr 7)))
          (.chk (.bn (.ar .add .i64) (.vr 5) (.bn (.sh true .i64) (.cn (.int .i64 1)) (.bn (.ar .sub .i64) (.cn (.int .i64 24)) (.vr 7))))
          (.set 5 (.bn (.ar .add .i64) (.vr 5) (.bn (.sh true .i64) (.cn (.int .i64 1)) (.bn (.ar .sub .i64) (.cn (.int .i64 24)) (.vr 7))))
          .nil))))))))
          .nil
        .nil))))))))))
      (.chk (.bn (.ar .add .i64) (.vr 18) (.cn (.int .i64 1)))
      (.set 18 (.bn (.ar .add .i64) (.vr 18) (.cn (.int .i64 1)))
      .nil)))))))
  (.chk (.bn (.cm .eql .i64) (.vr 3) (.cn (.int .i64 1)))
  (.set 42 (.bn (.cm .eql .i64) (.vr 3) (.cn (.int .i64 1)))
  (.ite (.vr 42)
    (.chk (.bn (.cm .eql .i64) (.vr 4) (.cn (.int .i64 1)))
    (.set 2 (.bn (.cm .eql .i64) (.vr 4) (.cn (.int .i64 1)))
    .ret))
    .nil
  (.chk (.bn (.cm .eql .i64) (.vr 5) (.cn (.int .i64 16777216)))
  (.set 2 (.bn (.cm .eql .i64) (.vr 5) (.cn (.int .i64 16777216)))
  .ret))))))))))))))))))
def fc16 : Fc := ⟨47, s16, [(.vr 2)]⟩
theorem c16 : compF Try.prog 16 = some fc16 := by kernel_rfl

/-- kinora/kinoraref8.PrefixCodes · parameters 1 · 0:lens 4:out 5:l 6:i -/
def s17 : S :=
  (.set 2 (.cn (.slice none 0 0))
  (.set 3 (.cn (.int .i64 0))
  (.call (some 8) 18 [(.vr 0)] []
  (.chk (.un .not (.vr 8))
  (.set 9 (.un .not (.vr 8))
  (.ite (.vr 9)
    (.set 2 (.cn (.slice none 0 0))
    (.set 3 (.cn (.int .i64 1))
    .ret))
    .nil
  (.chk (.un .ln (.vr 0))
  (.op (some 12) (.makeSlice 29 (.tmp 11) (.tmp 11)) 29 [(11, (.un .ln (.vr 0))), (11, (.un .ln (.vr 0)))] []
  (.set 4 (.vr 12)
  (.call (some 14) 40 [(.vr 0)] []
  (.set 5 (.vr 14)
  (.set 6 (.cn (.int .i64 1))
  (.blk 0
    (.loop
      (.chk (.un .ln (.vr 5))
      (.chk (.bn (.cm .lss .i64) (.vr 6) (.un .ln (.vr 5)))
      (.set 18 (.bn (.cm .lss .i64) (.vr 6) (.un .ln (.vr 5)))
      (.ite (.vr 18)
        .nil
        (.exit 0)
      (.blk 1
        (.draw
        (.chk (.bn (.ia 1) (.vr 5) (.vr 6))
        (.chk (.ld (.bn (.ia 1) (.vr 5) (.vr 6)))
        (.set 25 (.ld (.bn (.ia 1) (.vr 5) (.vr 6)))
        (.chk (.bn (.ar .sub .i64) (.vr 6) (.cn (.int .i64 1)))
        (.chk (.bn (.ia 1) (.vr 5) (.bn (.ar .sub .i64) (.vr 6) (.cn (.int .i64 1))))
        (.chk (.ld (.bn (.ia 1) (.vr 5) (.bn (.ar .sub .i64) (.vr 6) (.cn (.int .i64 1)))))
        (.set 31 (.ld (.bn (.ia 1) (.vr 5) (.bn (.ar .sub .i64) (.vr 6) (.cn (.int .i64 1)))))
        (.chk (.bn (.ia 1) (.vr 4) (.vr 31))
        (.chk (.ld (.bn (.ia 1) (.vr 4) (.vr 31)))
        (.set 33 (.ld (.bn (.ia 1) (.vr 4) (.vr 31)))
        (.chk (.bn (.ar .add .u64) (.vr 33) (.cn (.int .u64 1)))
        (.chk (.bn (.ia 1) (.vr 5) (.vr 6))
        (.chk (.ld (.bn (.ia 1) (.vr 5) (.vr 6)))
        (.set 39 (.ld (.bn (.ia 1) (.vr 5) (.vr 6)))
        (.chk (.bn (.ia 1) (.vr 0) (.vr 39))
        (.chk (.ld (.bn (.ia 1) (.vr 0) (.vr 39)))
        (.set 41 (.ld (.bn (.ia 1) (.vr 0) (.vr 39)))
        (.chk (.bn (.ar .sub .i64) (.vr 6) (.cn (.int .i64 1)))
        (.chk (.bn (.ia 1) (.vr 5) (.bn (.ar .sub .i64) (.vr 6) (.cn (.int .i64 1))))
        (.chk (.ld (.bn (.ia 1) (.vr 5) (.bn (.ar .sub .i64) (.vr 6) (.cn (.int .i64 1)))))
        (.set 47 (.ld (.bn (.ia 1) (.vr 5) (.bn (.ar .sub .i64) (.vr 6) (.cn (.int .i64 1)))))
        (.chk (.bn (.ia 1) (.vr 0) (.vr 47))
        (.chk (.ld (.bn (.ia 1) (.vr 0) (.vr 47)))
        (.set 49 (.ld (.bn (.ia 1) (.vr 0) (.vr 47)))
        (.chk (.bn (.ar .sub .i64) (.vr 41) (.vr 49))
        (.chk (.bn (.sh true .u64) (.bn (.ar .add .u64) (.vr 33) (.cn (.int .u64 1))) (.un (.cv .u64) (.bn (.ar .sub .i64) (.vr 41) (.vr 49))))
        (.chk (.bn (.ia 1) (.vr 4) (.vr 25))
        (.st 1 (.bn (.ia 1) (.vr 4) (.vr 25)) (.bn (.sh true .u64) (.bn (.ar .add .u64) (.vr 33) (.cn (.int .u64 1))) (.un (.cv .u64) (.bn (.ar .sub .i64) (.vr 41) (.vr 49)))) []
        .nil)))))))))))))))))))))))))))))
      (.chk (.bn (.ar .add .i64) (.vr 6) (.cn (.int .i64 1)))
      (.set 6 (.bn (.ar .add .i64) (.vr 6) (.cn (.int .i64 1)))
      .nil))))))))
  (.set 2 (.vr 4)
  (.set 3 (.cn (.int .i64 0))
  .ret)))))))))))))))
def fc17 : Fc := ⟨55, s17, [(.vr 2), (.vr 3)]⟩
theorem c17 : compF Try.prog 17 = some fc17 := by kernel_rfl

/-- kinora/kinoraref8.PrefixFull · parameters 1 · 0:lens 3:sum 4:used 5:ones 6:i 7:n -/
def s18 : S :=
  (.set 2 (.cn (.bool false))
  (.chk (.un .ln (.vr 0))
  (.chk (.gd (.bn (.cm .lss .i64) (.un .ln (.vr 0)) (.cn (.int .i64 1))) false (.un .ln (.vr 0)))
  (.set 15 (.or (.bn (.cm .lss .i64) (.un .ln (.vr 0)) (.cn (.int .i64 1))) (.bn (.cm .gtr .i64) (.un .ln (.vr 0)) (.cn (.int .i64 1024))))
  (.ite (.vr 15)
    (.set 2 (.cn (.bool false))
    .ret)
    .nil
  (.set 3 (.cn (.int .i64 0))
  (.set 4 (.cn (.int .i64 0))
  (.set 5 (.cn (.int .i64 0))
  (.set 6 (.cn (.int .i64 0))
  (.blk 0
    (.loop
      (.chk (.un .ln (.vr 0))
      (.chk (.bn (.cm .lss .i64) (.vr 6) (.un .ln (.vr 0)))
      (.set 19 (.bn (.cm .lss .i64) (.vr 6) (.un .ln (.vr 0)))
      (.ite (.vr 19)
        .nil
        (.exit 0)
      (.blk 1
        (.chk (.bn (.ia 1) (.vr 0) (.vr 6))
        (.chk (.ld (.bn (.ia 1) (.vr 0) (.vr 6)))
        (.set 7 (.ld (.bn (.ia 1) (.vr 0) (.vr 6)))
        (.chk (.bn (.cm .lss .i64) (.vr 7) (.cn (.int .i64 0)))
        (.chk (.gd (.bn (.cm .lss .i64) (.vr 7) (.cn (.int .i64 0))) false (.bn (.cm .gtr .i64) (.vr 7) (.cn (.int .i64 24))))
        (.set 31 (.or (.bn (.cm .lss .i64) (.vr 7) (.cn (.int .i64 0))) (.bn (.cm .gtr .i64) (.vr 7) (.cn (.int .i64 24))))
        (.ite (.vr 31)
          (.set 2 (.cn (.bool false))
          .ret)
          .nil
        (.chk (.bn (.cm .gtr .i64) (.vr 7) (.cn (.int .i64 0)))
        (.set 33 (.bn (.cm .gtr .i64) (.vr 7) (.cn (.int .i64 0)))
        (.ite (.vr 33)
          (.chk (.bn (.ar .sub .i64) (.cn (.int .i64 24)) (.vr 7))
          (.chk (.bn (.sh true .i64) (.cn (.int .i64 1)) (.un (.cv .u64) (.bn (.ar .sub .i64) (.cn (.int .i64 24)) (.vr 7))))
          (.chk (.bn (.ar .add .i64) (.vr 3) (.bn (.sh true .i64) (.cn (.int .i64 1)) (.un (.cv .u64) (.bn (.ar .sub .i64) (.cn (.int .i64 24)) (.vr 7)))))
          (.chk (.bn (.ar .add .i64) (.vr 4) (.cn (.int .i64 1)))
          (.set 3 (.bn (.ar .add .i64) (.vr 3) (.bn (.sh true .i64) (.cn (.int .i64 1)) (.un (.cv .u64) (.bn (.ar .sub .i64) (.cn (.int .i64 24)) (.vr 7)))))
          (.set 4 (.bn (.ar .add .i64) (.vr 4) (.cn (.int .i64 1)))
          .nil))))))
          .nil
        (.chk (.bn (.cm .eql .i64) (.vr 7) (.cn (.int .i64 1)))
        (.set 43 (.bn (.cm .eql .i64) (.vr 7) (.cn (.int .i64 1)))
        (.ite (.vr 43)
          (.chk (.bn (.ar .add .i64) (.vr 5) (.cn (.int .i64 1)))
          (.set 5 (.bn (.ar .add .i64) (.vr 5) (.cn (.int .i64 1)))
          .nil))
          .nil
        .nil)))))))))))))
      (.chk (.bn (.ar .add .i64) (.vr 6) (.cn (.int .i64 1)))
      (.set 6 (.bn (.ar .add .i64) (.vr 6) (.cn (.int .i64 1)))
      .nil))))))))
  (.chk (.bn (.cm .eql .i64) (.vr 4) (.cn (.int .i64 1)))
  (.chk (.gd (.bn (.cm .eql .i64) (.vr 4) (.cn (.int .i64 1))) true (.bn (.cm .eql .i64) (.vr 5) (.cn (.int .i64 1))))
  (.chk (.gd (.and (.bn (.cm .eql .i64) (.vr 4) (.cn (.int .i64 1))) (.bn (.cm .eql .i64) (.vr 5) (.cn (.int .i64 1)))) false (.bn (.cm .gtr .i64) (.vr 4) (.cn (.int .i64 1))))
  (.chk (.gd (.gd (.and (.bn (.cm .eql .i64) (.vr 4) (.cn (.int .i64 1))) (.bn (.cm .eql .i64) (.vr 5) (.cn (.int .i64 1)))) false (.bn (.cm .gtr .i64) (.vr 4) (.cn (.int .i64 1)))) true (.bn (.cm .eql .i64) (.vr 3) (.cn (.int .i64 16777216))))
  (.set 2 (.or (.and (.bn (.cm .eql .i64) (.vr 4) (.cn (.int .i64 1))) (.bn (.cm .eql .i64) (.vr 5) (.cn (.int .i64 1)))) (.and (.bn (.cm .gtr .i64) (.vr 4) (.cn (.int .i64 1))) (.bn (.cm .eql .i64) (.vr 3) (.cn (.int .i64 16777216)))))
  .ret)))))))))))))))
def fc18 : Fc := ⟨60, s18, [(.vr 2)]⟩
theorem c18 : compF Try.prog 18 = some fc18 := by kernel_rfl

/-- kinora/kinoralaw7.sameWords · parameters 2 · 0:a 1:b 5:i -/
def s19 : S :=
  (.set 4 (.cn (.bool false))
  (.chk (.un .ln (.vr 0))
  (.chk (.un .ln (.vr 1))
  (.set 10 (.bn (.cm .neq .i64) (.un .ln (.vr 0)) (.un .ln (.vr 1)))
  (.ite (.vr 10)
    (.set 4 (.cn (.bool false))
    .ret)
    .nil
  (.set 5 (.cn (.int .i64 0))
  (.blk 0
    (.loop
      (.chk (.un .ln (.vr 0))
      (.chk (.bn (.cm .lss .i64) (.vr 5) (.un .ln (.vr 0)))
      (.set 14 (.bn (.cm .lss .i64) (.vr 5) (.un .ln (.vr 0)))
      (.ite (.vr 14)
        .nil
        (.exit 0)
      (.blk 1
        (.draw
        (.chk (.bn (.ia 1) (.vr 0) (.vr 5))
        (.chk (.ld (.bn (.ia 1) (.vr 0) (.vr 5)))
        (.chk (.bn (.ia 1) (.vr 1) (.vr 5))
        (.chk (.ld (.bn (.ia 1) (.vr 1) (.vr 5)))
        (.chk (.bn (.cm .neq .u64) (.ld (.bn (.ia 1) (.vr 0) (.vr 5))) (.ld (.bn (.ia 1) (.vr 1) (.vr 5))))
        (.set 25 (.bn (.cm .neq .u64) (.ld (.bn (.ia 1) (.vr 0) (.vr 5))) (.ld (.bn (.ia 1) (.vr 1) (.vr 5))))
        (.ite (.vr 25)
          (.set 4 (.cn (.bool false))
          .ret)
          .nil
        .nil))))))))
      (.chk (.bn (.ar .add .i64) (.vr 5) (.cn (.int .i64 1)))
      (.set 5 (.bn (.ar .add .i64) (.vr 5) (.cn (.int .i64 1)))
      .nil))))))))
  (.set 4 (.cn (.bool true))
  .ret))))))))
def fc19 : Fc := ⟨26, s19, [(.vr 4)]⟩
theorem c19 : compF Try.prog 19 = some fc19 := by kernel_rfl

/-- kinora/prefix.Total · parameters 2 · 0:freq 1:lens 5:sum 6:i -/
def s20 : S :=
  (.set 4 (.cn (.int .i64 0))
  (.set 5 (.cn (.int .i64 0))
  (.chk (.un .ln (.vr 0))
  (.chk (.un .ln (.vr 1))
  (.set 11 (.bn (.mn .i64) (.un .ln (.vr 0)) (.un .ln (.vr 1)))
  (.set 12 (.cn (.int .i64 0))
  (.blk 0
    (.loop
      (.chk (.bn (.cm .lss .i64) (.vr 12) (.vr 11))
      (.set 13 (.bn (.cm .lss .i64) (.vr 12) (.vr 11))
      (.ite (.vr 13)
        .nil
        (.exit 0)
      (.blk 1
        (.set 6 (.vr 12)
        (.draw
        (.chk (.bn (.ia 1) (.vr 0) (.vr 6))
        (.chk (.ld (.bn (.ia 1) (.vr 0) (.vr 6)))
        (.chk (.bn (.ia 1) (.vr 1) (.vr 6))
        (.chk (.ld (.bn (.ia 1) (.vr 1) (.vr 6)))
        (.chk (.bn (.ar .mul .i64) (.ld (.bn (.ia 1) (.vr 0) (.vr 6))) (.ld (.bn (.ia 1) (.vr 1) (.vr 6))))
        (.chk (.bn (.ar .add .i64) (.vr 5) (.bn (.ar .mul .i64) (.ld (.bn (.ia 1) (.vr 0) (.vr 6))) (.ld (.bn (.ia 1) (.vr 1) (.vr 6)))))
        (.set 5 (.bn (.ar .add .i64) (.vr 5) (.bn (.ar .mul .i64) (.ld (.bn (.ia 1) (.vr 0) (.vr 6))) (.ld (.bn (.ia 1) (.vr 1) (.vr 6)))))
        .nil)))))))))
      (.chk (.bn (.ar .add .i64) (.vr 12) (.cn (.int .i64 1)))
      (.set 12 (.bn (.ar .add .i64) (.vr 12) (.cn (.int .i64 1)))
      .nil)))))))
  (.set 4 (.vr 5)
  .ret))))))))
def fc20 : Fc := ⟨28, s20, [(.vr 4)]⟩
theorem c20 : compF Try.prog 20 = some fc20 := by kernel_rfl

/-- kinora/kinoraref8.PrefixTotal · parameters 2 · 0:freq 1:lens 5:n 6:i -/
def s21 : S :=
  (.set 4 (.cn (.int .i64 0))
  (.set 5 (.cn (.int .i64 0))
  (.set 6 (.cn (.int .i64 0))
  (.blk 0
    (.loop
      (.chk (.un .ln (.vr 0))
      (.chk (.bn (.cm .lss .i64) (.vr 6) (.un .ln (.vr 0)))
      (.chk (.gd (.bn (.cm .lss .i64) (.vr 6) (.un .ln (.vr 0))) true (.un .ln (.vr 1)))
      (.chk (.gd (.bn (.cm .lss .i64) (.vr 6) (.un .ln (.vr 0))) true (.bn (.cm .lss .i64) (.vr 6) (.un .ln (.vr 1))))
      (.set 16 (.and (.bn (.cm .lss .i64) (.vr 6) (.un .ln (.vr 0))) (.bn (.cm .lss .i64) (.vr 6) (.un .ln (.vr 1))))
      (.ite (.vr 16)
        .nil
        (.exit 0)
      (.blk 1
        (.draw
        (.chk (.bn (.ia 1) (.vr 0) (.vr 6))
        (.chk (.ld (.bn (.ia 1) (.vr 0) (.vr 6)))
        (.chk (.bn (.ia 1) (.vr 1) (.vr 6))
        (.chk (.ld (.bn (.ia 1) (.vr 1) (.vr 6)))
        (.chk (.bn (.ar .mul .i64) (.ld (.bn (.ia 1) (.vr 0) (.vr 6))) (.ld (.bn (.ia 1) (.vr 1) (.vr 6))))
        (.chk (.bn (.ar .add .i64) (.vr 5) (.bn (.ar .mul .i64) (.ld (.bn (.ia 1) (.vr 0) (.vr 6))) (.ld (.bn (.ia 1) (.vr 1) (.vr 6)))))
        (.set 5 (.bn (.ar .add .i64) (.vr 5) (.bn (.ar .mul .i64) (.ld (.bn (.ia 1) (.vr 0) (.vr 6))) (.ld (.bn (.ia 1) (.vr 1) (.vr 6)))))
        .nil))))))))
      (.chk (.bn (.ar .add .i64) (.vr 6) (.cn (.int .i64 1)))
      (.set 6 (.bn (.ar .add .i64) (.vr 6) (.cn (.int .i64 1)))
      .nil))))))))))
  (.set 4 (.vr 5)
  .ret)))))
def fc21 : Fc := ⟨31, s21, [(.vr 4)]⟩
theorem c21 : compF Try.prog 21 = some fc21 := by kernel_rfl

/-- kinora/bits.New · parameters 1 · 0:b -/
def s22 : S :=
  (.set 2 (.cn (.pointer none))
  (.op (some 4) (.call ⟨(.builtin .append), #[(.const (.slice none 0 0)), (.tmp 3)], #[38, 38]⟩) 38 [(3, (.vr 0))] []
  (.chk (.bd 0 1 (.vr 4) (.cn (.agg #[(.slice none 0 0), (.int .i64 0), (.int .i64 0)])))
  (.op (some 6) (.box 74 (.tmp 5)) 39 [(5, (.bd 0 1 (.vr 4) (.cn (.agg #[(.slice none 0 0), (.int .i64 0), (.int .i64 0)]))))] []
  (.set 2 (.vr 6)
  .ret)))))
def fc22 : Fc := ⟨7, s22, [(.vr 2)]⟩
theorem c22 : compF Try.prog 22 = some fc22 := by kernel_rfl

/-- kinora/kinoraref2.NewReader · parameters 1 · 0:b -/
def s23 : S :=
  (.set 2 (.cn (.pointer none))
  (.chk (.bd 0 1 (.vr 0) (.cn (.agg #[(.slice none 0 0), (.int .i64 0), (.int .i64 0)])))
  (.op (some 5) (.box 48 (.tmp 4)) 41 [(4, (.bd 0 1 (.vr 0) (.cn (.agg #[(.slice none 0 0), (.int .i64 0), (.int .i64 0)]))))] []
  (.set 2 (.vr 5)
  .ret))))
def fc23 : Fc := ⟨6, s23, [(.vr 2)]⟩
theorem c23 : compF Try.prog 23 = some fc23 := by kernel_rfl

/-- (*kinora/bits.Reader).Get · parameters 2 · 0:r 1:n 5:v -/
def s24 : S :=
  (.set 4 (.cn (.int .u64 0))
  (.chk (.un .nck (.vr 0))
  (.chk (.un (.fa 2) (.un .nck (.vr 0)))
  (.chk (.ld (.un (.fa 2) (.un .nck (.vr 0))))
  (.chk (.bn (.cm .neq .i64) (.ld (.un (.fa 2) (.un .nck (.vr 0)))) (.cn (.int .i64 0)))
  (.set 10 (.bn (.cm .neq .i64) (.ld (.un (.fa 2) (.un .nck (.vr 0)))) (.cn (.int .i64 0)))
  (.ite (.vr 10)
    (.set 4 (.cn (.int .u64 0))
    .ret)
    .nil
  (.chk (.bn (.cm .lss .i64) (.vr 1) (.cn (.int .i64 0)))
  (.chk (.gd (.bn (.cm .lss .i64) (.vr 1) (.cn (.int .i64 0))) false (.bn (.cm .gtr .i64) (.vr 1) (.cn (.int .i64 64))))
  (.set 16 (.or (.bn (.cm .lss .i64) (.vr 1) (.cn (.int .i64 0))) (.bn (.cm .gtr .i64) (.vr 1) (.cn (.int .i64 64))))
  (.ite (.vr 16)
    (.chk (.un .nck (.vr 0))
    (.chk (.un (.fa 2) (.un .nck (.vr 0)))
    (.st 1 (.un (.fa 2) (.un .nck (.vr 0))) (.cn (.int .i64 1)) []
    (.set 4 (.cn (.int .u64 0))
    .ret))))
    .nil
  (.call (some 22) 41 [(.vr 0)] []
  (.chk (.bn (.cm .gtr .i64) (.vr 1) (.vr 22))
  (.set 23 (.bn (.cm .gtr .i64) (.vr 1) (.vr 22))
  (.ite (.vr 23)
    (.chk (.un .nck (.vr 0))
    (.chk (.un (.fa 2) (.un .nck (.vr 0)))
    (.st 1 (.un (.fa 2) (.un .nck (.vr 0))) (.cn (.int .i64 3)) []
    (.set 4 (.cn (.int .u64 0))
    .ret))))
    .nil
  (.set 5 (.cn (.int .u64 0))
  (.set 27 (.vr 1)
  (.set 28 (.cn (.int .i64 0))
  (.blk 0
    (.loop
      (.chk (.bn (.cm .lss .i64) (.vr 28) (.vr 27))
      (.set 29 (.bn (.cm .lss .i64) (.vr 28) (.vr 27))
      (.ite (.vr 29)
        .nil
        (.exit 0)
      (.blk 1
        (.chk (.bn (.sh true .u64) (.vr 5) (.cn (.int .u64 1)))
        (.chk (.un .nck (.vr 0))
        (.chk (.un (.fa 1) (.un .nck (.vr 0)))
        (.chk (.ld (.un (.fa 1) (.un .nck (.vr 0))))
        (.set 36 (.ld (.un (.fa 1) (.un .nck (.vr 0))))
        (.call (some 37) 42 [(.vr 0), (.vr 36)] []
        (.chk (.un (.cv .u64) (.vr 37))
        (.set 5 (.bn (.bt .or .u64) (.bn (.sh true .u64) (.vr 5) (.cn (.int .u64 1))) (.un (.cv .u64) (.vr 37)))
        (.chk (.un .nck (.vr 0))
        (.chk (.un (.fa 1) (.un .nck (.vr 0)))
        (.chk (.ld (.un (.fa 1) (.un .nck (.vr 0))))
        (.set 43 (.ld (.un (.fa 1) (.un .nck (.vr 0))))
        (.chk (.bn (.ar .add .i64) (.vr 43) (.cn (.int .i64 1)))
        (.chk (.un .nck (.vr 0))
        (.chk (.un (.fa 1) (.un .nck (.vr 0)))
        (.st 1 (.un (.fa 1) (.un .nck (.vr 0))) (.bn (.ar .add .i64) (.vr 43) (.cn (.int .i64 1))) []
        .nil))))))))))))))))
      (.chk (.bn (.ar .add .i64) (.vr 28) (.cn (.int .i64 1)))
      (.set 28 (.bn (.ar .add .i64) (.vr 28) (.cn (.int .i64 1)))
      .nil)))))))
  (.set 4 (.vr 5)
  .ret))))))))))))))))))))
def fc24 : Fc := ⟨49, s24, [(.vr 4)]⟩
theorem c24 : compF Try.prog 24 = some fc24 := by kernel_rfl

/-- (*kinora/kinoraref2.Reader).Get · parameters 2 · 0:r 1:n 5:v 6:i -/
def s25 : S :=
  (.set 4 (.cn (.int .u64 0))
  (.chk (.un .nck (.vr 0))
  (.chk (.un (.fa 2) (.un .nck (.vr 0)))
  (.chk (.ld (.un (.fa 2) (.un .nck (.vr 0))))
  (.chk (.bn (.cm .neq .i64) (.ld (.un (.fa 2) (.un .nck (.vr 0)))) (.cn (.int .i64 0)))
  (.set 11 (.bn (.cm .neq .i64) (.ld (.un (.fa 2) (.un .nck (.vr 0)))) (.cn (.int .i64 0)))
  (.ite (.vr 11)
    (.set 4 (.cn (.int .u64 0))
    .ret)
    .nil
  (.chk (.bn (.cm .lss .i64) (.vr 1) (.cn (.int .i64 0)))
  (.chk (.gd (.bn (.cm .lss .i64) (.vr 1) (.cn (.int .i64 0))) false (.bn (.cm .gtr .i64) (.vr 1) (.cn (.int .i64 64))))
  (.set 17 (.or (.bn (.cm .lss .i64) (.vr 1) (.cn (.int .i64 0))) (.bn (.cm .gtr .i64) (.vr 1) (.cn (.int .i64 64))))
  (.ite (.vr 17)
    (.chk (.un .nck (.vr 0))
    (.chk (.un (.fa 2) (.un .nck (.vr 0)))
    (.st 1 (.un (.fa 2) (.un .nck (.vr 0))) (.cn (.int .i64 1)) []
    (.set 4 (.cn (.int .u64 0))
    .ret))))
    .nil
  (.call (some 23) 43 [(.vr 0)] []
  (.chk (.bn (.cm .gtr .i64) (.vr 1) (.vr 23))
  (.set 24 (.bn (.cm .gtr .i64) (.vr 1) (.vr 23))
  (.ite (.vr 24)
    (.chk (.un .nck (.vr 0))
    (.chk (.un (.fa 2) (.un .nck (.vr 0)))
    (.st 1 (.un (.fa 2) (.un .nck (.vr 0))) (.cn (.int .i64 3)) []
    (.set 4 (.cn (.int .u64 0))
    .ret))))
    .nil
  (.set 5 (.cn (.int .u64 0))
  (.set 6 (.cn (.int .i64 0))
  (.blk 0
    (.loop
      (.chk (.bn (.cm .lss .i64) (.vr 6) (.vr 1))
      (.set 30 (.bn (.cm .lss .i64) (.vr 6) (.vr 1))
      (.ite (.vr 30)
        .nil
        (.exit 0)
      (.blk 1
        (.chk (.bn (.sh true .u64) (.vr 5) (.cn (.int .u64 1)))
        (.chk (.un .nck (.vr 0))
        (.chk (.un (.fa 1) (.un .nck (.vr 0)))
        (.chk (.ld (.un (.fa 1) (.un .nck (.vr 0))))
        (.set 39 (.ld (.un (.fa 1) (.un .nck (.vr 0))))
        (.chk (.bn (.ar .add .i64) (.vr 39) (.vr 6))
        (.call (some 42) 44 [(.vr 0), (.bn (.ar .add .i64) (.vr 39) (.vr 6))] []
        (.chk (.bn (.bt .or .u64) (.bn (.sh true .u64) (.vr 5) (.cn (.int .u64 1))) (.vr 42))
        (.set 5 (.bn (.bt .or .u64) (.bn (.sh true .u64) (.vr 5) (.cn (.int .u64 1))) (.vr 42))
        .nil)))))))))
      (.chk (.bn (.ar .add .i64) (.vr 6) (.cn (.int .i64 1)))
      (.set 6 (.bn (.ar .add .i64) (.vr 6) (.cn (.int .i64 1)))
      .nil)))))))
  (.chk (.un .nck (.vr 0))
  (.chk (.un (.fa 1) (.un .nck (.vr 0)))
  (.chk (.ld (.un (.fa 1) (.un .nck (.vr 0))))
  (.set 48 (.ld (.un (.fa 1) (.un .nck (.vr 0))))
  (.chk (.bn (.ar .add .i64) (.vr 48) (.vr 1))
  (.chk (.un .nck (.vr 0))
  (.chk (.un (.fa 1) (.un .nck (.vr 0)))
  (.st 1 (.un (.fa 1) (.un .nck (.vr 0))) (.bn (.ar .add .i64) (.vr 48) (.vr 1)) []
  (.set 4 (.vr 5)
  .ret)))))))))))))))))))))))))))
def fc25 : Fc := ⟨54, s25, [(.vr 4)]⟩
theorem c25 : compF Try.prog 25 = some fc25 := by kernel_rfl

/-- kinora/prefix.Get · parameters 3 · 0:r 1:lens 2:n 8:words 9:err 10:t 11:out 12:symbol 13:err -/
def s26 : S :=
  (.set 6 (.cn (.slice none 0 0))
  (.set 7 (.cn (.int .i64 0))
  (.call (some 16) 15 [(.vr 1)] []
  (.chk (.un (.ex 0) (.vr 16))
  (.chk (.un (.ex 1) (.vr 16))
  (.set 8 (.un (.ex 0) (.vr 16))
  (.set 9 (.un (.ex 1) (.vr 16))
  (.chk (.bn (.cm .neq .i64) (.vr 9) (.cn (.int .i64 0)))
  (.chk (.gd (.bn (.cm .neq .i64) (.vr 9) (.cn (.int .i64 0))) false (.bn (.cm .lss .i64) (.vr 2) (.cn (.int .i64 0))))
  (.chk (.gd (.or (.bn (.cm .neq .i64) (.vr 9) (.cn (.int .i64 0))) (.bn (.cm .lss .i64) (.vr 2) (.cn (.int .i64 0)))) false (.bn (.cm .gtr .i64) (.vr 2) (.cn (.int .i64 4194304))))
  (.set 28 (.or (.or (.bn (.cm .neq .i64) (.vr 9) (.cn (.int .i64 0))) (.bn (.cm .lss .i64) (.vr 2) (.cn (.int .i64 0)))) (.bn (.cm .gtr .i64) (.vr 2) (.cn (.int .i64 4194304))))
  (.ite (.vr 28)
    (.set 6 (.cn (.slice none 0 0))
    (.set 7 (.cn (.int .i64 1))
    .ret))
    .nil
  (.call (some 30) 45 [(.vr 0)] []
  (.chk (.bn (.cm .neq .i64) (.vr 30) (.cn (.int .i64 0)))
  (.set 31 (.bn (.cm .neq .i64) (.vr 30) (.cn (.int .i64 0)))
  (.ite (.vr 31)
    (.call (some 33) 45 [(.vr 0)] []
    (.set 6 (.cn (.slice none 0 0))
    (.set 7 (.vr 33)
    .ret)))
    .nil
  (.call (some 36) 46 [(.vr 1), (.vr 8)] []
  (.set 10 (.vr 36)
  (.set 11 (.cn (.slice none 0 0))
  (.set 37 (.vr 2)
  (.set 38 (.cn (.int .i64 0))
  (.blk 0
    (.loop
      (.chk (.bn (.cm .lss .i64) (.vr 38) (.vr 37))
      (.set 39 (.bn (.cm .lss .i64) (.vr 38) (.vr 37))
      (.ite (.vr 39)
        .nil
        (.exit 0)
      (.blk 1
        (.call (some 43) 47 [(.vr 10), (.vr 0)] []
        (.chk (.un (.ex 0) (.vr 43))
        (.chk (.un (.ex 1) (.vr 43))
        (.set 12 (.un (.ex 0) (.vr 43))
        (.set 13 (.un (.ex 1) (.vr 43))
        (.chk (.bn (.cm .neq .i64) (.vr 13) (.cn (.int .i64 0)))
        (.set 47 (.bn (.cm .neq .i64) (.vr 13) (.cn (.int .i64 0)))
        (.ite (.vr 47)
          (.set 6 (.cn (.slice none 0 0))
          (.set 7 (.vr 13)
          .ret))
          .nil
        (.op (some 51) (.buildSlice 22 1 #[(0, (.tmp 50))]) 22 [(50, (.vr 12))] []
        (.op (some 52) (.call ⟨(.builtin .append), #[(.tmp 49), (.tmp 51)], #[22, 22]⟩) 22 [(49, (.vr 11)), (51, (.vr 51))] []
        (.set 11 (.vr 52)
        .nil)))))))))))
      (.chk (.bn (.ar .add .i64) (.vr 38) (.cn (.int .i64 1)))
      (.set 38 (.bn (.ar .add .i64) (.vr 38) (.cn (.int .i64 1)))
      .nil)))))))
  (.set 6 (.vr 11)
  (.set 7 (.cn (.int .i64 0))
  .ret))))))))))))))))))))))))
def fc26 : Fc := ⟨55, s26, [(.vr 6), (.vr 7)]⟩
theorem c26 : compF Try.prog 26 = some fc26 := by kernel_rfl

/-- kinora/kinoraref8.PrefixGet · parameters 3 · 0:r 1:lens 2:n 8:c 9:e 10:l 11:out 12:i 13:s 14:bad -/
def s27 : S :=
  (.set 6 (.cn (.slice none 0 0))
  (.set 7 (.cn (.int .i64 0))
  (.call (some 17) 17 [(.vr 1)] []
  (.chk (.un (.ex 0) (.vr 17))
  (.chk (.un (.ex 1) (.vr 17))
  (.set 8 (.un (.ex 0) (.vr 17))
  (.set 9 (.un (.ex 1) (.vr 17))
  (.chk (.bn (.cm .neq .i64) (.vr 9) (.cn (.int .i64 0)))
  (.chk (.gd (.bn (.cm .neq .i64) (.vr 9) (.cn (.int .i64 0))) false (.bn (.cm .lss .i64) (.vr 2) (.cn (.int .i64 0))))
  (.chk (.gd (.or (.bn (.cm .neq .i64) (.vr 9) (.cn (.int .i64 0))) (.bn (.cm .lss .i64) (.vr 2) (.cn (.int .i64 0)))) false (.bn (.cm .gtr .i64) (.vr 2) (.cn (.int .i64 4194304))))
  (.set 29 (.or (.or (.bn (.cm .neq .i64) (.vr 9) (.cn (.int .i64 0))) (.bn (.cm .lss .i64) (.vr 2) (.cn (.int .i64 0)))) (.bn (.cm .gtr .i64) (.vr 2) (.cn (.int .i64 4194304))))
  (.ite (.vr 29)
    (.set 6 (.cn (.slice none 0 0))
    (.set 7 (.cn (.int .i64 1))
    .ret))
    .nil
  (.chk (.un .nck (.vr 0))
  (.chk (.un (.fa 2) (.un .nck (.vr 0)))
  (.chk (.ld (.un (.fa 2) (.un .nck (.vr 0))))
  (.chk (.bn (.cm .neq .i64) (.ld (.un (.fa 2) (.un .nck (.vr 0)))) (.cn (.int .i64 0)))
  (.set 34 (.bn (.cm .neq .i64) (.ld (.un (.fa 2) (.un .nck (.vr 0)))) (.cn (.int .i64 0)))
  (.ite (.vr 34)
    (.draw
    (.chk (.un .nck (.vr 0))
    (.chk (.un (.fa 2) (.un .nck (.vr 0)))
    (.chk (.ld (.un (.fa 2) (.un .nck (.vr 0))))
    (.set 6 (.cn (.slice none 0 0))
    (.set 7 (.ld (.un (.fa 2) (.un .nck (.vr 0))))
    .ret))))))
    .nil
  (.call (some 40) 40 [(.vr 1)] []
  (.set 10 (.vr 40)
  (.set 11 (.cn (.slice none 0 0))
  (.set 12 (.cn (.int .i64 0))
  (.blk 0
    (.loop
      (.chk (.bn (.cm .lss .i64) (.vr 12) (.vr 2))
      (.set 43 (.bn (.cm .lss .i64) (.vr 12) (.vr 2))
      (.ite (.vr 43)
        .nil
        (.exit 0)
      (.blk 1
        (.call (some 51) 48 [(.vr 0), (.vr 1), (.vr 8), (.vr 10)] []
        (.chk (.un (.ex 0) (.vr 51))
        (.chk (.un (.ex 1) (.vr 51))
        (.set 13 (.un (.ex 0) (.vr 51))
        (.set 14 (.un (.ex 1) (.vr 51))
        (.chk (.bn (.cm .neq .i64) (.vr 14) (.cn (.int .i64 0)))
        (.set 55 (.bn (.cm .neq .i64) (.vr 14) (.cn (.int .i64 0)))
        (.ite (.vr 55)
          (.set 6 (.cn (.slice none 0 0))
          (.set 7 (.vr 14)
          .ret))
          .nil
        (.op (some 59) (.buildSlice 22 1 #[(0, (.tmp 58))]) 22 [(58, (.vr 13))] []
        (.op (some 60) (.call ⟨(.builtin .append), #[(.tmp 57), (.tmp 59)], #[22, 22]⟩) 22 [(57, (.vr 11)), (59, (.vr 59))] []
        (.set 11 (.vr 60)
        .nil)))))))))))
      (.chk (.bn (.ar .add .i64) (.vr 12) (.cn (.int .i64 1)))
      (.set 12 (.bn (.ar .add .i64) (.vr 12) (.cn (.int .i64 1)))
      .nil)))))))
  (.set 6 (.vr 11)
  (.set 7 (.cn (.int .i64 0))
  .ret)))))))))))))))))))))))))
def fc27 : Fc := ⟨62, s27, [(.vr 6), (.vr 7)]⟩
theorem c27 : compF Try.prog 27 = some fc27 := by kernel_rfl

/-- (*kinora/bits.Reader).At · parameters 1 · 0:r -/
def s28 : S :=
  (.set 2 (.cn (.int .i64 0))
  (.chk (.un .nck (.vr 0))
  (.chk (.un (.fa 1) (.un .nck (.vr 0)))
  (.chk (.ld (.un (.fa 1) (.un .nck (.vr 0))))
  (.set 2 (.ld (.un (.fa 1) (.un .nck (.vr 0))))
  .ret)))))
def fc28 : Fc := ⟨7, s28, [(.vr 2)]⟩
theorem c28 : compF Try.prog 28 = some fc28 := by kernel_rfl

/-- kinora/prefix.PutTable · parameters 2 · 0:w 1:lens 5:i 6:zeros -/
def s29 : S :=
  (.set 4 (.cn (.int .i64 0))
  (.call (some 8) 16 [(.vr 1)] []
  (.chk (.un .not (.vr 8))
  (.set 9 (.un .not (.vr 8))
  (.ite (.vr 9)
    (.set 4 (.cn (.int .i64 1))
    .ret)
    .nil
  (.chk (.un .ln (.vr 1))
  (.call (some 15) 49 [(.vr 0), (.un (.cv .u64) (.bn (.ar .sub .i64) (.un .ln (.vr 1)) (.cn (.int .i64 1)))), (.cn (.int .i64 10))] []
  (.set 5 (.cn (.int .i64 0))
  (.blk 0
    (.loop
      (.chk (.un .ln (.vr 1))
      (.chk (.bn (.cm .lss .i64) (.vr 5) (.un .ln (.vr 1)))
      (.set 19 (.bn (.cm .lss .i64) (.vr 5) (.un .ln (.vr 1)))
      (.ite (.vr 19)
        .nil
        (.exit 0)
      (.blk 1
        (.set 6 (.cn (.int .i64 0))
        (.blk 2
          (.loop
            (.chk (.bn (.cm .lss .i64) (.vr 6) (.cn (.int .i64 66)))
            (.chk (.gd (.bn (.cm .lss .i64) (.vr 6) (.cn (.int .i64 66))) true (.bn (.ar .add .i64) (.vr 5) (.vr 6)))
            (.chk (.gd (.bn (.cm .lss .i64) (.vr 6) (.cn (.int .i64 66))) true (.un .ln (.vr 1)))
            (.chk (.gd (.and (.bn (.cm .lss .i64) (.vr 6) (.cn (.int .i64 66))) (.bn (.cm .lss .i64) (.bn (.ar .add .i64) (.vr 5) (.vr 6)) (.un .ln (.vr 1)))) true (.bn (.ar .add .i64) (.vr 5) (.vr 6)))
            (.chk (.gd (.and (.bn (.cm .lss .i64) (.vr 6) (.cn (.int .i64 66))) (.bn (.cm .lss .i64) (.bn (.ar .add .i64) (.vr 5) (.vr 6)) (.un .ln (.vr 1)))) true (.bn (.ia 1) (.vr 1) (.bn (.ar .add .i64) (.vr 5) (.vr 6))))
            (.chk (.gd (.and (.bn (.cm .lss .i64) (.vr 6) (.cn (.int .i64 66))) (.bn (.cm .lss .i64) (.bn (.ar .add .i64) (.vr 5) (.vr 6)) (.un .ln (.vr 1)))) true (.ld (.bn (.ia 1) (.vr 1) (.bn (.ar .add .i64) (.vr 5) (.vr 6)))))
            (.chk (.gd (.and (.bn (.cm .lss .i64) (.vr 6) (.cn (.int .i64 66))) (.bn (.cm .lss .i64) (.bn (.ar .add .i64) (.vr 5) (.vr 6)) (.un .ln (.vr 1)))) true (.bn (.cm .eql .i64) (.ld (.bn (.ia 1) (.vr 1) (.bn (.ar .add .i64) (.vr 5) (.vr 6)))) (.cn (.int .i64 0))))
            (.set 38 (.and (.and (.bn (.cm .lss .i64) (.vr 6) (.cn (.int .i64 66))) (.bn (.cm .lss .i64) (.bn (.ar .add .i64) (.vr 5) (.vr 6)) (.un .ln (.vr 1)))) (.bn (.cm .eql .i64) (.ld (.bn (.ia 1) (.vr 1) (.bn (.ar .add .i64) (.vr 5) (.vr 6)))) (.cn (.int .i64 0))))
            (.ite (.vr 38)
              .nil
              (.exit 2)
            (.blk 3
              (.chk (.bn (.ar .add .i64) (.vr 6) (.cn (.int .i64 1)))
              (.set 6 (.bn (.ar .add .i64) (.vr 6) (.cn (.int .i64 1)))
              .nil))
            .nil)))))))))))
        (.chk (.bn (.cm .lss .i64) (.vr 6) (.cn (.int .i64 3)))
        (.set 42 (.bn (.cm .lss .i64) (.vr 6) (.cn (.int .i64 3)))
        (.ite (.vr 42)
          (.chk (.bn (.ia 1) (.vr 1) (.vr 5))
          (.chk (.ld (.bn (.ia 1) (.vr 1) (.vr 5)))
          (.set 47 (.ld (.bn (.ia 1) (.vr 1) (.vr 5)))
          (.chk (.un (.cv .u64) (.vr 47))
          (.call (some 49) 49 [(.vr 0), (.un (.cv .u64) (.vr 47)), (.cn (.int .i64 5))] []
          (.chk (.bn (.ar .add .i64) (.vr 5) (.cn (.int .i64 1)))
          (.set 5 (.bn (.ar .add .i64) (.vr 5) (.cn (.int .i64 1)))
          (.exit 1))))))))
          .nil
        (.call (some 53) 49 [(.vr 0), (.cn (.int .u64 31)), (.cn (.int .i64 5))] []
        (.chk (.bn (.ar .sub .i64) (.vr 6) (.cn (.int .i64 3)))
        (.call (some 58) 49 [(.vr 0), (.un (.cv .u64) (.bn (.ar .sub .i64) (.vr 6) (.cn (.int .i64 3)))), (.cn (.int .i64 6))] []
        (.chk (.bn (.ar .add .i64) (.vr 5) (.vr 6))
        (.set 5 (.bn (.ar .add .i64) (.vr 5) (.vr 6))
        .nil))))))))))
      .nil))))))
  (.set 4 (.cn (.int .i64 0))
  .ret))))))))))
def fc29 : Fc := ⟨62, s29, [(.vr 4)]⟩
theorem c29 : compF Try.prog 29 = some fc29 := by kernel_rfl

/-- kinora/prefix.Put · parameters 3 · 0:w 1:lens 2:l 7:words 8:err 10:symbol 12:symbol -/
def s30 : S :=
  (.set 6 (.cn (.int .i64 0))
  (.call (some 15) 15 [(.vr 1)] []
  (.chk (.un (.ex 0) (.vr 15))
  (.chk (.un (.ex 1) (.vr 15))
  (.set 7 (.un (.ex 0) (.vr 15))
  (.set 8 (.un (.ex 1) (.vr 15))
  (.chk (.bn (.cm .neq .i64) (.vr 8) (.cn (.int .i64 0)))
  (.set 19 (.bn (.cm .neq .i64) (.vr 8) (.cn (.int .i64 0)))
  (.ite (.vr 19)
    (.set 6 (.vr 8)
    .ret)
    .nil
  (.set 21 (.vr 2)
  (.chk (.un .ln (.vr 21))
  (.set 22 (.un .ln (.vr 21))
  (.set 23 (.cn (.int .i64 0))
  (.blk 0
    (.loop
      (.chk (.bn (.cm .lss .i64) (.vr 23) (.vr 22))
      (.set 24 (.bn (.cm .lss .i64) (.vr 23) (.vr 22))
      (.ite (.vr 24)
        .nil
        (.exit 0)
      (.blk 1
        (.chk (.bn (.ia 1) (.vr 21) (.vr 23))
        (.chk (.ld (.bn (.ia 1) (.vr 21) (.vr 23)))
        (.set 10 (.ld (.bn (.ia 1) (.vr 21) (.vr 23)))
        (.chk (.bn (.cm .lss .i64) (.vr 10) (.cn (.int .i64 0)))
        (.chk (.gd (.bn (.cm .lss .i64) (.vr 10) (.cn (.int .i64 0))) false (.un .ln (.vr 1)))
        (.chk (.gd (.bn (.cm .lss .i64) (.vr 10) (.cn (.int .i64 0))) false (.bn (.cm .geq .i64) (.vr 10) (.un .ln (.vr 1))))
        (.chk (.gd (.or (.bn (.cm .lss .i64) (.vr 10) (.cn (.int .i64 0))) (.bn (.cm .geq .i64) (.vr 10) (.un .ln (.vr 1)))) false (.bn (.ia 1) (.vr 1) (.vr 10)))
        (.chk (.gd (.or (.bn (.cm .lss .i64) (.vr 10) (.cn (.int .i64 0))) (.bn (.cm .geq .i64) (.vr 10) (.un .ln (.vr 1)))) false (.ld (.bn (.ia 1) (.vr 1) (.vr 10))))
        (.chk (.gd (.or (.bn (.cm .lss .i64) (.vr 10) (.cn (.int .i64 0))) (.bn (.cm .geq .i64) (.vr 10) (.un .ln (.vr 1)))) false (.bn (.cm .eql .i64) (.ld (.bn (.ia 1) (.vr 1) (.vr 10))) (.cn (.int .i64 0))))
        (.set 41 (.or (.or (.bn (.cm .lss .i64) (.vr 10) (.cn (.int .i64 0))) (.bn (.cm .geq .i64) (.vr 10) (.un .ln (.vr 1)))) (.bn (.cm .eql .i64) (.ld (.bn (.ia 1) (.vr 1) (.vr 10))) (.cn (.int .i64 0))))
        (.ite (.vr 41)
          (.set 6 (.cn (.int .i64 6))
          .ret)
          .nil
        .nil)))))))))))
      (.chk (.bn (.ar .add .i64) (.vr 23) (.cn (.int .i64 1)))
      (.set 23 (.bn (.ar .add .i64) (.vr 23) (.cn (.int .i64 1)))
      .nil)))))))
  (.set 43 (.vr 2)
  (.chk (.un .ln (.vr 43))
  (.set 44 (.un .ln (.vr 43))
  (.set 45 (.cn (.int .i64 0))
  (.blk 2
    (.loop
      (.chk (.bn (.cm .lss .i64) (.vr 45) (.vr 44))
      (.set 46 (.bn (.cm .lss .i64) (.vr 45) (.vr 44))
      (.ite (.vr 46)
        .nil
        (.exit 2)
      (.blk 3
        (.chk (.bn (.ia 1) (.vr 43) (.vr 45))
        (.chk (.ld (.bn (.ia 1) (.vr 43) (.vr 45)))
        (.set 12 (.ld (.bn (.ia 1) (.vr 43) (.vr 45)))
        (.draw
        (.chk (.bn (.ia 1) (.vr 7) (.vr 12))
        (.chk (.ld (.bn (.ia 1) (.vr 7) (.vr 12)))
        (.set 53 (.ld (.bn (.ia 1) (.vr 7) (.vr 12)))
        (.chk (.bn (.ia 1) (.vr 1) (.vr 12))
        (.chk (.ld (.bn (.ia 1) (.vr 1) (.vr 12)))
        (.set 57 (.ld (.bn (.ia 1) (.vr 1) (.vr 12)))
        (.call (some 58) 49 [(.vr 0), (.vr 53), (.vr 57)] []
        .nil)))))))))))
      (.chk (.bn (.ar .add .i64) (.vr 45) (.cn (.int .i64 1)))
      (.set 45 (.bn (.ar .add .i64) (.vr 45) (.cn (.int .i64 1)))
      .nil)))))))
  (.set 6 (.cn (.int .i64 0))
  .ret))))))))))))))))))))
def fc30 : Fc := ⟨60, s30, [(.vr 6)]⟩
theorem c30 : compF Try.prog 30 = some fc30 := by kernel_rfl

/-- (*kinora/bits.Writer).Bytes · parameters 1 · 0:w -/
def s31 : S :=
  (.set 2 (.cn (.slice none 0 0))
  (.chk (.un .nck (.vr 0))
  (.chk (.un (.fa 0) (.un .nck (.vr 0)))
  (.chk (.ld (.un (.fa 0) (.un .nck (.vr 0))))
  (.set 6 (.ld (.un (.fa 0) (.un .nck (.vr 0))))
  (.op (some 7) (.call ⟨(.builtin .append), #[(.const (.slice none 0 0)), (.tmp 6)], #[38, 38]⟩) 38 [(6, (.vr 6))] []
  (.set 2 (.vr 7)
  .ret)))))))
def fc31 : Fc := ⟨8, s31, [(.vr 2)]⟩
theorem c31 : compF Try.prog 31 = some fc31 := by kernel_rfl

/-- kinora/prefix.GetTable · parameters 1 · 0:r 1:r 4:seen 5:get 6:size 7:lens 8:n 9:again -/
def s32 : S :=
  (.op (some 1) (.box 39 (.tmp 0)) 0 [(0, (.vr 0))] []
  (.set 2 (.cn (.slice none 0 0))
  (.set 3 (.cn (.int .i64 0))
  (.chk (.ld (.vr 1))
  (.set 10 (.ld (.vr 1))
  (.call (some 11) 45 [(.vr 10)] []
  (.chk (.bn (.cm .neq .i64) (.vr 11) (.cn (.int .i64 0)))
  (.set 12 (.bn (.cm .neq .i64) (.vr 11) (.cn (.int .i64 0)))
  (.ite (.vr 12)
    (.chk (.ld (.vr 1))
    (.set 13 (.ld (.vr 1))
    (.call (some 14) 45 [(.vr 13)] []
    (.set 2 (.cn (.slice none 0 0))
    (.set 3 (.vr 14)
    .ret)))))
    .nil
  (.op (some 4) (.alloc 54) 0 [] []
  (.op (some 15) (.makeFunc (.func 50) #[] #[(.tmp 1), (.tmp 4)]) 83 [(1, (.vr 1)), (4, (.vr 4))] []
  (.set 5 (.vr 15)
  (.op (some 17) (.call ⟨(.value (.tmp 16)), #[(.const (.int .i64 10))], #[3]⟩) 3 [(16, (.vr 5))] []
  (.chk (.bn (.ar .add .i64) (.vr 17) (.cn (.int .i64 1)))
  (.set 6 (.bn (.ar .add .i64) (.vr 17) (.cn (.int .i64 1)))
  (.set 7 (.cn (.slice none 0 0))
  (.blk 0
    (.loop
      (.chk (.ld (.vr 1))
      (.set 19 (.ld (.vr 1))
      (.call (some 20) 45 [(.vr 19)] []
      (.chk (.bn (.cm .eql .i64) (.vr 20) (.cn (.int .i64 0)))
      (.set 22 (.bn (.cm .eql .i64) (.vr 20) (.cn (.int .i64 0)))
      (.chk (.gd (.vr 22) true (.un .ln (.vr 7)))
      (.chk (.gd (.vr 22) true (.bn (.cm .lss .i64) (.un .ln (.vr 7)) (.vr 6)))
      (.chk (.and (.vr 22) (.bn (.cm .lss .i64) (.un .ln (.vr 7)) (.vr 6)))
      (.set 27 (.and (.vr 22) (.bn (.cm .lss .i64) (.un .ln (.vr 7)) (.vr 6)))
      (.ite (.vr 27)
        .nil
        (.exit 0)
      (.blk 1
        (.op (some 29) (.call ⟨(.value (.tmp 28)), #[(.const (.int .i64 5))], #[3]⟩) 3 [(28, (.vr 5))] []
        (.set 8 (.vr 29)
        (.chk (.bn (.cm .neq .i64) (.vr 8) (.cn (.int .i64 31)))
        (.set 31 (.bn (.cm .neq .i64) (.vr 8) (.cn (.int .i64 31)))
        (.ite (.vr 31)
          (.op (some 34) (.buildSlice 22 1 #[(0, (.tmp 33))]) 22 [(33, (.vr 8))] []
          (.op (some 35) (.call ⟨(.builtin .append), #[(.tmp 32), (.tmp 34)], #[22, 22]⟩) 22 [(32, (.vr 7)), (34, (.vr 34))] []
          (.set 7 (.vr 35)
          .nil)))
          (.op (some 38) (.call ⟨(.value (.tmp 37)), #[(.const (.int .i64 6))], #[3]⟩) 3 [(37, (.vr 5))] []
          (.chk (.bn (.ar .add .i64) (.vr 38) (.cn (.int .i64 3)))
          (.op (some 40) (.call ⟨(.builtin .append), #[(.tmp 36), (.tmp 39)], #[22, 3]⟩) 22 [(36, (.vr 7)), (39, (.bn (.ar .add .i64) (.vr 38) (.cn (.int .i64 3))))] []
          (.set 7 (.vr 40)
          .nil))))
        .nil)))))
      .nil))))))))))))
  (.chk (.ld (.vr 1))
  (.set 41 (.ld (.vr 1))
  (.call (some 42) 45 [(.vr 41)] []
  (.chk (.bn (.cm .neq .i64) (.vr 42) (.cn (.int .i64 0)))
  (.set 43 (.bn (.cm .neq .i64) (.vr 42) (.cn (.int .i64 0)))
  (.ite (.vr 43)
    (.chk (.ld (.vr 1))
    (.set 44 (.ld (.vr 1))
    (.call (some 45) 45 [(.vr 44)] []
    (.set 2 (.cn (.slice none 0 0))
    (.set 3 (.vr 45)
    .ret)))))
    .nil
  (.op (some 9) (.alloc 54) 0 [] []
  (.chk (.un .ln (.vr 7))
  (.chk (.bn (.cm .neq .i64) (.un .ln (.vr 7)) (.vr 6))
  (.set 50 (.bn (.cm .neq .i64) (.un .ln (.vr 7)) (.vr 6))
  (.ifg (.vr 50) false
    (.call (some 52) 29 [(.vr 9), (.vr 7)] []
    .nil)
    (.set 52 (.cn undef)
    .nil)
  (.chk (.gd (.vr 50) false (.bn (.cm .neq .i64) (.vr 52) (.cn (.int .i64 0))))
  (.chk (.or (.vr 50) (.bn (.cm .neq .i64) (.vr 52) (.cn (.int .i64 0))))
  (.set 54 (.or (.vr 50) (.bn (.cm .neq .i64) (.vr 52) (.cn (.int .i64 0))))
  (.ite (.vr 54)
    (.set 2 (.cn (.slice none 0 0))
    (.set 3 (.cn (.int .i64 2))
    .ret))
    .nil
  (.call (some 55) 33 [(.vr 9)] []
  (.call (some 56) 33 [(.vr 4)] []
  (.chk (.bn (.cm .neq .i64) (.vr 55) (.vr 56))
  (.set 58 (.bn (.cm .neq .i64) (.vr 55) (.vr 56))
  (.ifg (.vr 58) false
    (.call (some 59) 31 [(.vr 9)] []
    .nil)
    (.set 59 (.cn undef)
    .nil)
  (.ifg (.vr 58) false
    (.call (some 60) 31 [(.vr 4)] []
    .nil)
    (.set 60 (.cn undef)
    .nil)
  (.ifg (.vr 58) false
    (.call (some 61) 51 [(.vr 59), (.vr 60)] []
    .nil)
    (.set 61 (.cn undef)
    .nil)
  (.chk (.gd (.vr 58) false (.un .not (.vr 61)))
  (.chk (.or (.vr 58) (.un .not (.vr 61)))
  (.set 63 (.or (.vr 58) (.un .not (.vr 61)))
  (.ite (.vr 63)
    (.set 2 (.cn (.slice none 0 0))
    (.set 3 (.cn (.int .i64 2))
    .ret))
    .nil
  (.set 2 (.vr 7)
  (.set 3 (.cn (.int .i64 0))
  .ret)))))))))))))))))))))))))))))))))))))))))))))
def fc32 : Fc := ⟨65, s32, [(.vr 2), (.vr 3)]⟩
theorem c32 : compF Try.prog 32 = some fc32 := by kernel_rfl

/-- (*kinora/bits.Writer).Len · parameters 1 · 0:w -/
def s33 : S :=
  (.set 2 (.cn (.int .i64 0))
  (.chk (.un .nck (.vr 0))
  (.chk (.un (.fa 1) (.un .nck (.vr 0)))
  (.chk (.ld (.un (.fa 1) (.un .nck (.vr 0))))
  (.set 2 (.ld (.un (.fa 1) (.un .nck (.vr 0))))
  .ret)))))
def fc33 : Fc := ⟨7, s33, [(.vr 2)]⟩
theorem c33 : compF Try.prog 33 = some fc33 := by kernel_rfl

/-- kinora/prefix.order · parameters 1 · 0:row 1:row -/
def s34 : S :=
  (.op (some 1) (.box 60 (.tmp 0)) 0 [(0, (.vr 0))] []
  (.chk (.ld (.vr 1))
  (.set 2 (.ld (.vr 1))
  (.op (some 3) (.makeInterface 60 (.tmp 2)) 20 [(2, (.vr 2))] []
  (.op (some 4) (.makeFunc (.func 53) #[] #[(.tmp 1)]) 86 [(1, (.vr 1))] []
  (.call (some 5) 52 [(.vr 3), (.vr 4)] []
  .nil))))))
def fc34 : Fc := ⟨6, s34, []⟩
theorem c34 : compF Try.prog 34 = some fc34 := by kernel_rfl

/-- kinora/prefix.next · parameters 2 · 0:coins 1:row 5:out 6:i -/
def s35 : S :=
  (.set 4 (.cn (.slice none 0 0))
  (.op (some 8) (.call ⟨(.builtin .append), #[(.const (.slice none 0 0)), (.tmp 7)], #[60, 60]⟩) 60 [(7, (.vr 0))] []
  (.set 5 (.vr 8)
  (.set 6 (.cn (.int .i64 0))
  (.blk 0
    (.loop
      (.chk (.bn (.ar .add .i64) (.vr 6) (.cn (.int .i64 1)))
      (.chk (.un .ln (.vr 1))
      (.set 13 (.bn (.cm .lss .i64) (.bn (.ar .add .i64) (.vr 6) (.cn (.int .i64 1))) (.un .ln (.vr 1)))
      (.ite (.vr 13)
        .nil
        (.exit 0)
      (.blk 1
        (.draw
        (.chk (.bn (.ia 1) (.vr 1) (.vr 6))
        (.chk (.ld (.bn (.ia 1) (.vr 1) (.vr 6)))
        (.set 20 (.ld (.bn (.ia 1) (.vr 1) (.vr 6)))
        (.chk (.un .nck (.vr 20))
        (.chk (.un (.fa 0) (.un .nck (.vr 20)))
        (.chk (.ld (.un (.fa 0) (.un .nck (.vr 20))))
        (.set 23 (.ld (.un (.fa 0) (.un .nck (.vr 20))))
        (.chk (.bn (.ar .add .i64) (.vr 6) (.cn (.int .i64 1)))
        (.chk (.bn (.ia 1) (.vr 1) (.bn (.ar .add .i64) (.vr 6) (.cn (.int .i64 1))))
        (.chk (.ld (.bn (.ia 1) (.vr 1) (.bn (.ar .add .i64) (.vr 6) (.cn (.int .i64 1)))))
        (.set 28 (.ld (.bn (.ia 1) (.vr 1) (.bn (.ar .add .i64) (.vr 6) (.cn (.int .i64 1)))))
        (.chk (.un .nck (.vr 28))
        (.chk (.un (.fa 0) (.un .nck (.vr 28)))
        (.chk (.ld (.un (.fa 0) (.un .nck (.vr 28))))
        (.set 31 (.ld (.un (.fa 0) (.un .nck (.vr 28))))
        (.chk (.bn (.ar .add .i64) (.vr 23) (.vr 31))
        (.chk (.bn (.ia 1) (.vr 1) (.vr 6))
        (.chk (.ld (.bn (.ia 1) (.vr 1) (.vr 6)))
        (.set 36 (.ld (.bn (.ia 1) (.vr 1) (.vr 6)))
        (.chk (.bn (.ar .add .i64) (.vr 6) (.cn (.int .i64 1)))
        (.chk (.bn (.ia 1) (.vr 1) (.bn (.ar .add .i64) (.vr 6) (.cn (.int .i64 1))))
        (.chk (.ld (.bn (.ia 1) (.vr 1) (.bn (.ar .add .i64) (.vr 6) (.cn (.int .i64 1)))))
        (.set 41 (.ld (.bn (.ia 1) (.vr 1) (.bn (.ar .add .i64) (.vr 6) (.cn (.int .i64 1)))))
        (.op (some 42) (.buildSlice 60 2 #[(0, (.tmp 36)), (1, (.tmp 41))]) 60 [(36, (.vr 36)), (41, (.vr 41))] [⟨15, (.un (.fa 0) (.un .nck (.vr 28))), 1, none⟩, ⟨12, (.bn (.ia 1) (.vr 1) (.bn (.ar .add .i64) (.vr 6) (.cn (.int .i64 1)))), 1, none⟩, ⟨7, (.un (.fa 0) (.un .nck (.vr 20))), 1, none⟩, ⟨4, (.bn (.ia 1) (.vr 1) (.vr 6)), 1, none⟩]
        (.chk (.bd 2 1 (.vr 42) (.bd 0 1 (.bn (.ar .add .i64) (.vr 23) (.vr 31)) (.cn (.agg #[(.int .i64 0), (.int .i64 0), (.slice none 0 0)]))))
        (.op (some 44) (.box 63 (.tmp 43)) 61 [(43, (.bd 2 1 (.vr 42) (.bd 0 1 (.bn (.ar .add .i64) (.vr 23) (.vr 31)) (.cn (.agg #[(.int .i64 0), (.int .i64 0), (.slice none 0 0)])))))] []
        (.op (some 45) (.buildSlice 60 1 #[(0, (.tmp 44))]) 60 [(44, (.vr 44))] []
        (.op (some 46) (.call ⟨(.builtin .append), #[(.tmp 16), (.tmp 45)], #[60, 60]⟩) 60 [(16, (.vr 5)), (45, (.vr 45))] []
        (.set 5 (.vr 46)
        .nil))))))))))))))))))))))))))))))
      (.chk (.bn (.ar .add .i64) (.vr 6) (.cn (.int .i64 2)))
      (.set 6 (.bn (.ar .add .i64) (.vr 6) (.cn (.int .i64 2)))
      .nil))))))))
  (.call (some 48) 34 [(.vr 5)] []
  (.set 4 (.vr 5)
  .ret)))))))
def fc35 : Fc := ⟨50, s35, [(.vr 4)]⟩
theorem c35 : compF Try.prog 35 = some fc35 := by kernel_rfl

/-- (*kinora/prefix.element).count · parameters 2 · 0:e 1:lens 5:x -/
def s36 : S :=
  (.chk (.un .nck (.vr 0))
  (.chk (.un (.fa 2) (.un .nck (.vr 0)))
  (.chk (.ld (.un (.fa 2) (.un .nck (.vr 0))))
  (.chk (.un .ln (.ld (.un (.fa 2) (.un .nck (.vr 0)))))
  (.set 11 (.bn (.cm .eql .i64) (.un .ln (.ld (.un (.fa 2) (.un .nck (.vr 0))))) (.cn (.int .i64 0)))
  (.ite (.vr 11)
    (.chk (.un .nck (.vr 0))
    (.chk (.un (.fa 1) (.un .nck (.vr 0)))
    (.chk (.ld (.un (.fa 1) (.un .nck (.vr 0))))
    (.set 16 (.ld (.un (.fa 1) (.un .nck (.vr 0))))
    (.chk (.bn (.ia 1) (.vr 1) (.vr 16))
    (.chk (.ld (.bn (.ia 1) (.vr 1) (.vr 16)))
    (.set 18 (.ld (.bn (.ia 1) (.vr 1) (.vr 16)))
    (.chk (.bn (.ar .add .i64) (.vr 18) (.cn (.int .i64 1)))
    (.chk (.bn (.ia 1) (.vr 1) (.vr 16))
    (.st 1 (.bn (.ia 1) (.vr 1) (.vr 16)) (.bn (.ar .add .i64) (.vr 18) (.cn (.int .i64 1))) []
    .ret))))))))))
    .nil
  (.chk (.un .nck (.vr 0))
  (.chk (.un (.fa 2) (.un .nck (.vr 0)))
  (.chk (.ld (.un (.fa 2) (.un .nck (.vr 0))))
  (.set 24 (.ld (.un (.fa 2) (.un .nck (.vr 0))))
  (.chk (.un .ln (.vr 24))
  (.set 25 (.un .ln (.vr 24))
  (.set 26 (.cn (.int .i64 0))
  (.blk 0
    (.loop
      (.chk (.bn (.cm .lss .i64) (.vr 26) (.vr 25))
      (.set 27 (.bn (.cm .lss .i64) (.vr 26) (.vr 25))
      (.ite (.vr 27)
        .nil
        (.exit 0)
      (.blk 1
        (.chk (.bn (.ia 1) (.vr 24) (.vr 26))
        (.chk (.ld (.bn (.ia 1) (.vr 24) (.vr 26)))
        (.set 5 (.ld (.bn (.ia 1) (.vr 24) (.vr 26)))
        (.call (some 32) 36 [(.vr 5), (.vr 1)] []
        .nil))))
      (.chk (.bn (.ar .add .i64) (.vr 26) (.cn (.int .i64 1)))
      (.set 26 (.bn (.ar .add .i64) (.vr 26) (.cn (.int .i64 1)))
      .nil)))))))
  .nil))))))))))))))
def fc36 : Fc := ⟨34, s36, []⟩
theorem c36 : compF Try.prog 36 = some fc36 := by kernel_rfl

/-- kinora/kinoraref8.rising · parameters 2 · 0:l 1:x 3:x 5:i -/
def s37 : S :=
  (.op (some 3) (.box 70 (.tmp 1)) 0 [(1, (.vr 1))] []
  (.set 4 (.cn (.slice none 0 0))
  (.chk (.un .ln (.vr 0))
  (.set 5 (.un .ln (.vr 0))
  (.blk 0
    (.loop
      (.draw
      (.chk (.bn (.cm .gtr .i64) (.vr 5) (.cn (.int .i64 0)))
      (.chk (.gd (.bn (.cm .gtr .i64) (.vr 5) (.cn (.int .i64 0))) true (.bn (.ar .sub .i64) (.vr 5) (.cn (.int .i64 1))))
      (.chk (.gd (.bn (.cm .gtr .i64) (.vr 5) (.cn (.int .i64 0))) true (.bn (.ia 2) (.vr 0) (.bn (.ar .sub .i64) (.vr 5) (.cn (.int .i64 1)))))
      (.chk (.gd (.bn (.cm .gtr .i64) (.vr 5) (.cn (.int .i64 0))) true (.un (.fa 0) (.bn (.ia 2) (.vr 0) (.bn (.ar .sub .i64) (.vr 5) (.cn (.int .i64 1))))))
      (.chk (.gd (.bn (.cm .gtr .i64) (.vr 5) (.cn (.int .i64 0))) true (.ld (.un (.fa 0) (.bn (.ia 2) (.vr 0) (.bn (.ar .sub .i64) (.vr 5) (.cn (.int .i64 1)))))))
      (.chk (.gd (.bn (.cm .gtr .i64) (.vr 5) (.cn (.int .i64 0))) true (.un (.fa 0) (.vr 3)))
      (.chk (.gd (.bn (.cm .gtr .i64) (.vr 5) (.cn (.int .i64 0))) true (.ld (.un (.fa 0) (.vr 3))))
      (.chk (.gd (.bn (.cm .gtr .i64) (.vr 5) (.cn (.int .i64 0))) true (.bn (.cm .gtr .i64) (.ld (.un (.fa 0) (.bn (.ia 2) (.vr 0) (.bn (.ar .sub .i64) (.vr 5) (.cn (.int .i64 1)))))) (.ld (.un (.fa 0) (.vr 3)))))
      (.set 20 (.and (.bn (.cm .gtr .i64) (.vr 5) (.cn (.int .i64 0))) (.bn (.cm .gtr .i64) (.ld (.un (.fa 0) (.bn (.ia 2) (.vr 0) (.bn (.ar .sub .i64) (.vr 5) (.cn (.int .i64 1)))))) (.ld (.un (.fa 0) (.vr 3)))))
      (.ite (.vr 20)
        .nil
        (.exit 0)
      (.blk 1
        (.chk (.bn (.ar .sub .i64) (.vr 5) (.cn (.int .i64 1)))
        (.set 5 (.bn (.ar .sub .i64) (.vr 5) (.cn (.int .i64 1)))
        .nil))
      .nil)))))))))))))
  (.sq
    (.draw
    (.chk (.sl 2 true (.vr 0) (.cn (.int .i64 0)) (.vr 5))
    (.chk (.ldn 2 (.vr 3))
    (.set 28 (.ldn 2 (.vr 3))
    (.chk (.sl 2 false (.vr 0) (.vr 5) (.cn undef))
    (.alt
      (.op (some 23) (.buildSlice 67 0 #[]) 67 [] [⟨5, (.vr 3), 2, none⟩]
      (.alt
        (.op (some 27) (.call ⟨(.builtin .append), #[(.tmp 23), (.tmp 26)], #[67, 67]⟩) 67 [(23, (.vr 23)), (26, (.sl 2 true (.vr 0) (.cn (.int .i64 0)) (.vr 5)))] [⟨5, (.vr 3), 2, none⟩]
        (.op (some 29) (.buildSlice 67 1 #[(0, (.tmp 28))]) 67 [(28, (.vr 28))] []
        (.op (some 30) (.call ⟨(.builtin .append), #[(.tmp 27), (.tmp 29)], #[67, 67]⟩) 67 [(27, (.vr 27)), (29, (.vr 29))] []
        (.op (some 34) (.call ⟨(.builtin .append), #[(.tmp 30), (.tmp 33)], #[67, 67]⟩) 67 [(30, (.vr 30)), (33, (.sl 2 false (.vr 0) (.vr 5) (.cn undef)))] []
        (.set 4 (.vr 34)
        .nil)))))
        (.op (some 29) (.buildSlice 67 1 #[(0, (.tmp 28))]) 67 [(28, (.vr 28))] []
        (.op (some 27) (.call ⟨(.builtin .append), #[(.tmp 23), (.tmp 26)], #[67, 67]⟩) 67 [(23, (.vr 23)), (26, (.sl 2 true (.vr 0) (.cn (.int .i64 0)) (.vr 5)))] []
        (.op (some 30) (.call ⟨(.builtin .append), #[(.tmp 27), (.tmp 29)], #[67, 67]⟩) 67 [(27, (.vr 27)), (29, (.vr 29))] []
        (.op (some 34) (.call ⟨(.builtin .append), #[(.tmp 30), (.tmp 33)], #[67, 67]⟩) 67 [(30, (.vr 30)), (33, (.sl 2 false (.vr 0) (.vr 5) (.cn undef)))] []
        (.set 4 (.vr 34)
        .nil)))))))
      (.op (some 29) (.buildSlice 67 1 #[(0, (.tmp 28))]) 67 [(28, (.vr 28))] []
      (.op (some 23) (.buildSlice 67 0 #[]) 67 [] []
      (.op (some 27) (.call ⟨(.builtin .append), #[(.tmp 23), (.tmp 26)], #[67, 67]⟩) 67 [(23, (.vr 23)), (26, (.sl 2 true (.vr 0) (.cn (.int .i64 0)) (.vr 5)))] []
      (.op (some 30) (.call ⟨(.builtin .append), #[(.tmp 27), (.tmp 29)], #[67, 67]⟩) 67 [(27, (.vr 27)), (29, (.vr 29))] []
      (.op (some 34) (.call ⟨(.builtin .append), #[(.tmp 30), (.tmp 33)], #[67, 67]⟩) 67 [(30, (.vr 30)), (33, (.sl 2 false (.vr 0) (.vr 5) (.cn undef)))] []
      (.set 4 (.vr 34)
      .nil))))))))))))
  .ret))))))
def fc37 : Fc := ⟨35, s37, [(.vr 4)]⟩
theorem c37 : compF Try.prog 37 = some fc37 := by kernel_rfl

/-- kinora/kinoraref8.merged · parameters 2 · 0:a 1:b 5:out 6:i 7:k -/
def s38 : S :=
  (.set 4 (.cn (.slice none 0 0))
  (.set 5 (.cn (.slice none 0 0))
  (.set 6 (.cn (.int .i64 0))
  (.set 7 (.cn (.int .i64 0))
  (.blk 0
    (.loop
      (.chk (.un .ln (.vr 0))
      (.chk (.bn (.cm .lss .i64) (.vr 6) (.un .ln (.vr 0)))
      (.chk (.gd (.bn (.cm .lss .i64) (.vr 6) (.un .ln (.vr 0))) false (.un .ln (.vr 1)))
      (.chk (.gd (.bn (.cm .lss .i64) (.vr 6) (.un .ln (.vr 0))) false (.bn (.cm .lss .i64) (.vr 7) (.un .ln (.vr 1))))
      (.set 17 (.or (.bn (.cm .lss .i64) (.vr 6) (.un .ln (.vr 0))) (.bn (.cm .lss .i64) (.vr 7) (.un .ln (.vr 1))))
      (.ite (.vr 17)
        .nil
        (.exit 0)
      (.blk 1
        (.draw
        (.chk (.un .ln (.vr 1))
        (.chk (.bn (.cm .geq .i64) (.vr 7) (.un .ln (.vr 1)))
        (.chk (.gd (.bn (.cm .geq .i64) (.vr 7) (.un .ln (.vr 1))) false (.un .ln (.vr 0)))
        (.chk (.gd (.bn (.cm .geq .i64) (.vr 7) (.un .ln (.vr 1))) false (.bn (.cm .lss .i64) (.vr 6) (.un .ln (.vr 0))))
        (.chk (.gd (.gd (.bn (.cm .geq .i64) (.vr 7) (.un .ln (.vr 1))) false (.bn (.cm .lss .i64) (.vr 6) (.un .ln (.vr 0)))) true (.bn (.ia 2) (.vr 0) (.vr 6)))
        (.chk (.gd (.gd (.bn (.cm .geq .i64) (.vr 7) (.un .ln (.vr 1))) false (.bn (.cm .lss .i64) (.vr 6) (.un .ln (.vr 0)))) true (.un (.fa 0) (.bn (.ia 2) (.vr 0) (.vr 6))))
        (.chk (.gd (.gd (.bn (.cm .geq .i64) (.vr 7) (.un .ln (.vr 1))) false (.bn (.cm .lss .i64) (.vr 6) (.un .ln (.vr 0)))) true (.ld (.un (.fa 0) (.bn (.ia 2) (.vr 0) (.vr 6)))))
        (.chk (.gd (.gd (.bn (.cm .geq .i64) (.vr 7) (.un .ln (.vr 1))) false (.bn (.cm .lss .i64) (.vr 6) (.un .ln (.vr 0)))) true (.bn (.ia 2) (.vr 1) (.vr 7)))
        (.chk (.gd (.gd (.bn (.cm .geq .i64) (.vr 7) (.un .ln (.vr 1))) false (.bn (.cm .lss .i64) (.vr 6) (.un .ln (.vr 0)))) true (.un (.fa 0) (.bn (.ia 2) (.vr 1) (.vr 7))))
        (.chk (.gd (.gd (.bn (.cm .geq .i64) (.vr 7) (.un .ln (.vr 1))) false (.bn (.cm .lss .i64) (.vr 6) (.un .ln (.vr 0)))) true (.ld (.un (.fa 0) (.bn (.ia 2) (.vr 1) (.vr 7)))))
        (.chk (.gd (.gd (.bn (.cm .geq .i64) (.vr 7) (.un .ln (.vr 1))) false (.bn (.cm .lss .i64) (.vr 6) (.un .ln (.vr 0)))) true (.bn (.cm .leq .i64) (.ld (.un (.fa 0) (.bn (.ia 2) (.vr 0) (.vr 6)))) (.ld (.un (.fa 0) (.bn (.ia 2) (.vr 1) (.vr 7))))))
        (.set 40 (.or (.bn (.cm .geq .i64) (.vr 7) (.un .ln (.vr 1))) (.and (.bn (.cm .lss .i64) (.vr 6) (.un .ln (.vr 0))) (.bn (.cm .leq .i64) (.ld (.un (.fa 0) (.bn (.ia 2) (.vr 0) (.vr 6)))) (.ld (.un (.fa 0) (.bn (.ia 2) (.vr 1) (.vr 7)))))))
        (.ite (.vr 40)
          (.chk (.bn (.ia 2) (.vr 0) (.vr 6))
          (.chk (.ldn 2 (.bn (.ia 2) (.vr 0) (.vr 6)))
          (.set 45 (.ldn 2 (.bn (.ia 2) (.vr 0) (.vr 6)))
          (.op (some 46) (.buildSlice 67 1 #[(0, (.tmp 45))]) 67 [(45, (.vr 45))] []
          (.op (some 47) (.call ⟨(.builtin .append), #[(.tmp 41), (.tmp 46)], #[67, 67]⟩) 67 [(41, (.vr 5)), (46, (.vr 46))] []
          (.chk (.bn (.ar .add .i64) (.vr 6) (.cn (.int .i64 1)))
          (.set 5 (.vr 47)
          (.set 6 (.bn (.ar .add .i64) (.vr 6) (.cn (.int .i64 1)))
          .nil))))))))
          (.chk (.bn (.ia 2) (.vr 1) (.vr 7))
          (.chk (.ldn 2 (.bn (.ia 2) (.vr 1) (.vr 7)))
          (.set 54 (.ldn 2 (.bn (.ia 2) (.vr 1) (.vr 7)))
          (.op (some 55) (.buildSlice 67 1 #[(0, (.tmp 54))]) 67 [(54, (.vr 54))] []
          (.op (some 56) (.call ⟨(.builtin .append), #[(.tmp 50), (.tmp 55)], #[67, 67]⟩) 67 [(50, (.vr 5)), (55, (.vr 55))] []
          (.chk (.bn (.ar .add .i64) (.vr 7) (.cn (.int .i64 1)))
          (.set 5 (.vr 56)
          (.set 7 (.bn (.ar .add .i64) (.vr 7) (.cn (.int .i64 1)))
          .nil))))))))
        .nil))))))))))))))
      .nil))))))))
  (.set 4 (.vr 5)
  .ret))))))
def fc38 : Fc := ⟨60, s38, [(.vr 4)]⟩
theorem c38 : compF Try.prog 38 = some fc38 := by kernel_rfl

/-- kinora/prefix.ranked · parameters 1 · 0:lens 3:out 4:n 5:symbol 6:size -/
def s39 : S :=
  (.set 2 (.cn (.slice none 0 0))
  (.set 3 (.cn (.slice none 0 0))
  (.set 4 (.cn (.int .i64 1))
  (.blk 0
    (.loop
      (.chk (.bn (.cm .leq .i64) (.vr 4) (.cn (.int .i64 24)))
      (.set 8 (.bn (.cm .leq .i64) (.vr 4) (.cn (.int .i64 24)))
      (.ite (.vr 8)
        .nil
        (.exit 0)
      (.blk 1
        (.set 11 (.vr 0)
        (.chk (.un .ln (.vr 11))
        (.set 12 (.un .ln (.vr 11))
        (.set 13 (.cn (.int .i64 0))
        (.blk 2
          (.loop
            (.chk (.bn (.cm .lss .i64) (.vr 13) (.vr 12))
            (.set 14 (.bn (.cm .lss .i64) (.vr 13) (.vr 12))
            (.ite (.vr 14)
              .nil
              (.exit 2)
            (.blk 3
              (.chk (.bn (.ia 1) (.vr 11) (.vr 13))
              (.chk (.ld (.bn (.ia 1) (.vr 11) (.vr 13)))
              (.set 5 (.vr 13)
              (.set 6 (.ld (.bn (.ia 1) (.vr 11) (.vr 13)))
              (.chk (.bn (.cm .eql .i64) (.vr 6) (.vr 4))
              (.set 20 (.bn (.cm .eql .i64) (.vr 6) (.vr 4))
              (.ite (.vr 20)
                (.op (some 23) (.buildSlice 22 1 #[(0, (.tmp 22))]) 22 [(22, (.vr 5))] []
                (.op (some 24) (.call ⟨(.builtin .append), #[(.tmp 21), (.tmp 23)], #[22, 22]⟩) 22 [(21, (.vr 3)), (23, (.vr 23))] []
                (.set 3 (.vr 24)
                .nil)))
                .nil
              .nil)))))))
            (.chk (.bn (.ar .add .i64) (.vr 13) (.cn (.int .i64 1)))
            (.set 13 (.bn (.ar .add .i64) (.vr 13) (.cn (.int .i64 1)))
            .nil)))))))
        .nil)))))
      (.chk (.bn (.ar .add .i64) (.vr 4) (.cn (.int .i64 1)))
      (.set 4 (.bn (.ar .add .i64) (.vr 4) (.cn (.int .i64 1)))
      .nil)))))))
  (.set 2 (.vr 3)
  .ret)))))
def fc39 : Fc := ⟨27, s39, [(.vr 2)]⟩
theorem c39 : compF Try.prog 39 = some fc39 := by kernel_rfl

/-- kinora/kinoraref8.used · parameters 1 · 0:lens 3:out 4:n 5:i -/
def s40 : S :=
  (.set 2 (.cn (.slice none 0 0))
  (.set 3 (.cn (.slice none 0 0))
  (.set 4 (.cn (.int .i64 1))
  (.blk 0
    (.loop
      (.chk (.bn (.cm .leq .i64) (.vr 4) (.cn (.int .i64 24)))
      (.set 7 (.bn (.cm .leq .i64) (.vr 4) (.cn (.int .i64 24)))
      (.ite (.vr 7)
        .nil
        (.exit 0)
      (.blk 1
        (.set 5 (.cn (.int .i64 0))
        (.blk 2
          (.loop
            (.chk (.un .ln (.vr 0))
            (.chk (.bn (.cm .lss .i64) (.vr 5) (.un .ln (.vr 0)))
            (.set 13 (.bn (.cm .lss .i64) (.vr 5) (.un .ln (.vr 0)))
            (.ite (.vr 13)
              .nil
              (.exit 2)
            (.blk 3
              (.chk (.bn (.ia 1) (.vr 0) (.vr 5))
              (.chk (.ld (.bn (.ia 1) (.vr 0) (.vr 5)))
              (.chk (.bn (.cm .eql .i64) (.ld (.bn (.ia 1) (.vr 0) (.vr 5))) (.vr 4))
              (.set 21 (.bn (.cm .eql .i64) (.ld (.bn (.ia 1) (.vr 0) (.vr 5))) (.vr 4))
              (.ite (.vr 21)
                (.op (some 24) (.buildSlice 22 1 #[(0, (.tmp 23))]) 22 [(23, (.vr 5))] []
                (.op (some 25) (.call ⟨(.builtin .append), #[(.tmp 22), (.tmp 24)], #[22, 22]⟩) 22 [(22, (.vr 3)), (24, (.vr 24))] []
                (.set 3 (.vr 25)
                .nil)))
                .nil
              .nil)))))
            (.chk (.bn (.ar .add .i64) (.vr 5) (.cn (.int .i64 1)))
            (.set 5 (.bn (.ar .add .i64) (.vr 5) (.cn (.int .i64 1)))
            .nil))))))))
        .nil))
      (.chk (.bn (.ar .add .i64) (.vr 4) (.cn (.int .i64 1)))
      (.set 4 (.bn (.ar .add .i64) (.vr 4) (.cn (.int .i64 1)))
      .nil)))))))
  (.set 2 (.vr 3)
  .ret)))))
def fc40 : Fc := ⟨27, s40, [(.vr 2)]⟩
theorem c40 : compF Try.prog 40 = some fc40 := by kernel_rfl

/-- (*kinora/bits.Reader).Left · parameters 1 · 0:r -/
def s41 : S :=
  (.set 2 (.cn (.int .i64 0))
  (.draw
  (.chk (.un .nck (.vr 0))
  (.chk (.un (.fa 0) (.un .nck (.vr 0)))
  (.chk (.ld (.un (.fa 0) (.un .nck (.vr 0))))
  (.chk (.un .ln (.ld (.un (.fa 0) (.un .nck (.vr 0)))))
  (.chk (.un .nck (.vr 0))
  (.chk (.un (.fa 1) (.un .nck (.vr 0)))
  (.chk (.ld (.un (.fa 1) (.un .nck (.vr 0))))
  (.chk (.bn (.ar .sub .i64) (.bn (.ar .mul .i64) (.cn (.int .i64 8)) (.un .ln (.ld (.un (.fa 0) (.un .nck (.vr 0)))))) (.ld (.un (.fa 1) (.un .nck (.vr 0)))))
  (.set 2 (.bn (.ar .sub .i64) (.bn (.ar .mul .i64) (.cn (.int .i64 8)) (.un .ln (.ld (.un (.fa 0) (.un .nck (.vr 0)))))) (.ld (.un (.fa 1) (.un .nck (.vr 0)))))
  .ret)))))))))))
def fc41 : Fc := ⟨14, s41, [(.vr 2)]⟩
theorem c41 : compF Try.prog 41 = some fc41 := by kernel_rfl

/-- (*kinora/bits.Reader).look · parameters 2 · 0:r 1:i -/
def s42 : S :=
  (.set 4 (.cn (.int .u8 0))
  (.chk (.un .nck (.vr 0))
  (.chk (.un (.fa 0) (.un .nck (.vr 0)))
  (.chk (.ld (.un (.fa 0) (.un .nck (.vr 0))))
  (.chk (.bn (.dv false .i64) (.vr 1) (.cn (.int .i64 8)))
  (.chk (.bn (.ia 1) (.ld (.un (.fa 0) (.un .nck (.vr 0)))) (.bn (.dv false .i64) (.vr 1) (.cn (.int .i64 8))))
  (.chk (.ld (.bn (.ia 1) (.ld (.un (.fa 0) (.un .nck (.vr 0)))) (.bn (.dv false .i64) (.vr 1) (.cn (.int .i64 8)))))
  (.chk (.bn (.dv true .i64) (.vr 1) (.cn (.int .i64 8)))
  (.chk (.bn (.sh false .u8) (.ld (.bn (.ia 1) (.ld (.un (.fa 0) (.un .nck (.vr 0)))) (.bn (.dv false .i64) (.vr 1) (.cn (.int .i64 8))))) (.bn (.ar .sub .i64) (.cn (.int .i64 7)) (.bn (.dv true .i64) (.vr 1) (.cn (.int .i64 8)))))
  (.set 4 (.bn (.bt .and .u8) (.bn (.sh false .u8) (.ld (.bn (.ia 1) (.ld (.un (.fa 0) (.un .nck (.vr 0)))) (.bn (.dv false .i64) (.vr 1) (.cn (.int .i64 8))))) (.bn (.ar .sub .i64) (.cn (.int .i64 7)) (.bn (.dv true .i64) (.vr 1) (.cn (.int .i64 8))))) (.cn (.int .u8 1)))
  .ret))))))))))
def fc42 : Fc := ⟨18, s42, [(.vr 4)]⟩
theorem c42 : compF Try.prog 42 = some fc42 := by kernel_rfl

/-- (*kinora/kinoraref2.Reader).Left · parameters 1 · 0:r -/
def s43 : S :=
  (.set 2 (.cn (.int .i64 0))
  (.draw
  (.chk (.un .nck (.vr 0))
  (.chk (.un (.fa 0) (.un .nck (.vr 0)))
  (.chk (.ld (.un (.fa 0) (.un .nck (.vr 0))))
  (.chk (.un .ln (.ld (.un (.fa 0) (.un .nck (.vr 0)))))
  (.chk (.un .nck (.vr 0))
  (.chk (.un (.fa 1) (.un .nck (.vr 0)))
  (.chk (.ld (.un (.fa 1) (.un .nck (.vr 0))))
  (.chk (.bn (.ar .sub .i64) (.bn (.ar .mul .i64) (.cn (.int .i64 8)) (.un .ln (.ld (.un (.fa 0) (.un .nck (.vr 0)))))) (.ld (.un (.fa 1) (.un .nck (.vr 0)))))
  (.set 2 (.bn (.ar .sub .i64) (.bn (.ar .mul .i64) (.cn (.int .i64 8)) (.un .ln (.ld (.un (.fa 0) (.un .nck (.vr 0)))))) (.ld (.un (.fa 1) (.un .nck (.vr 0)))))
  .ret)))))))))))
def fc43 : Fc := ⟨14, s43, [(.vr 2)]⟩
theorem c43 : compF Try.prog 43 = some fc43 := by kernel_rfl

/-- (*kinora/kinoraref2.Reader).bit · parameters 2 · 0:r 1:at -/
def s44 : S :=
  (.set 4 (.cn (.int .u64 0))
  (.chk (.un .nck (.vr 0))
  (.chk (.un (.fa 0) (.un .nck (.vr 0)))
  (.chk (.ld (.un (.fa 0) (.un .nck (.vr 0))))
  (.chk (.bn (.dv false .i64) (.vr 1) (.cn (.int .i64 8)))
  (.chk (.bn (.ia 1) (.ld (.un (.fa 0) (.un .nck (.vr 0)))) (.bn (.dv false .i64) (.vr 1) (.cn (.int .i64 8))))
  (.chk (.ld (.bn (.ia 1) (.ld (.un (.fa 0) (.un .nck (.vr 0)))) (.bn (.dv false .i64) (.vr 1) (.cn (.int .i64 8)))))
  (.chk (.bn (.dv true .i64) (.vr 1) (.cn (.int .i64 8)))
  (.chk (.bn (.sh false .u8) (.ld (.bn (.ia 1) (.ld (.un (.fa 0) (.un .nck (.vr 0)))) (.bn (.dv false .i64) (.vr 1) (.cn (.int .i64 8))))) (.un (.cv .u64) (.bn (.ar .sub .i64) (.cn (.int .i64 7)) (.bn (.dv true .i64) (.vr 1) (.cn (.int .i64 8))))))
  (.set 4 (.un (.cv .u64) (.bn (.bt .and .u8) (.bn (.sh false .u8) (.ld (.bn (.ia 1) (.ld (.un (.fa 0) (.un .nck (.vr 0)))) (.bn (.dv false .i64) (.vr 1) (.cn (.int .i64 8))))) (.un (.cv .u64) (.bn (.ar .sub .i64) (.cn (.int .i64 7)) (.bn (.dv true .i64) (.vr 1) (.cn (.int .i64 8)))))) (.cn (.int .u8 1))))
  .ret))))))))))
def fc44 : Fc := ⟨20, s44, [(.vr 4)]⟩
theorem c44 : compF Try.prog 44 = some fc44 := by kernel_rfl

/-- (*kinora/bits.Reader).Err · parameters 1 · 0:r -/
def s45 : S :=
  (.set 2 (.cn (.int .i64 0))
  (.chk (.un .nck (.vr 0))
  (.chk (.un (.fa 2) (.un .nck (.vr 0)))
  (.chk (.ld (.un (.fa 2) (.un .nck (.vr 0))))
  (.set 2 (.ld (.un (.fa 2) (.un .nck (.vr 0))))
  .ret)))))
def fc45 : Fc := ⟨7, s45, [(.vr 2)]⟩
theorem c45 : compF Try.prog 45 = some fc45 := by kernel_rfl

/-- kinora/prefix.list · parameters 2 · 0:lens 1:words 5:t 7:symbol 8:n -/
def s46 : S :=
  (.set 4 (.cn (.pointer none))
  (.op (some 10) (.box 90 (.tmp 9)) 77 [(9, (.cn (.agg #[(.int .i64 0), (.int .u64 0), (.int .u64 0), (.int .u64 0), (.int .u64 0), (.int .u64 0), (.int .u64 0), (.int .u64 0), (.int .u64 0), (.int .u64 0), (.int .u64 0), (.int .u64 0), (.int .u64 0), (.int .u64 0), (.int .u64 0), (.int .u64 0), (.int .u64 0), (.int .u64 0), (.int .u64 0), (.int .u64 0), (.int .u64 0), (.int .u64 0), (.int .u64 0), (.int .u64 0), (.int .u64 0), (.int .u64 0), (.slice none 0 0), (.slice none 0 0), (.slice none 0 0), (.slice none 0 0), (.slice none 0 0), (.slice none 0 0), (.slice none 0 0), (.slice none 0 0), (.slice none 0 0), (.slice none 0 0), (.slice none 0 0), (.slice none 0 0), (.slice none 0 0), (.slice none 0 0), (.slice none 0 0), (.slice none 0 0), (.slice none 0 0), (.slice none 0 0), (.slice none 0 0), (.slice none 0 0), (.slice none 0 0), (.slice none 0 0), (.slice none 0 0), (.slice none 0 0), (.slice none 0 0)])))] []
  (.set 5 (.vr 10)
  (.call (some 12) 39 [(.vr 0)] []
  (.chk (.un .ln (.vr 12))
  (.set 13 (.un .ln (.vr 12))
  (.set 14 (.cn (.int .i64 0))
  (.blk 0
    (.loop
      (.chk (.bn (.cm .lss .i64) (.vr 14) (.vr 13))
      (.set 15 (.bn (.cm .lss .i64) (.vr 14) (.vr 13))
      (.ite (.vr 15)
        .nil
        (.exit 0)
      (.blk 1
        (.chk (.bn (.ia 1) (.vr 12) (.vr 14))
        (.chk (.ld (.bn (.ia 1) (.vr 12) (.vr 14)))
        (.set 7 (.ld (.bn (.ia 1) (.vr 12) (.vr 14)))
        (.chk (.bn (.ia 1) (.vr 0) (.vr 7))
        (.chk (.ld (.bn (.ia 1) (.vr 0) (.vr 7)))
        (.set 8 (.ld (.bn (.ia 1) (.vr 0) (.vr 7)))
        (.chk (.un .nck (.vr 5))
        (.chk (.un (.fa 26) (.un .nck (.vr 5)))
        (.chk (.bn (.aa 25 1) (.un (.fa 26) (.un .nck (.vr 5))) (.vr 8))
        (.chk (.ld (.bn (.aa 25 1) (.un (.fa 26) (.un .nck (.vr 5))) (.vr 8)))
        (.chk (.un .ln (.ld (.bn (.aa 25 1) (.un (.fa 26) (.un .nck (.vr 5))) (.vr 8))))
        (.set 29 (.bn (.cm .eql .i64) (.un .ln (.ld (.bn (.aa 25 1) (.un (.fa 26) (.un .nck (.vr 5))) (.vr 8)))) (.cn (.int .i64 0)))
        (.ite (.vr 29)
          (.draw
          (.chk (.bn (.ia 1) (.vr 1) (.vr 7))
          (.chk (.ld (.bn (.ia 1) (.vr 1) (.vr 7)))
          (.set 35 (.ld (.bn (.ia 1) (.vr 1) (.vr 7)))
          (.chk (.un .nck (.vr 5))
          (.chk (.un (.fa 1) (.un .nck (.vr 5)))
          (.chk (.bn (.aa 25 1) (.un (.fa 1) (.un .nck (.vr 5))) (.vr 8))
          (.st 1 (.bn (.aa 25 1) (.un (.fa 1) (.un .nck (.vr 5))) (.vr 8)) (.vr 35) []
          .nil))))))))
          .nil
        (.draw
        (.chk (.un .nck (.vr 5))
        (.chk (.un (.fa 26) (.un .nck (.vr 5)))
        (.chk (.bn (.aa 25 1) (.un (.fa 26) (.un .nck (.vr 5))) (.vr 8))
        (.chk (.ld (.bn (.aa 25 1) (.un (.fa 26) (.un .nck (.vr 5))) (.vr 8)))
        (.set 46 (.ld (.bn (.aa 25 1) (.un (.fa 26) (.un .nck (.vr 5))) (.vr 8)))
        (.chk (.un .nck (.vr 5))
        (.chk (.un (.fa 26) (.un .nck (.vr 5)))
        (.op (some 48) (.buildSlice 22 1 #[(0, (.tmp 47))]) 22 [(47, (.vr 7))] [⟨7, (.bn (.aa 25 1) (.un (.fa 26) (.un .nck (.vr 5))) (.vr 8)), 1, none⟩]
        (.op (some 49) (.call ⟨(.builtin .append), #[(.tmp 46), (.tmp 48)], #[22, 22]⟩) 22 [(46, (.vr 46)), (48, (.vr 48))] []
        (.chk (.bn (.aa 25 1) (.un (.fa 26) (.un .nck (.vr 5))) (.vr 8))
        (.st 1 (.bn (.aa 25 1) (.un (.fa 26) (.un .nck (.vr 5))) (.vr 8)) (.vr 49) []
        (.chk (.un .nck (.vr 5))
        (.chk (.un (.fa 0) (.un .nck (.vr 5)))
        (.st 1 (.un (.fa 0) (.un .nck (.vr 5))) (.vr 8) []
        .nil))))))))))))))))))))))))))))
      (.chk (.bn (.ar .add .i64) (.vr 14) (.cn (.int .i64 1)))
      (.set 14 (.bn (.ar .add .i64) (.vr 14) (.cn (.int .i64 1)))
      .nil)))))))
  (.set 4 (.vr 5)
  .ret)))))))))
def fc46 : Fc := ⟨59, s46, [(.vr 4)]⟩
theorem c46 : compF Try.prog 46 = some fc46 := by kernel_rfl

/-- (*kinora/prefix.table).read · parameters 2 · 0:t 1:r 6:word 7:n 8:i -/
def s47 : S :=
  (.set 4 (.cn (.int .i64 0))
  (.set 5 (.cn (.int .i64 0))
  (.set 6 (.cn (.int .u64 0))
  (.set 7 (.cn (.int .i64 1))
  (.blk 0
    (.loop
      (.chk (.un .nck (.vr 0))
      (.chk (.un (.fa 0) (.un .nck (.vr 0)))
      (.chk (.ld (.un (.fa 0) (.un .nck (.vr 0))))
      (.chk (.bn (.cm .leq .i64) (.vr 7) (.ld (.un (.fa 0) (.un .nck (.vr 0)))))
      (.set 14 (.bn (.cm .leq .i64) (.vr 7) (.ld (.un (.fa 0) (.un .nck (.vr 0)))))
      (.ite (.vr 14)
        .nil
        (.exit 0)
      (.blk 1
        (.chk (.bn (.sh true .u64) (.vr 6) (.cn (.int .u64 1)))
        (.call (some 20) 24 [(.vr 1), (.cn (.int .i64 1))] []
        (.chk (.bn (.bt .or .u64) (.bn (.sh true .u64) (.vr 6) (.cn (.int .u64 1))) (.vr 20))
        (.set 6 (.bn (.bt .or .u64) (.bn (.sh true .u64) (.vr 6) (.cn (.int .u64 1))) (.vr 20))
        (.call (some 23) 45 [(.vr 1)] []
        (.chk (.bn (.cm .neq .i64) (.vr 23) (.cn (.int .i64 0)))
        (.set 24 (.bn (.cm .neq .i64) (.vr 23) (.cn (.int .i64 0)))
        (.ite (.vr 24)
          (.call (some 26) 45 [(.vr 1)] []
          (.set 4 (.cn (.int .i64 0))
          (.set 5 (.vr 26)
          .ret)))
          .nil
        (.chk (.un .nck (.vr 0))
        (.chk (.un (.fa 1) (.un .nck (.vr 0)))
        (.chk (.bn (.aa 25 1) (.un (.fa 1) (.un .nck (.vr 0))) (.vr 7))
        (.chk (.ld (.bn (.aa 25 1) (.un (.fa 1) (.un .nck (.vr 0))) (.vr 7)))
        (.chk (.bn (.cm .lss .u64) (.vr 6) (.ld (.bn (.aa 25 1) (.un (.fa 1) (.un .nck (.vr 0))) (.vr 7))))
        (.set 34 (.bn (.cm .lss .u64) (.vr 6) (.ld (.bn (.aa 25 1) (.un (.fa 1) (.un .nck (.vr 0))) (.vr 7))))
        (.ite (.vr 34)
          (.exit 1)
          .nil
        (.chk (.un .nck (.vr 0))
        (.chk (.un (.fa 1) (.un .nck (.vr 0)))
        (.chk (.bn (.aa 25 1) (.un (.fa 1) (.un .nck (.vr 0))) (.vr 7))
        (.chk (.ld (.bn (.aa 25 1) (.un (.fa 1) (.un .nck (.vr 0))) (.vr 7)))
        (.chk (.bn (.ar .sub .u64) (.vr 6) (.ld (.bn (.aa 25 1) (.un (.fa 1) (.un .nck (.vr 0))) (.vr 7))))
        (.set 8 (.bn (.ar .sub .u64) (.vr 6) (.ld (.bn (.aa 25 1) (.un (.fa 1) (.un .nck (.vr 0))) (.vr 7))))
        (.chk (.un .nck (.vr 0))
        (.chk (.un (.fa 26) (.un .nck (.vr 0)))
        (.chk (.bn (.aa 25 1) (.un (.fa 26) (.un .nck (.vr 0))) (.vr 7))
        (.chk (.ld (.bn (.aa 25 1) (.un (.fa 26) (.un .nck (.vr 0))) (.vr 7)))
        (.chk (.un .ln (.ld (.bn (.aa 25 1) (.un (.fa 26) (.un .nck (.vr 0))) (.vr 7))))
        (.chk (.bn (.cm .lss .u64) (.vr 8) (.un (.cv .u64) (.un .ln (.ld (.bn (.aa 25 1) (.un (.fa 26) (.un .nck (.vr 0))) (.vr 7))))))
        (.set 52 (.bn (.cm .lss .u64) (.vr 8) (.un (.cv .u64) (.un .ln (.ld (.bn (.aa 25 1) (.un (.fa 26) (.un .nck (.vr 0))) (.vr 7))))))
        (.ite (.vr 52)
          (.chk (.un .nck (.vr 0))
          (.chk (.un (.fa 26) (.un .nck (.vr 0)))
          (.chk (.bn (.aa 25 1) (.un (.fa 26) (.un .nck (.vr 0))) (.vr 7))
          (.chk (.ld (.bn (.aa 25 1) (.un (.fa 26) (.un .nck (.vr 0))) (.vr 7)))
          (.chk (.bn (.ia 1) (.ld (.bn (.aa 25 1) (.un (.fa 26) (.un .nck (.vr 0))) (.vr 7))) (.vr 8))
          (.chk (.ld (.bn (.ia 1) (.ld (.bn (.aa 25 1) (.un (.fa 26) (.un .nck (.vr 0))) (.vr 7))) (.vr 8)))
          (.set 4 (.ld (.bn (.ia 1) (.ld (.bn (.aa 25 1) (.un (.fa 26) (.un .nck (.vr 0))) (.vr 7))) (.vr 8)))
          (.set 5 (.cn (.int .i64 0))
          .ret))))))))
          .nil
        .nil)))))))))))))))))))))))))))))
      (.chk (.bn (.ar .add .i64) (.vr 7) (.cn (.int .i64 1)))
      (.set 7 (.bn (.ar .add .i64) (.vr 7) (.cn (.int .i64 1)))
      .nil))))))))))
  (.set 4 (.cn (.int .i64 0))
  (.set 5 (.cn (.int .i64 2))
  .ret)))))))
def fc47 : Fc := ⟨62, s47, [(.vr 4), (.vr 5)]⟩
theorem c47 : compF Try.prog 47 = some fc47 := by kernel_rfl

/-- kinora/kinoraref8.word · parameters 4 · 0:r 1:lens 2:c 3:l 10:v 11:n 12:k -/
def s48 : S :=
  (.set 8 (.cn (.int .i64 0))
  (.set 9 (.cn (.int .i64 0))
  (.set 10 (.cn (.int .u64 0))
  (.set 11 (.cn (.int .i64 0))
  (.set 12 (.cn (.int .i64 0))
  (.blk 0
    (.loop
      (.chk (.un .ln (.vr 3))
      (.chk (.bn (.cm .lss .i64) (.vr 12) (.un .ln (.vr 3)))
      (.set 16 (.bn (.cm .lss .i64) (.vr 12) (.un .ln (.vr 3)))
      (.ite (.vr 16)
        .nil
        (.exit 0)
      (.blk 1
        (.blk 2
          (.loop
            (.chk (.bn (.ia 1) (.vr 3) (.vr 12))
            (.chk (.ld (.bn (.ia 1) (.vr 3) (.vr 12)))
            (.chk (.bn (.ia 1) (.vr 1) (.ld (.bn (.ia 1) (.vr 3) (.vr 12))))
            (.chk (.ld (.bn (.ia 1) (.vr 1) (.ld (.bn (.ia 1) (.vr 3) (.vr 12)))))
            (.chk (.bn (.cm .lss .i64) (.vr 11) (.ld (.bn (.ia 1) (.vr 1) (.ld (.bn (.ia 1) (.vr 3) (.vr 12))))))
            (.set 27 (.bn (.cm .lss .i64) (.vr 11) (.ld (.bn (.ia 1) (.vr 1) (.ld (.bn (.ia 1) (.vr 3) (.vr 12))))))
            (.ite (.vr 27)
              .nil
              (.exit 2)
            (.blk 3
              (.chk (.bn (.sh true .u64) (.vr 10) (.cn (.int .u64 1)))
              (.call (some 31) 25 [(.vr 0), (.cn (.int .i64 1))] []
              (.chk (.bn (.bt .or .u64) (.bn (.sh true .u64) (.vr 10) (.cn (.int .u64 1))) (.vr 31))
              (.chk (.bn (.ar .add .i64) (.vr 11) (.cn (.int .i64 1)))
              (.set 10 (.bn (.bt .or .u64) (.bn (.sh true .u64) (.vr 10) (.cn (.int .u64 1))) (.vr 31))
              (.set 11 (.bn (.ar .add .i64) (.vr 11) (.cn (.int .i64 1)))
              (.chk (.un .nck (.vr 0))
              (.chk (.un (.fa 2) (.un .nck (.vr 0)))
              (.chk (.ld (.un (.fa 2) (.un .nck (.vr 0))))
              (.chk (.bn (.cm .neq .i64) (.ld (.un (.fa 2) (.un .nck (.vr 0)))) (.cn (.int .i64 0)))
              (.set 39 (.bn (.cm .neq .i64) (.ld (.un (.fa 2) (.un .nck (.vr 0)))) (.cn (.int .i64 0)))
              (.ite (.vr 39)
                (.draw
                (.chk (.un .nck (.vr 0))
                (.chk (.un (.fa 2) (.un .nck (.vr 0)))
                (.chk (.ld (.un (.fa 2) (.un .nck (.vr 0))))
                (.set 8 (.cn (.int .i64 0))
                (.set 9 (.ld (.un (.fa 2) (.un .nck (.vr 0))))
                .ret))))))
                .nil
              .nil))))))))))))
            .nil)))))))))
        (.chk (.bn (.ia 1) (.vr 3) (.vr 12))
        (.chk (.ld (.bn (.ia 1) (.vr 3) (.vr 12)))
        (.chk (.bn (.ia 1) (.vr 2) (.ld (.bn (.ia 1) (.vr 3) (.vr 12))))
        (.chk (.ld (.bn (.ia 1) (.vr 2) (.ld (.bn (.ia 1) (.vr 3) (.vr 12)))))
        (.chk (.bn (.cm .eql .u64) (.ld (.bn (.ia 1) (.vr 2) (.ld (.bn (.ia 1) (.vr 3) (.vr 12))))) (.vr 10))
        (.set 52 (.bn (.cm .eql .u64) (.ld (.bn (.ia 1) (.vr 2) (.ld (.bn (.ia 1) (.vr 3) (.vr 12))))) (.vr 10))
        (.ite (.vr 52)
          (.chk (.bn (.ia 1) (.vr 3) (.vr 12))
          (.chk (.ld (.bn (.ia 1) (.vr 3) (.vr 12)))
          (.set 8 (.ld (.bn (.ia 1) (.vr 3) (.vr 12)))
          (.set 9 (.cn (.int .i64 0))
          .ret))))
          .nil
        .nil))))))))
      (.chk (.bn (.ar .add .i64) (.vr 12) (.cn (.int .i64 1)))
      (.set 12 (.bn (.ar .add .i64) (.vr 12) (.cn (.int .i64 1)))
      .nil))))))))
  (.set 8 (.cn (.int .i64 0))
  (.set 9 (.cn (.int .i64 2))
  .ret))))))))
def fc48 : Fc := ⟨57, s48, [(.vr 8), (.vr 9)]⟩
theorem c48 : compF Try.prog 48 = some fc48 := by kernel_rfl

/-- (*kinora/bits.Writer).Put · parameters 3 · 0:w 1:v 2:n 7:i -/
def s49 : S :=
  (.set 6 (.cn (.int .i64 0))
  (.chk (.bn (.cm .lss .i64) (.vr 2) (.cn (.int .i64 0)))
  (.chk (.gd (.bn (.cm .lss .i64) (.vr 2) (.cn (.int .i64 0))) false (.bn (.cm .gtr .i64) (.vr 2) (.cn (.int .i64 64))))
  (.chk (.gd (.or (.bn (.cm .lss .i64) (.vr 2) (.cn (.int .i64 0))) (.bn (.cm .gtr .i64) (.vr 2) (.cn (.int .i64 64)))) false (.bn (.sh false .u64) (.vr 1) (.vr 2)))
  (.set 19 (.or (.or (.bn (.cm .lss .i64) (.vr 2) (.cn (.int .i64 0))) (.bn (.cm .gtr .i64) (.vr 2) (.cn (.int .i64 64)))) (.bn (.cm .neq .u64) (.bn (.sh false .u64) (.vr 1) (.vr 2)) (.cn (.int .u64 0))))
  (.ite (.vr 19)
    (.set 6 (.cn (.int .i64 1))
    .ret)
    .nil
  (.chk (.bn (.ar .sub .i64) (.vr 2) (.cn (.int .i64 1)))
  (.set 7 (.bn (.ar .sub .i64) (.vr 2) (.cn (.int .i64 1)))
  (.blk 0
    (.loop
      (.chk (.bn (.cm .geq .i64) (.vr 7) (.cn (.int .i64 0)))
      (.set 23 (.bn (.cm .geq .i64) (.vr 7) (.cn (.int .i64 0)))
      (.ite (.vr 23)
        .nil
        (.exit 0)
      (.blk 1
        (.chk (.bn (.sh false .u64) (.vr 1) (.vr 7))
        (.call (some 32) 54 [(.vr 0), (.un (.cv .u8) (.bn (.bt .and .u64) (.bn (.sh false .u64) (.vr 1) (.vr 7)) (.cn (.int .u64 1))))] []
        .nil))
      (.chk (.bn (.ar .sub .i64) (.vr 7) (.cn (.int .i64 1)))
      (.set 7 (.bn (.ar .sub .i64) (.vr 7) (.cn (.int .i64 1)))
      .nil)))))))
  (.set 6 (.cn (.int .i64 0))
  .ret))))))))))
def fc49 : Fc := ⟨33, s49, [(.vr 6)]⟩
theorem c49 : compF Try.prog 49 = some fc49 := by kernel_rfl

/-- kinora/prefix.GetTable$1 · parameters 1 · 0:n 5:v -/
def s50 : S :=
  (.set 4 (.cn (.int .i64 0))
  (.chk (.ld (.vr 1))
  (.set 6 (.ld (.vr 1))
  (.call (some 8) 24 [(.vr 6), (.vr 0)] []
  (.set 5 (.vr 8)
  (.call (some 11) 49 [(.vr 2), (.vr 5), (.vr 0)] []
  (.chk (.un (.cv .i64) (.vr 5))
  (.set 4 (.un (.cv .i64) (.vr 5))
  .ret))))))))
def fc50 : Fc := ⟨14, s50, [(.vr 4)]⟩
theorem c50 : compF Try.prog 50 = some fc50 := by kernel_rfl

/-- bytes.Equal · parameters 2 · 0:a 1:b -/
def s51 : S :=
  (.set 4 (.cn (.bool false))
  (.op (some 6) (.convert 38 9 (.tmp 5)) 9 [(5, (.vr 0))] []
  (.op (some 8) (.convert 38 9 (.tmp 7)) 9 [(7, (.vr 1))] []
  (.chk (.bn (.eqs false) (.vr 6) (.vr 8))
  (.set 4 (.bn (.eqs false) (.vr 6) (.vr 8))
  .ret)))))
def fc51 : Fc := ⟨10, s51, [(.vr 4)]⟩
theorem c51 : compF Try.prog 51 = some fc51 := by kernel_rfl

-- NOT TRANSLATED 52 sort.SliceStable

/-- kinora/prefix.order$1 · parameters 2 · 0:i 1:j -/
def s53 : S :=
  (.set 5 (.cn (.bool false))
  (.draw
  (.chk (.ld (.vr 2))
  (.chk (.bn (.ia 1) (.ld (.vr 2)) (.vr 0))
  (.chk (.ld (.bn (.ia 1) (.ld (.vr 2)) (.vr 0)))
  (.chk (.un .nck (.ld (.bn (.ia 1) (.ld (.vr 2)) (.vr 0))))
  (.chk (.un (.fa 0) (.un .nck (.ld (.bn (.ia 1) (.ld (.vr 2)) (.vr 0)))))
  (.chk (.ld (.un (.fa 0) (.un .nck (.ld (.bn (.ia 1) (.ld (.vr 2)) (.vr 0))))))
  (.chk (.ld (.vr 2))
  (.chk (.bn (.ia 1) (.ld (.vr 2)) (.vr 1))
  (.chk (.ld (.bn (.ia 1) (.ld (.vr 2)) (.vr 1)))
  (.chk (.un .nck (.ld (.bn (.ia 1) (.ld (.vr 2)) (.vr 1))))
  (.chk (.un (.fa 0) (.un .nck (.ld (.bn (.ia 1) (.ld (.vr 2)) (.vr 1)))))
  (.chk (.ld (.un (.fa 0) (.un .nck (.ld (.bn (.ia 1) (.ld (.vr 2)) (.vr 1))))))
  (.chk (.bn (.cm .lss .i64) (.ld (.un (.fa 0) (.un .nck (.ld (.bn (.ia 1) (.ld (.vr 2)) (.vr 0)))))) (.ld (.un (.fa 0) (.un .nck (.ld (.bn (.ia 1) (.ld (.vr 2)) (.vr 1)))))))
  (.set 5 (.bn (.cm .lss .i64) (.ld (.un (.fa 0) (.un .nck (.ld (.bn (.ia 1) (.ld (.vr 2)) (.vr 0)))))) (.ld (.un (.fa 0) (.un .nck (.ld (.bn (.ia 1) (.ld (.vr 2)) (.vr 1)))))))
  .ret))))))))))))))))
def fc53 : Fc := ⟨21, s53, [(.vr 5)]⟩
theorem c53 : compF Try.prog 53 = some fc53 := by kernel_rfl

/-- (*kinora/bits.Writer).bit · parameters 2 · 0:w 1:b -/
def s54 : S :=
  (.chk (.un .nck (.vr 0))
  (.chk (.un (.fa 1) (.un .nck (.vr 0)))
  (.chk (.ld (.un (.fa 1) (.un .nck (.vr 0))))
  (.chk (.bn (.dv true .i64) (.ld (.un (.fa 1) (.un .nck (.vr 0)))) (.cn (.int .i64 8)))
  (.set 9 (.bn (.cm .eql .i64) (.bn (.dv true .i64) (.ld (.un (.fa 1) (.un .nck (.vr 0)))) (.cn (.int .i64 8))) (.cn (.int .i64 0)))
  (.ite (.vr 9)
    (.chk (.un .nck (.vr 0))
    (.chk (.un (.fa 0) (.un .nck (.vr 0)))
    (.chk (.ld (.un (.fa 0) (.un .nck (.vr 0))))
    (.set 14 (.ld (.un (.fa 0) (.un .nck (.vr 0))))
    (.op (some 15) (.buildSlice 38 1 #[(0, (.const (.int .u8 0)))]) 38 [] []
    (.op (some 16) (.call ⟨(.builtin .append), #[(.tmp 14), (.tmp 15)], #[38, 38]⟩) 38 [(14, (.vr 14)), (15, (.vr 15))] []
    (.chk (.un .nck (.vr 0))
    (.chk (.un (.fa 0) (.un .nck (.vr 0)))
    (.st 1 (.un (.fa 0) (.un .nck (.vr 0))) (.vr 16) []
    .nil)))))))))
    .nil
  (.draw
  (.chk (.un .nck (.vr 0))
  (.chk (.un (.fa 0) (.un .nck (.vr 0)))
  (.chk (.ld (.un (.fa 0) (.un .nck (.vr 0))))
  (.set 22 (.ld (.un (.fa 0) (.un .nck (.vr 0))))
  (.chk (.un .nck (.vr 0))
  (.chk (.un (.fa 1) (.un .nck (.vr 0)))
  (.chk (.ld (.un (.fa 1) (.un .nck (.vr 0))))
  (.set 26 (.ld (.un (.fa 1) (.un .nck (.vr 0))))
  (.chk (.bn (.dv false .i64) (.vr 26) (.cn (.int .i64 8)))
  (.chk (.bn (.ia 1) (.vr 22) (.bn (.dv false .i64) (.vr 26) (.cn (.int .i64 8))))
  (.chk (.ld (.bn (.ia 1) (.vr 22) (.bn (.dv false .i64) (.vr 26) (.cn (.int .i64 8)))))
  (.set 29 (.ld (.bn (.ia 1) (.vr 22) (.bn (.dv false .i64) (.vr 26) (.cn (.int .i64 8)))))
  (.chk (.un .nck (.vr 0))
  (.chk (.un (.fa 1) (.un .nck (.vr 0)))
  (.chk (.ld (.un (.fa 1) (.un .nck (.vr 0))))
  (.set 34 (.ld (.un (.fa 1) (.un .nck (.vr 0))))
  (.chk (.bn (.dv true .i64) (.vr 34) (.cn (.int .i64 8)))
  (.chk (.bn (.sh true .u8) (.vr 1) (.bn (.ar .sub .i64) (.cn (.int .i64 7)) (.bn (.dv true .i64) (.vr 34) (.cn (.int .i64 8)))))
  (.chk (.bn (.bt .or .u8) (.vr 29) (.bn (.sh true .u8) (.vr 1) (.bn (.ar .sub .i64) (.cn (.int .i64 7)) (.bn (.dv true .i64) (.vr 34) (.cn (.int .i64 8))))))
  (.chk (.bn (.ia 1) (.vr 22) (.bn (.dv false .i64) (.vr 26) (.cn (.int .i64 8))))
  (.st 1 (.bn (.ia 1) (.vr 22) (.bn (.dv false .i64) (.vr 26) (.cn (.int .i64 8)))) (.bn (.bt .or .u8) (.vr 29) (.bn (.sh true .u8) (.vr 1) (.bn (.ar .sub .i64) (.cn (.int .i64 7)) (.bn (.dv true .i64) (.vr 34) (.cn (.int .i64 8)))))) []
  (.chk (.un .nck (.vr 0))
  (.chk (.un (.fa 1) (.un .nck (.vr 0)))
  (.chk (.ld (.un (.fa 1) (.un .nck (.vr 0))))
  (.set 43 (.ld (.un (.fa 1) (.un .nck (.vr 0))))
  (.chk (.bn (.ar .add .i64) (.vr 43) (.cn (.int .i64 1)))
  (.chk (.un .nck (.vr 0))
  (.chk (.un (.fa 1) (.un .nck (.vr 0)))
  (.st 1 (.un (.fa 1) (.un .nck (.vr 0))) (.bn (.ar .add .i64) (.vr 43) (.cn (.int .i64 1))) []
  .nil))))))))))))))))))))))))))))))))))))
def fc54 : Fc := ⟨47, s54, []⟩
theorem c54 : compF Try.prog 54 = some fc54 := by kernel_rfl

/-- sort.stable_func · parameters 2 · 0:data 1:n 2:data 4:blockSize 5:a 6:b 7:m -/
def s57 : S :=
  (.op (some 2) (.box 101 (.tmp 0)) 0 [(0, (.vr 0))] []
  (.set 4 (.cn (.int .i64 20))
  (.set 5 (.cn (.int .i64 0))
  (.set 6 (.vr 4)
  (.blk 0
    (.loop
      (.chk (.bn (.cm .leq .i64) (.vr 6) (.vr 1))
      (.set 11 (.bn (.cm .leq .i64) (.vr 6) (.vr 1))
      (.ite (.vr 11)
        .nil
        (.exit 0)
      (.blk 1
        (.chk (.ldn 2 (.vr 2))
        (.set 12 (.ldn 2 (.vr 2))
        (.call (some 15) 68 [(.vr 12), (.vr 5), (.vr 6)] []
        (.set 5 (.vr 6)
        (.chk (.bn (.ar .add .i64) (.vr 6) (.vr 4))
        (.set 6 (.bn (.ar .add .i64) (.vr 6) (.vr 4))
        .nil))))))
      .nil)))))
  (.chk (.ldn 2 (.vr 2))
  (.set 20 (.ldn 2 (.vr 2))
  (.call (some 23) 68 [(.vr 20), (.vr 5), (.vr 1)] []
  (.blk 2
    (.loop
      (.chk (.bn (.cm .lss .i64) (.vr 4) (.vr 1))
      (.set 26 (.bn (.cm .lss .i64) (.vr 4) (.vr 1))
      (.ite (.vr 26)
        .nil
        (.exit 2)
      (.blk 3
        (.chk (.bn (.ar .mul .i64) (.cn (.int .i64 2)) (.vr 4))
        (.set 5 (.cn (.int .i64 0))
        (.set 6 (.bn (.ar .mul .i64) (.cn (.int .i64 2)) (.vr 4))
        (.blk 4
          (.loop
            (.chk (.bn (.cm .leq .i64) (.vr 6) (.vr 1))
            (.set 31 (.bn (.cm .leq .i64) (.vr 6) (.vr 1))
            (.ite (.vr 31)
              .nil
              (.exit 4)
            (.blk 5
              (.chk (.ldn 2 (.vr 2))
              (.set 32 (.ldn 2 (.vr 2))
              (.chk (.bn (.ar .add .i64) (.vr 5) (.vr 4))
              (.call (some 38) 69 [(.vr 32), (.vr 5), (.bn (.ar .add .i64) (.vr 5) (.vr 4)), (.vr 6)] []
              (.set 5 (.vr 6)
              (.chk (.bn (.ar .mul .i64) (.cn (.int .i64 2)) (.vr 4))
              (.chk (.bn (.ar .add .i64) (.vr 6) (.bn (.ar .mul .i64) (.cn (.int .i64 2)) (.vr 4)))
              (.set 6 (.bn (.ar .add .i64) (.vr 6) (.bn (.ar .mul .i64) (.cn (.int .i64 2)) (.vr 4)))
              .nil))))))))
            .nil)))))
        (.chk (.bn (.ar .add .i64) (.vr 5) (.vr 4))
        (.set 7 (.bn (.ar .add .i64) (.vr 5) (.vr 4))
        (.chk (.bn (.cm .lss .i64) (.vr 7) (.vr 1))
        (.set 49 (.bn (.cm .lss .i64) (.vr 7) (.vr 1))
        (.ite (.vr 49)
          (.chk (.ldn 2 (.vr 2))
          (.set 50 (.ldn 2 (.vr 2))
          (.call (some 54) 69 [(.vr 50), (.vr 5), (.vr 7), (.vr 1)] []
          .nil)))
          .nil
        (.chk (.bn (.ar .mul .i64) (.vr 4) (.cn (.int .i64 2)))
        (.set 4 (.bn (.ar .mul .i64) (.vr 4) (.cn (.int .i64 2)))
        .nil)))))))))))
      .nil)))))
  .nil)))))))))
def fc57 : Fc := ⟨57, s57, []⟩
theorem c57 : compF Try.prog 57 = some fc57 := by kernel_rfl

/-- sort.insertionSort_func · parameters 3 · 0:data 1:a 2:b 3:data 6:i 7:j -/
def s68 : S :=
  (.op (some 3) (.box 101 (.tmp 0)) 0 [(0, (.vr 0))] []
  (.chk (.bn (.ar .add .i64) (.vr 1) (.cn (.int .i64 1)))
  (.set 6 (.bn (.ar .add .i64) (.vr 1) (.cn (.int .i64 1)))
  (.blk 0
    (.loop
      (.chk (.bn (.cm .lss .i64) (.vr 6) (.vr 2))
      (.set 12 (.bn (.cm .lss .i64) (.vr 6) (.vr 2))
      (.ite (.vr 12)
        .nil
        (.exit 0)
      (.blk 1
        (.set 7 (.vr 6)
        (.blk 2
          (.loop
            (.chk (.bn (.cm .gtr .i64) (.vr 7) (.vr 1))
            (.set 19 (.bn (.cm .gtr .i64) (.vr 7) (.vr 1))
            (.chk (.gd (.vr 19) true (.un (.fa 0) (.vr 3)))
            (.chk (.gd (.vr 19) true (.ld (.un (.fa 0) (.vr 3))))
            (.set 21 (.gd (.vr 19) true (.ld (.un (.fa 0) (.vr 3))))
            (.chk (.gd (.vr 19) true (.bn (.ar .sub .i64) (.vr 7) (.cn (.int .i64 1))))
            (.ifg (.vr 19) true
              (.op (some 25) (.call ⟨(.value (.tmp 21)), #[(.tmp 22), (.tmp 24)], #[3, 3]⟩) 4 [(21, (.vr 21)), (22, (.vr 7)), (24, (.bn (.ar .sub .i64) (.vr 7) (.cn (.int .i64 1))))] []
              .nil)
              (.set 25 (.cn undef)
              .nil)
            (.chk (.pk (.vr 19) (.vr 25) (.cn (.bool false)))
            (.set 26 (.pk (.vr 19) (.vr 25) (.cn (.bool false)))
            (.ite (.vr 26)
              .nil
              (.exit 2)
            (.blk 3
              (.chk (.un (.fa 1) (.vr 3))
              (.chk (.ld (.un (.fa 1) (.vr 3)))
              (.set 30 (.ld (.un (.fa 1) (.vr 3)))
              (.chk (.bn (.ar .sub .i64) (.vr 7) (.cn (.int .i64 1)))
              (.op (some 34) (.call ⟨(.value (.tmp 30)), #[(.tmp 31), (.tmp 33)], #[3, 3]⟩) 0 [(30, (.vr 30)), (31, (.vr 7)), (33, (.bn (.ar .sub .i64) (.vr 7) (.cn (.int .i64 1))))] []
              .nil)))))
            (.chk (.bn (.ar .sub .i64) (.vr 7) (.cn (.int .i64 1)))
            (.set 7 (.bn (.ar .sub .i64) (.vr 7) (.cn (.int .i64 1)))
            .nil))))))))))))))
        .nil))
      (.chk (.bn (.ar .add .i64) (.vr 6) (.cn (.int .i64 1)))
      (.set 6 (.bn (.ar .add .i64) (.vr 6) (.cn (.int .i64 1)))
      .nil)))))))
  .nil))))
def fc68 : Fc := ⟨35, s68, []⟩
theorem c68 : compF Try.prog 68 = some fc68 := by kernel_rfl

/-- sort.symMerge_func · parameters 4 · 0:data 1:a 2:m 3:b 4:data 8:i 9:j 10:h 11:k 12:i 13:j 14:h 15:k 16:mid 17:n 18:start 19:r 20:p 21:c 22:end -/
def s69 : S :=
  (.op (some 4) (.box 101 (.tmp 0)) 0 [(0, (.vr 0))] []
  (.chk (.bn (.ar .sub .i64) (.vr 2) (.vr 1))
  (.set 26 (.bn (.cm .eql .i64) (.bn (.ar .sub .i64) (.vr 2) (.vr 1)) (.cn (.int .i64 1)))
  (.ite (.vr 26)
    (.set 8 (.vr 2)
    (.set 9 (.vr 3)
    (.blk 0
      (.loop
        (.chk (.bn (.cm .lss .i64) (.vr 8) (.vr 9))
        (.set 31 (.bn (.cm .lss .i64) (.vr 8) (.vr 9))
        (.ite (.vr 31)
          .nil
          (.exit 0)
        (.blk 1
          (.chk (.bn (.ar .add .i64) (.vr 8) (.vr 9))
          (.set 10 (.un (.cv .i64) (.bn (.sh false .u64) (.un (.cv .u64) (.bn (.ar .add .i64) (.vr 8) (.vr 9))) (.cn (.int .u64 1))))
          (.chk (.un (.fa 0) (.vr 4))
          (.chk (.ld (.un (.fa 0) (.vr 4)))
          (.set 39 (.ld (.un (.fa 0) (.vr 4)))
          (.op (some 42) (.call ⟨(.value (.tmp 39)), #[(.tmp 40), (.tmp 41)], #[3, 3]⟩) 4 [(39, (.vr 39)), (40, (.vr 10)), (41, (.vr 1))] []
          (.ite (.vr 42)
            (.chk (.bn (.ar .add .i64) (.vr 10) (.cn (.int .i64 1)))
            (.set 8 (.bn (.ar .add .i64) (.vr 10) (.cn (.int .i64 1)))
            .nil))
            (.set 9 (.vr 10)
            .nil)
          .nil)))))))
        .nil)))))
    (.set 11 (.vr 1)
    (.blk 2
      (.loop
        (.chk (.bn (.ar .sub .i64) (.vr 8) (.cn (.int .i64 1)))
        (.chk (.bn (.cm .lss .i64) (.vr 11) (.bn (.ar .sub .i64) (.vr 8) (.cn (.int .i64 1))))
        (.set 50 (.bn (.cm .lss .i64) (.vr 11) (.bn (.ar .sub .i64) (.vr 8) (.cn (.int .i64 1))))
        (.ite (.vr 50)
          .nil
          (.exit 2)
        (.blk 3
          (.chk (.un (.fa 1) (.vr 4))
          (.chk (.ld (.un (.fa 1) (.vr 4)))
          (.set 54 (.ld (.un (.fa 1) (.vr 4)))
          (.chk (.bn (.ar .add .i64) (.vr 11) (.cn (.int .i64 1)))
          (.op (some 58) (.call ⟨(.value (.tmp 54)), #[(.tmp 55), (.tmp 57)], #[3, 3]⟩) 0 [(54, (.vr 54)), (55, (.vr 11)), (57, (.bn (.ar .add .i64) (.vr 11) (.cn (.int .i64 1))))] []
          .nil)))))
        (.chk (.bn (.ar .add .i64) (.vr 11) (.cn (.int .i64 1)))
        (.set 11 (.bn (.ar .add .i64) (.vr 11) (.cn (.int .i64 1)))
        .nil))))))))
    .ret)))))
    .nil
  (.chk (.bn (.ar .sub .i64) (.vr 3) (.vr 2))
  (.set 62 (.bn (.cm .eql .i64) (.bn (.ar .sub .i64) (.vr 3) (.vr 2)) (.cn (.int .i64 1)))
  (.ite (.vr 62)
    (.set 12 (.vr 1)
    (.set 13 (.vr 2)
    (.blk 4
      (.loop
        (.chk (.bn (.cm .lss .i64) (.vr 12) (.vr 13))
        (.set 67 (.bn (.cm .lss .i64) (.vr 12) (.vr 13))
        (.ite (.vr 67)
          .nil
          (.exit 4)
        (.blk 5
          (.chk (.bn (.ar .add .i64) (.vr 12) (.vr 13))
          (.set 14 (.un (.cv .i64) (.bn (.sh false .u64) (.un (.cv .u64) (.bn (.ar .add .i64) (.vr 12) (.vr 13))) (.cn (.int .u64 1))))
          (.chk (.un (.fa 0) (.vr 4))
          (.chk (.ld (.un (.fa 0) (.vr 4)))
          (.set 75 (.ld (.un (.fa 0) (.vr 4)))
          (.op (some 78) (.call ⟨(.value (.tmp 75)), #[(.tmp 76), (.tmp 77)], #[3, 3]⟩) 4 [(75, (.vr 75)), (76, (.vr 2)), (77, (.vr 14))] []
          (.chk (.un .not (.vr 78))
          (.set 79 (.un .not (.vr 78))
          (.ite (.vr 79)
            (.chk (.bn (.ar .add .i64) (.vr 14) (.cn (.int .i64 1)))
            (.set 12 (.bn (.ar .add .i64) (.vr 14) (.cn (.int .i64 1)))
            .nil))
            (.set 13 (.vr 14)
            .nil)
          .nil)))))))))
        .nil)))))
    (.set 15 (.vr 2)
    (.blk 6
      (.loop
        (.chk (.bn (.cm .gtr .i64) (.vr 15) (.vr 12))
        (.set 86 (.bn (.cm .gtr .i64) (.vr 15) (.vr 12))
        (.ite (.vr 86)
          .nil
          (.exit 6)
        (.blk 7
          (.chk (.un (.fa 1) (.vr 4))
          (.chk (.ld (.un (.fa 1) (.vr 4)))
          (.set 90 (.ld (.un (.fa 1) (.vr 4)))
          (.chk (.bn (.ar .sub .i64) (.vr 15) (.cn (.int .i64 1)))
          (.op (some 94) (.call ⟨(.value (.tmp 90)), #[(.tmp 91), (.tmp 93)], #[3, 3]⟩) 0 [(90, (.vr 90)), (91, (.vr 15)), (93, (.bn (.ar .sub .i64) (.vr 15) (.cn (.int .i64 1))))] []
          .nil)))))
        (.chk (.bn (.ar .sub .i64) (.vr 15) (.cn (.int .i64 1)))
        (.set 15 (.bn (.ar .sub .i64) (.vr 15) (.cn (.int .i64 1)))
        .nil)))))))
    .ret)))))
    .nil
  (.chk (.bn (.ar .add .i64) (.vr 1) (.vr 3))
  (.set 16 (.un (.cv .i64) (.bn (.sh false .u64) (.un (.cv .u64) (.bn (.ar .add .i64) (.vr 1) (.vr 3))) (.cn (.int .u64 1))))
  (.chk (.bn (.ar .add .i64) (.vr 16) (.vr 2))
  (.set 17 (.bn (.ar .add .i64) (.vr 16) (.vr 2))
  (.set 18 (.cn (.int .i64 0))
  (.set 19 (.cn (.int .i64 0))
  (.chk (.bn (.cm .gtr .i64) (.vr 2) (.vr 16))
  (.set 106 (.bn (.cm .gtr .i64) (.vr 2) (.vr 16))
  (.ite (.vr 106)
    (.chk (.bn (.ar .sub .i64) (.vr 17) (.vr 3))
    (.set 18 (.bn (.ar .sub .i64) (.vr 17) (.vr 3))
    (.set 19 (.vr 16)
    .nil)))
    (.set 18 (.vr 1)
    (.set 19 (.vr 2)
    .nil))
  (.chk (.bn (.ar .sub .i64) (.vr 17) (.cn (.int .i64 1)))
  (.set 20 (.bn (.ar .sub .i64) (.vr 17) (.cn (.int .i64 1)))
  (.blk 8
    (.loop
      (.chk (.bn (.cm .lss .i64) (.vr 18) (.vr 19))
      (.set 117 (.bn (.cm .lss .i64) (.vr 18) (.vr 19))
      (.ite (.vr 117)
        .nil
        (.exit 8)
      (.blk 9
        (.chk (.bn (.ar .add .i64) (.vr 18) (.vr 19))
        (.set 21 (.un (.cv .i64) (.bn (.sh false .u64) (.un (.cv .u64) (.bn (.ar .add .i64) (.vr 18) (.vr 19))) (.cn (.int .u64 1))))
        (.chk (.un (.fa 0) (.vr 4))
        (.chk (.ld (.un (.fa 0) (.vr 4)))
        (.set 125 (.ld (.un (.fa 0) (.vr 4)))
        (.chk (.bn (.ar .sub .i64) (.vr 20) (.vr 21))
        (.op (some 130) (.call ⟨(.value (.tmp 125)), #[(.tmp 128), (.tmp 129)], #[3, 3]⟩) 4 [(125, (.vr 125)), (128, (.bn (.ar .sub .i64) (.vr 20) (.vr 21))), (129, (.vr 21))] []
        (.chk (.un .not (.vr 130))
        (.set 131 (.un .not (.vr 130))
        (.ite (.vr 131)
          (.chk (.bn (.ar .add .i64) (.vr 21) (.cn (.int .i64 1)))
          (.set 18 (.bn (.ar .add .i64) (.vr 21) (.cn (.int .i64 1)))
          .nil))
          (.set 19 (.vr 21)
          .nil)
        .nil))))))))))
      .nil)))))
  (.chk (.bn (.ar .sub .i64) (.vr 17) (.vr 18))
  (.set 22 (.bn (.ar .sub .i64) (.vr 17) (.vr 18))
  (.chk (.bn (.cm .lss .i64) (.vr 18) (.vr 2))
  (.chk (.gd (.bn (.cm .lss .i64) (.vr 18) (.vr 2)) true (.bn (.cm .lss .i64) (.vr 2) (.vr 22)))
  (.set 145 (.and (.bn (.cm .lss .i64) (.vr 18) (.vr 2)) (.bn (.cm .lss .i64) (.vr 2) (.vr 22)))
  (.ite (.vr 145)
    (.chk (.ldn 2 (.vr 4))
    (.set 146 (.ldn 2 (.vr 4))
    (.call (some 150) 70 [(.vr 146), (.vr 18), (.vr 2), (.vr 22)] []
    .nil)))
    .nil
  (.chk (.bn (.cm .lss .i64) (.vr 1) (.vr 18))
  (.chk (.gd (.bn (.cm .lss .i64) (.vr 1) (.vr 18)) true (.bn (.cm .lss .i64) (.vr 18) (.vr 16)))
  (.set 158 (.and (.bn (.cm .lss .i64) (.vr 1) (.vr 18)) (.bn (.cm .lss .i64) (.vr 18) (.vr 16)))
  (.ite (.vr 158)
    (.chk (.ldn 2 (.vr 4))
    (.set 159 (.ldn 2 (.vr 4))
    (.call (some 163) 69 [(.vr 159), (.vr 1), (.vr 18), (.vr 16)] []
    .nil)))
    .nil
  (.chk (.bn (.cm .lss .i64) (.vr 16) (.vr 22))
  (.chk (.gd (.bn (.cm .lss .i64) (.vr 16) (.vr 22)) true (.bn (.cm .lss .i64) (.vr 22) (.vr 3)))
  (.set 171 (.and (.bn (.cm .lss .i64) (.vr 16) (.vr 22)) (.bn (.cm .lss .i64) (.vr 22) (.vr 3)))
  (.ite (.vr 171)
    (.chk (.ldn 2 (.vr 4))
    (.set 172 (.ldn 2 (.vr 4))
    (.call (some 176) 69 [(.vr 172), (.vr 16), (.vr 22), (.vr 3)] []
    .nil)))
    .nil
  .nil)))))))))))))))))))))))))))))))))
def fc69 : Fc := ⟨177, s69, []⟩
theorem c69 : compF Try.prog 69 = some fc69 := by kernel_rfl

/-- sort.rotate_func · parameters 4 · 0:data 1:a 2:m 3:b 4:data 8:i 9:j -/
def s70 : S :=
  (.op (some 4) (.box 101 (.tmp 0)) 0 [(0, (.vr 0))] []
  (.chk (.bn (.ar .sub .i64) (.vr 2) (.vr 1))
  (.set 8 (.bn (.ar .sub .i64) (.vr 2) (.vr 1))
  (.chk (.bn (.ar .sub .i64) (.vr 3) (.vr 2))
  (.set 9 (.bn (.ar .sub .i64) (.vr 3) (.vr 2))
  (.blk 0
    (.loop
      (.chk (.bn (.cm .neq .i64) (.vr 8) (.vr 9))
      (.set 18 (.bn (.cm .neq .i64) (.vr 8) (.vr 9))
      (.ite (.vr 18)
        .nil
        (.exit 0)
      (.blk 1
        (.chk (.bn (.cm .gtr .i64) (.vr 8) (.vr 9))
        (.set 21 (.bn (.cm .gtr .i64) (.vr 8) (.vr 9))
        (.ite (.vr 21)
          (.chk (.ldn 2 (.vr 4))
          (.set 22 (.ldn 2 (.vr 4))
          (.chk (.bn (.ar .sub .i64) (.vr 2) (.vr 8))
          (.call (some 28) 71 [(.vr 22), (.bn (.ar .sub .i64) (.vr 2) (.vr 8)), (.vr 2), (.vr 9)] []
          (.chk (.bn (.ar .sub .i64) (.vr 8) (.vr 9))
          (.set 8 (.bn (.ar .sub .i64) (.vr 8) (.vr 9))
          .nil))))))
          (.chk (.ldn 2 (.vr 4))
          (.set 32 (.ldn 2 (.vr 4))
          (.chk (.bn (.ar .sub .i64) (.vr 2) (.vr 8))
          (.chk (.bn (.ar .add .i64) (.vr 2) (.vr 9))
          (.chk (.bn (.ar .sub .i64) (.bn (.ar .add .i64) (.vr 2) (.vr 9)) (.vr 8))
          (.call (some 42) 71 [(.vr 32), (.bn (.ar .sub .i64) (.vr 2) (.vr 8)), (.bn (.ar .sub .i64) (.bn (.ar .add .i64) (.vr 2) (.vr 9)) (.vr 8)), (.vr 8)] []
          (.chk (.bn (.ar .sub .i64) (.vr 9) (.vr 8))
          (.set 9 (.bn (.ar .sub .i64) (.vr 9) (.vr 8))
          .nil))))))))
        .nil)))
      .nil)))))
  (.chk (.ldn 2 (.vr 4))
  (.set 46 (.ldn 2 (.vr 4))
  (.chk (.bn (.ar .sub .i64) (.vr 2) (.vr 8))
  (.call (some 52) 71 [(.vr 46), (.bn (.ar .sub .i64) (.vr 2) (.vr 8)), (.vr 2), (.vr 8)] []
  .nil))))))))))
def fc70 : Fc := ⟨53, s70, []⟩
theorem c70 : compF Try.prog 70 = some fc70 := by kernel_rfl

/-- sort.swapRange_func · parameters 4 · 0:data 1:a 2:b 3:n 4:data 8:i -/
def s71 : S :=
  (.op (some 4) (.box 101 (.tmp 0)) 0 [(0, (.vr 0))] []
  (.set 8 (.cn (.int .i64 0))
  (.blk 0
    (.loop
      (.chk (.bn (.cm .lss .i64) (.vr 8) (.vr 3))
      (.set 11 (.bn (.cm .lss .i64) (.vr 8) (.vr 3))
      (.ite (.vr 11)
        .nil
        (.exit 0)
      (.blk 1
        (.chk (.un (.fa 1) (.vr 4))
        (.chk (.ld (.un (.fa 1) (.vr 4)))
        (.set 15 (.ld (.un (.fa 1) (.vr 4)))
        (.chk (.bn (.ar .add .i64) (.vr 1) (.vr 8))
        (.chk (.bn (.ar .add .i64) (.vr 2) (.vr 8))
        (.op (some 22) (.call ⟨(.value (.tmp 15)), #[(.tmp 18), (.tmp 21)], #[3, 3]⟩) 0 [(15, (.vr 15)), (18, (.bn (.ar .add .i64) (.vr 1) (.vr 8))), (21, (.bn (.ar .add .i64) (.vr 2) (.vr 8)))] []
        .nil))))))
      (.chk (.bn (.ar .add .i64) (.vr 8) (.cn (.int .i64 1)))
      (.set 8 (.bn (.ar .add .i64) (.vr 8) (.cn (.int .i64 1)))
      .nil)))))))
  .nil)))
def fc71 : Fc := ⟨23, s71, []⟩
theorem c71 : compF Try.prog 71 = some fc71 := by kernel_rfl

end Go.Proofs.Ytgjnfajdejkkjaa.VG
