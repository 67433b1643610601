/-
  The translations of the functions, printed by program (wip/vg/Print.lean); each is checked against the program by the kernel.
-/
import Derived.Test.YtcljnpodfhgjkaaChecked
import Derived.Test.YtcljnpodfhgjkaaVgH
namespace Go.Proofs.Ytcljnpodfhgjkaa.VG
open Go
set_option maxRecDepth 100000

/-- kinora/kinoralaw26.ModelLevels · parameters 3 · 0:g 1:four 2:depth 4:four 7:d 8:w 9:n 10:a 11:b -/
def s3 : S :=
  (.op (some 4) (.box 22 (.tmp 1)) 0 [(1, (.vr 1))] []
  (.set 6 (.cn (.bool false))
  (.set 7 (.cn (.int .i64 0))
  (.blk 0
    (.loop
      (.chk (.bn (.cm .leq .i64) (.vr 7) (.cn (.int .i64 17)))
      (.set 13 (.bn (.cm .leq .i64) (.vr 7) (.cn (.int .i64 17)))
      (.ite (.vr 13)
        .nil
        (.exit 0)
      (.blk 1
        (.draw
        (.chk (.bn (.aa 4 1) (.vr 4) (.cn (.int .i64 0)))
        (.chk (.ld (.bn (.aa 4 1) (.vr 4) (.cn (.int .i64 0))))
        (.set 17 (.ld (.bn (.aa 4 1) (.vr 4) (.cn (.int .i64 0))))
        (.chk (.bn (.aa 4 1) (.vr 4) (.cn (.int .i64 1)))
        (.chk (.ld (.bn (.aa 4 1) (.vr 4) (.cn (.int .i64 1))))
        (.set 21 (.ld (.bn (.aa 4 1) (.vr 4) (.cn (.int .i64 1))))
        (.chk (.bn (.aa 4 1) (.vr 4) (.cn (.int .i64 2)))
        (.chk (.ld (.bn (.aa 4 1) (.vr 4) (.cn (.int .i64 2))))
        (.set 25 (.ld (.bn (.aa 4 1) (.vr 4) (.cn (.int .i64 2))))
        (.chk (.bn (.aa 4 1) (.vr 4) (.cn (.int .i64 3)))
        (.chk (.ld (.bn (.aa 4 1) (.vr 4) (.cn (.int .i64 3))))
        (.set 29 (.ld (.bn (.aa 4 1) (.vr 4) (.cn (.int .i64 3))))
        (.call (some 19) 8 [(.vr 17), (.vr 7)] [⟨13, (.bn (.aa 4 1) (.vr 4) (.cn (.int .i64 3))), 1, none⟩, ⟨9, (.bn (.aa 4 1) (.vr 4) (.cn (.int .i64 2))), 1, none⟩, ⟨5, (.bn (.aa 4 1) (.vr 4) (.cn (.int .i64 1))), 1, none⟩]
        (.call (some 23) 8 [(.vr 21), (.vr 7)] [⟨13, (.bn (.aa 4 1) (.vr 4) (.cn (.int .i64 3))), 1, none⟩, ⟨9, (.bn (.aa 4 1) (.vr 4) (.cn (.int .i64 2))), 1, none⟩]
        (.call (some 27) 8 [(.vr 25), (.vr 7)] [⟨13, (.bn (.aa 4 1) (.vr 4) (.cn (.int .i64 3))), 1, none⟩]
        (.call (some 31) 8 [(.vr 29), (.vr 7)] []
        (.set 8 (.vr 19)
        (.set 9 (.vr 23)
        (.set 10 (.vr 27)
        (.set 11 (.vr 31)
        (.call (some 38) 9 [(.vr 0), (.vr 8), (.vr 9), (.vr 10), (.vr 11), (.vr 7)] []
        (.chk (.un .not (.vr 38))
        (.set 40 (.un .not (.vr 38))
        (.chk (.gd (.vr 40) false (.bn (.bt .and .i64) (.vr 0) (.cn (.int .i64 31))))
        (.ifg (.vr 40) false
          (.call (some 49) 9 [(.bn (.ar .sub .i64) (.bn (.bt .and .i64) (.vr 0) (.cn (.int .i64 31))) (.cn (.int .i64 15))), (.vr 8), (.vr 9), (.vr 8), (.vr 11), (.vr 7)] []
          .nil)
          (.set 49 (.cn undef)
          .nil)
        (.chk (.gd (.vr 40) false (.un .not (.vr 49)))
        (.chk (.or (.vr 40) (.un .not (.vr 49)))
        (.set 51 (.or (.vr 40) (.un .not (.vr 49)))
        (.ite (.vr 51)
          (.set 6 (.cn (.bool false))
          .ret)
          .nil
        .nil))))))))))))))))))))))))))))))
      (.chk (.bn (.ar .add .i64) (.vr 7) (.cn (.int .i64 1)))
      (.set 7 (.bn (.ar .add .i64) (.vr 7) (.cn (.int .i64 1)))
      .nil)))))))
  (.chk (.bn (.aa 4 1) (.vr 4) (.cn (.int .i64 0)))
  (.chk (.ld (.bn (.aa 4 1) (.vr 4) (.cn (.int .i64 0))))
  (.set 54 (.ld (.bn (.aa 4 1) (.vr 4) (.cn (.int .i64 0))))
  (.chk (.bn (.aa 4 1) (.vr 4) (.cn (.int .i64 1)))
  (.chk (.ld (.bn (.aa 4 1) (.vr 4) (.cn (.int .i64 1))))
  (.set 56 (.ld (.bn (.aa 4 1) (.vr 4) (.cn (.int .i64 1))))
  (.chk (.bn (.aa 4 1) (.vr 4) (.cn (.int .i64 2)))
  (.chk (.ld (.bn (.aa 4 1) (.vr 4) (.cn (.int .i64 2))))
  (.set 58 (.ld (.bn (.aa 4 1) (.vr 4) (.cn (.int .i64 2))))
  (.chk (.bn (.aa 4 1) (.vr 4) (.cn (.int .i64 3)))
  (.chk (.ld (.bn (.aa 4 1) (.vr 4) (.cn (.int .i64 3))))
  (.set 60 (.ld (.bn (.aa 4 1) (.vr 4) (.cn (.int .i64 3))))
  (.call (some 62) 9 [(.vr 0), (.vr 54), (.vr 56), (.vr 58), (.vr 60), (.vr 2)] []
  (.set 63 (.vr 62)
  (.ifg (.vr 63) true
    (.call (some 64) 10 [] []
    .nil)
    (.set 64 (.cn undef)
    .nil)
  (.chk (.pk (.vr 63) (.vr 64) (.cn (.bool false)))
  (.set 6 (.pk (.vr 63) (.vr 64) (.cn (.bool false)))
  .ret)))))))))))))))))))))
def fc3 : Fc := ⟨66, s3, [(.vr 6)]⟩
theorem c3 : compF Try.prog 3 = some fc3 := by kernel_rfl

/-- kinora/kinoralaw26.ModelTurned · parameters 2 · 0:four 1:depth 2:four 5:d 6:top 7:w 8:n 9:a 10:b 11:c 12:x 13:e 14:y -/
def s4 : S :=
  (.op (some 2) (.box 22 (.tmp 0)) 0 [(0, (.vr 0))] []
  (.set 4 (.cn (.bool false))
  (.call (some 16) 11 [(.vr 1), (.cn (.int .i64 1)), (.cn (.int .i64 16))] []
  (.set 5 (.vr 16)
  (.chk (.un (.cv .u64) (.vr 5))
  (.chk (.bn (.sh true .i64) (.cn (.int .i64 1)) (.un (.cv .u64) (.vr 5)))
  (.set 6 (.bn (.ar .sub .i64) (.bn (.sh true .i64) (.cn (.int .i64 1)) (.un (.cv .u64) (.vr 5))) (.cn (.int .i64 1)))
  (.draw
  (.chk (.bn (.aa 4 1) (.vr 2) (.cn (.int .i64 0)))
  (.chk (.ld (.bn (.aa 4 1) (.vr 2) (.cn (.int .i64 0))))
  (.set 22 (.ld (.bn (.aa 4 1) (.vr 2) (.cn (.int .i64 0))))
  (.chk (.bn (.aa 4 1) (.vr 2) (.cn (.int .i64 1)))
  (.chk (.ld (.bn (.aa 4 1) (.vr 2) (.cn (.int .i64 1))))
  (.set 26 (.ld (.bn (.aa 4 1) (.vr 2) (.cn (.int .i64 1))))
  (.chk (.bn (.aa 4 1) (.vr 2) (.cn (.int .i64 2)))
  (.chk (.ld (.bn (.aa 4 1) (.vr 2) (.cn (.int .i64 2))))
  (.set 30 (.ld (.bn (.aa 4 1) (.vr 2) (.cn (.int .i64 2))))
  (.chk (.bn (.aa 4 1) (.vr 2) (.cn (.int .i64 3)))
  (.chk (.ld (.bn (.aa 4 1) (.vr 2) (.cn (.int .i64 3))))
  (.set 34 (.ld (.bn (.aa 4 1) (.vr 2) (.cn (.int .i64 3))))
  (.call (some 24) 8 [(.vr 22), (.vr 5)] [⟨13, (.bn (.aa 4 1) (.vr 2) (.cn (.int .i64 3))), 1, none⟩, ⟨9, (.bn (.aa 4 1) (.vr 2) (.cn (.int .i64 2))), 1, none⟩, ⟨5, (.bn (.aa 4 1) (.vr 2) (.cn (.int .i64 1))), 1, none⟩]
  (.call (some 28) 8 [(.vr 26), (.vr 5)] [⟨13, (.bn (.aa 4 1) (.vr 2) (.cn (.int .i64 3))), 1, none⟩, ⟨9, (.bn (.aa 4 1) (.vr 2) (.cn (.int .i64 2))), 1, none⟩]
  (.call (some 32) 8 [(.vr 30), (.vr 5)] [⟨13, (.bn (.aa 4 1) (.vr 2) (.cn (.int .i64 3))), 1, none⟩]
  (.call (some 36) 8 [(.vr 34), (.vr 5)] []
  (.set 7 (.vr 24)
  (.set 8 (.vr 28)
  (.set 9 (.vr 32)
  (.set 10 (.vr 36)
  (.call (some 43) 12 [(.vr 7), (.vr 8), (.vr 9), (.vr 10), (.vr 5)] []
  (.chk (.un (.ex 0) (.vr 43))
  (.chk (.un (.ex 1) (.vr 43))
  (.set 11 (.un (.ex 0) (.vr 43))
  (.set 12 (.un (.ex 1) (.vr 43))
  (.chk (.bn (.ar .sub .i64) (.vr 6) (.vr 7))
  (.chk (.bn (.ar .sub .i64) (.vr 6) (.vr 8))
  (.chk (.bn (.ar .sub .i64) (.vr 6) (.vr 9))
  (.chk (.bn (.ar .sub .i64) (.vr 6) (.vr 10))
  (.call (some 60) 12 [(.bn (.ar .sub .i64) (.vr 6) (.vr 7)), (.bn (.ar .sub .i64) (.vr 6) (.vr 8)), (.bn (.ar .sub .i64) (.vr 6) (.vr 9)), (.bn (.ar .sub .i64) (.vr 6) (.vr 10)), (.vr 5)] []
  (.chk (.un (.ex 0) (.vr 60))
  (.chk (.un (.ex 1) (.vr 60))
  (.set 13 (.un (.ex 0) (.vr 60))
  (.set 14 (.un (.ex 1) (.vr 60))
  (.chk (.bn (.cm .eql .i64) (.vr 11) (.vr 13))
  (.set 66 (.bn (.cm .eql .i64) (.vr 11) (.vr 13))
  (.chk (.gd (.vr 66) true (.bn (.cm .eql .i64) (.vr 11) (.cn (.int .i64 0))))
  (.set 69 (.gd (.vr 66) true (.bn (.cm .eql .i64) (.vr 11) (.cn (.int .i64 0))))
  (.chk (.gd (.vr 69) true (.un .not (.vr 12)))
  (.chk (.gd (.vr 66) true (.and (.vr 69) (.un .not (.vr 12))))
  (.set 73 (.gd (.vr 66) true (.and (.vr 69) (.un .not (.vr 12))))
  (.chk (.gd (.vr 73) true (.un .not (.vr 14)))
  (.chk (.gd (.vr 66) true (.and (.vr 73) (.un .not (.vr 14))))
  (.set 77 (.gd (.vr 66) true (.and (.vr 73) (.un .not (.vr 14))))
  (.chk (.gd (.vr 77) false (.bn (.cm .gtr .i64) (.vr 11) (.cn (.int .i64 0))))
  (.set 80 (.gd (.vr 77) false (.bn (.cm .gtr .i64) (.vr 11) (.cn (.int .i64 0))))
  (.chk (.gd (.vr 80) true (.bn (.cm .lss .i64) (.vr 11) (.cn (.int .i64 365))))
  (.chk (.gd (.vr 77) false (.and (.vr 80) (.bn (.cm .lss .i64) (.vr 11) (.cn (.int .i64 365)))))
  (.set 84 (.gd (.vr 77) false (.and (.vr 80) (.bn (.cm .lss .i64) (.vr 11) (.cn (.int .i64 365)))))
  (.chk (.gd (.vr 84) true (.bn (.eqb true) (.vr 12) (.vr 14)))
  (.chk (.gd (.vr 77) false (.and (.vr 84) (.bn (.eqb true) (.vr 12) (.vr 14))))
  (.chk (.gd (.vr 66) true (.or (.vr 77) (.and (.vr 84) (.bn (.eqb true) (.vr 12) (.vr 14)))))
  (.chk (.and (.vr 66) (.or (.vr 77) (.and (.vr 84) (.bn (.eqb true) (.vr 12) (.vr 14)))))
  (.set 91 (.and (.vr 66) (.or (.vr 77) (.and (.vr 84) (.bn (.eqb true) (.vr 12) (.vr 14)))))
  (.ifg (.vr 91) true
    (.call (some 97) 13 [(.vr 7), (.vr 8), (.vr 9), (.vr 10), (.vr 5)] []
    .nil)
    (.set 97 (.cn undef)
    .nil)
  (.chk (.gd (.vr 91) true (.bn (.ar .sub .i64) (.vr 6) (.vr 7)))
  (.chk (.gd (.vr 91) true (.bn (.ar .sub .i64) (.vr 6) (.vr 8)))
  (.chk (.gd (.vr 91) true (.bn (.ar .sub .i64) (.vr 6) (.vr 9)))
  (.chk (.gd (.vr 91) true (.bn (.ar .sub .i64) (.vr 6) (.vr 10)))
  (.ifg (.vr 91) true
    (.call (some 111) 13 [(.bn (.ar .sub .i64) (.vr 6) (.vr 7)), (.bn (.ar .sub .i64) (.vr 6) (.vr 8)), (.bn (.ar .sub .i64) (.vr 6) (.vr 9)), (.bn (.ar .sub .i64) (.vr 6) (.vr 10)), (.vr 5)] []
    .nil)
    (.set 111 (.cn undef)
    .nil)
  (.chk (.gd (.vr 91) true (.bn (.cm .eql .i64) (.vr 97) (.vr 111)))
  (.chk (.and (.vr 91) (.bn (.cm .eql .i64) (.vr 97) (.vr 111)))
  (.set 114 (.and (.vr 91) (.bn (.cm .eql .i64) (.vr 97) (.vr 111)))
  (.ifg (.vr 114) true
    (.call (some 115) 10 [] []
    .nil)
    (.set 115 (.cn undef)
    .nil)
  (.chk (.pk (.vr 114) (.vr 115) (.cn (.bool false)))
  (.set 4 (.pk (.vr 114) (.vr 115) (.cn (.bool false)))
  .ret))))))))))))))))))))))))))))))))))))))))))))))))))))))))))))))))))))))))))
def fc4 : Fc := ⟨117, s4, [(.vr 4)]⟩
theorem c4 : compF Try.prog 4 = some fc4 := by kernel_rfl

/-- kinora/kinoralaw26.ModelPlays · parameters 5 · 0:t 1:ctxs 2:errs 3:guess 4:depth 12:bad 14:was 15:k 16:d 17:m 18:e 19:x 21:i 22:c 23:v -/
def s5 : S :=
  (.set 10 (.cn (.bool false))
  (.chk (.un .ln (.vr 1))
  (.chk (.gd (.bn (.cm .gtr .i64) (.un .ln (.vr 1)) (.cn (.int .i64 300))) false (.un .ln (.vr 2)))
  (.set 31 (.or (.bn (.cm .gtr .i64) (.un .ln (.vr 1)) (.cn (.int .i64 300))) (.bn (.cm .gtr .i64) (.un .ln (.vr 2)) (.cn (.int .i64 300))))
  (.ite (.vr 31)
    (.set 10 (.cn (.bool true))
    .ret)
    .nil
  (.call (some 34) 14 [(.vr 4)] []
  (.chk (.un (.ex 0) (.vr 34))
  (.chk (.un (.ex 1) (.vr 34))
  (.set 12 (.un (.ex 1) (.vr 34))
  (.call (some 39) 15 [(.vr 4)] []
  (.chk (.un (.ex 0) (.vr 39))
  (.chk (.un (.ex 1) (.vr 39))
  (.set 14 (.un (.ex 1) (.vr 39))
  (.call (some 43) 16 [(.vr 0)] []
  (.set 15 (.vr 43)
  (.call (some 45) 11 [(.vr 4), (.cn (.int .i64 1)), (.cn (.int .i64 16))] []
  (.set 16 (.vr 45)
  (.call (some 48) 14 [(.vr 16)] []
  (.chk (.un (.ex 0) (.vr 48))
  (.chk (.un (.ex 1) (.vr 48))
  (.set 17 (.un (.ex 0) (.vr 48))
  (.set 18 (.un (.ex 1) (.vr 48))
  (.call (some 53) 15 [(.vr 16)] []
  (.chk (.un (.ex 0) (.vr 53))
  (.chk (.un (.ex 1) (.vr 53))
  (.set 19 (.un (.ex 0) (.vr 53))
  (.chk (.bn (.cm .neq .i64) (.vr 18) (.cn (.int .i64 0)))
  (.chk (.gd (.bn (.cm .neq .i64) (.vr 18) (.cn (.int .i64 0))) false (.un (.pnil false) (.vr 17)))
  (.chk (.gd (.or (.bn (.cm .neq .i64) (.vr 18) (.cn (.int .i64 0))) (.un (.pnil false) (.vr 17))) false (.bn (.cm .neq .i64) (.vr 12) (.vr 14)))
  (.set 66 (.or (.or (.bn (.cm .neq .i64) (.vr 18) (.cn (.int .i64 0))) (.un (.pnil false) (.vr 17))) (.bn (.cm .neq .i64) (.vr 12) (.vr 14)))
  (.ite (.vr 66)
    (.set 10 (.cn (.bool false))
    .ret)
    .nil
  (.set 21 (.cn (.int .i64 0))
  (.blk 0
    (.loop
      (.chk (.bn (.cm .lss .i64) (.vr 21) (.cn (.int .i64 200)))
      (.set 68 (.bn (.cm .lss .i64) (.vr 21) (.cn (.int .i64 200)))
      (.ite (.vr 68)
        .nil
        (.exit 0)
      (.blk 1
        (.call (some 72) 17 [(.vr 15), (.cn (.int .i64 5))] []
        (.chk (.bn (.ar .mul .i64) (.vr 72) (.cn (.int .i64 80)))
        (.call (some 75) 17 [(.vr 15), (.cn (.int .i64 65536))] []
        (.call (some 77) 17 [(.vr 15), (.cn (.int .i64 16))] []
        (.chk (.un (.cv .u64) (.vr 77))
        (.chk (.bn (.sh false .i64) (.vr 75) (.un (.cv .u64) (.vr 77)))
        (.call (some 81) 18 [(.bn (.sh false .i64) (.vr 75) (.un (.cv .u64) (.vr 77))), (.vr 16)] []
        (.set 22 (.bn (.ar .mul .i64) (.vr 72) (.cn (.int .i64 80)))
        (.set 23 (.vr 81)
        (.chk (.un .ln (.vr 1))
        (.chk (.bn (.cm .lss .i64) (.vr 21) (.un .ln (.vr 1)))
        (.chk (.gd (.bn (.cm .lss .i64) (.vr 21) (.un .ln (.vr 1))) true (.un .ln (.vr 2)))
        (.chk (.gd (.bn (.cm .lss .i64) (.vr 21) (.un .ln (.vr 1))) true (.bn (.cm .lss .i64) (.vr 21) (.un .ln (.vr 2))))
        (.set 91 (.and (.bn (.cm .lss .i64) (.vr 21) (.un .ln (.vr 1))) (.bn (.cm .lss .i64) (.vr 21) (.un .ln (.vr 2))))
        (.ite (.vr 91)
          (.draw
          (.chk (.bn (.ia 1) (.vr 1) (.vr 21))
          (.chk (.ld (.bn (.ia 1) (.vr 1) (.vr 21)))
          (.set 96 (.ld (.bn (.ia 1) (.vr 1) (.vr 21)))
          (.chk (.bn (.ia 1) (.vr 2) (.vr 21))
          (.chk (.ld (.bn (.ia 1) (.vr 2) (.vr 21)))
          (.set 100 (.ld (.bn (.ia 1) (.vr 2) (.vr 21)))
          (.call (some 101) 19 [(.vr 17), (.vr 96), (.vr 100)] []
          (.draw
          (.chk (.bn (.ia 1) (.vr 1) (.vr 21))
          (.chk (.ld (.bn (.ia 1) (.vr 1) (.vr 21)))
          (.set 106 (.ld (.bn (.ia 1) (.vr 1) (.vr 21)))
          (.chk (.bn (.ia 1) (.vr 2) (.vr 21))
          (.chk (.ld (.bn (.ia 1) (.vr 2) (.vr 21)))
          (.set 110 (.ld (.bn (.ia 1) (.vr 2) (.vr 21)))
          (.call (some 111) 20 [(.vr 19), (.vr 106), (.vr 110)] []
          (.chk (.bn (.ia 1) (.vr 2) (.vr 21))
          (.chk (.ld (.bn (.ia 1) (.vr 2) (.vr 21)))
          (.set 115 (.ld (.bn (.ia 1) (.vr 2) (.vr 21)))
          (.call (some 117) 18 [(.vr 115), (.vr 16)] []
          (.set 23 (.vr 117)
          .nil)))))))))))))))))))))
          .nil
        (.call (some 121) 19 [(.vr 17), (.vr 22), (.vr 23)] []
        (.call (some 125) 20 [(.vr 19), (.vr 22), (.vr 23)] []
        (.call (some 130) 21 [(.vr 17), (.vr 19), (.vr 22), (.vr 3)] []
        (.chk (.un .not (.vr 130))
        (.set 132 (.un .not (.vr 130))
        (.ifg (.vr 132) false
          (.call (some 138) 8 [(.vr 3), (.vr 16)] []
          .nil)
          (.set 138 (.cn undef)
          .nil)
        (.ifg (.vr 132) false
          (.call (some 139) 21 [(.vr 17), (.vr 19), (.vr 22), (.vr 138)] []
          .nil)
          (.set 139 (.cn undef)
          .nil)
        (.chk (.gd (.vr 132) false (.un .not (.vr 139)))
        (.chk (.or (.vr 132) (.un .not (.vr 139)))
        (.set 142 (.or (.vr 132) (.un .not (.vr 139)))
        (.chk (.gd (.vr 142) false (.un .ln (.vr 1)))
        (.chk (.gd (.vr 142) false (.bn (.cm .lss .i64) (.vr 21) (.un .ln (.vr 1))))
        (.set 147 (.gd (.vr 142) false (.bn (.cm .lss .i64) (.vr 21) (.un .ln (.vr 1))))
        (.chk (.gd (.vr 147) true (.bn (.ia 1) (.vr 1) (.vr 21)))
        (.chk (.gd (.vr 147) true (.ld (.bn (.ia 1) (.vr 1) (.vr 21))))
        (.set 153 (.gd (.vr 147) true (.ld (.bn (.ia 1) (.vr 1) (.vr 21))))
        (.ifg (.vr 147) true
          (.call (some 155) 21 [(.vr 17), (.vr 19), (.vr 153), (.vr 3)] []
          .nil)
          (.set 155 (.cn undef)
          .nil)
        (.chk (.gd (.vr 147) true (.un .not (.vr 155)))
        (.chk (.gd (.vr 142) false (.and (.vr 147) (.un .not (.vr 155))))
        (.chk (.or (.vr 142) (.and (.vr 147) (.un .not (.vr 155))))
        (.set 158 (.or (.vr 142) (.and (.vr 147) (.un .not (.vr 155))))
        (.ite (.vr 158)
          (.set 10 (.cn (.bool false))
          .ret)
          .nil
        .nil)))))))))))))))))))))))))))))))))))))
      (.chk (.bn (.ar .add .i64) (.vr 21) (.cn (.int .i64 1)))
      (.set 21 (.bn (.ar .add .i64) (.vr 21) (.cn (.int .i64 1)))
      .nil)))))))
  (.call (some 159) 10 [] []
  (.set 10 (.vr 159)
  .ret)))))))))))))))))))))))))))))))))))
def fc5 : Fc := ⟨160, s5, [(.vr 10)]⟩
theorem c5 : compF Try.prog 5 = some fc5 := by kernel_rfl

/-- kinora/kinoralaw26.ModelLeans · parameters 3 · 0:err 2:ctx 7:c 8:v 9:m 10:e 11:i 12:n 13:a 14:b 15:x 19:x -/
def s6 : S :=
  (.set 6 (.cn (.bool false))
  (.call (some 21) 11 [(.vr 2), (.cn (.int .i64 0)), (.cn (.int .i64 364))] []
  (.call (some 23) 11 [(.vr 0), (.cn (.int .i64 (-100))), (.cn (.int .i64 100))] []
  (.set 7 (.vr 21)
  (.set 8 (.vr 23)
  (.call (some 25) 14 [(.cn (.int .i64 8))] []
  (.chk (.un (.ex 0) (.vr 25))
  (.chk (.un (.ex 1) (.vr 25))
  (.set 9 (.un (.ex 0) (.vr 25))
  (.set 10 (.un (.ex 1) (.vr 25))
  (.chk (.bn (.cm .neq .i64) (.vr 10) (.cn (.int .i64 0)))
  (.chk (.gd (.bn (.cm .neq .i64) (.vr 10) (.cn (.int .i64 0))) false (.un (.pnil false) (.vr 9)))
  (.set 33 (.or (.bn (.cm .neq .i64) (.vr 10) (.cn (.int .i64 0))) (.un (.pnil false) (.vr 9)))
  (.ite (.vr 33)
    (.set 6 (.cn (.bool false))
    .ret)
    .nil
  (.set 11 (.cn (.int .i64 0))
  (.blk 0
    (.loop
      (.chk (.bn (.cm .lss .i64) (.vr 11) (.cn (.int .i64 600)))
      (.set 35 (.bn (.cm .lss .i64) (.vr 11) (.cn (.int .i64 600)))
      (.ite (.vr 35)
        .nil
        (.exit 0)
      (.blk 1
        (.call (some 41) 22 [(.vr 9), (.vr 7)] []
        (.chk (.un (.ex 0) (.vr 41))
        (.chk (.un (.ex 1) (.vr 41))
        (.chk (.un (.ex 2) (.vr 41))
        (.chk (.un (.ex 3) (.vr 41))
        (.set 12 (.un (.ex 0) (.vr 41))
        (.set 13 (.un (.ex 1) (.vr 41))
        (.set 14 (.un (.ex 2) (.vr 41))
        (.set 15 (.un (.ex 3) (.vr 41))
        (.chk (.bn (.cm .lss .i64) (.vr 12) (.cn (.int .i64 1)))
        (.chk (.gd (.bn (.cm .lss .i64) (.vr 12) (.cn (.int .i64 1))) false (.bn (.cm .gtr .i64) (.vr 12) (.cn (.int .i64 64))))
        (.chk (.gd (.or (.bn (.cm .lss .i64) (.vr 12) (.cn (.int .i64 1))) (.bn (.cm .gtr .i64) (.vr 12) (.cn (.int .i64 64)))) false (.bn (.cm .lss .i64) (.vr 13) (.cn (.int .i64 0))))
        (.chk (.gd (.or (.or (.bn (.cm .lss .i64) (.vr 12) (.cn (.int .i64 1))) (.bn (.cm .gtr .i64) (.vr 12) (.cn (.int .i64 64)))) (.bn (.cm .lss .i64) (.vr 13) (.cn (.int .i64 0)))) false (.bn (.cm .gtr .i64) (.vr 14) (.cn (.int .i64 0))))
        (.chk (.gd (.or (.or (.or (.bn (.cm .lss .i64) (.vr 12) (.cn (.int .i64 1))) (.bn (.cm .gtr .i64) (.vr 12) (.cn (.int .i64 64)))) (.bn (.cm .lss .i64) (.vr 13) (.cn (.int .i64 0)))) (.bn (.cm .gtr .i64) (.vr 14) (.cn (.int .i64 0)))) false (.un (.neg .i64) (.vr 12)))
        (.chk (.gd (.or (.or (.or (.bn (.cm .lss .i64) (.vr 12) (.cn (.int .i64 1))) (.bn (.cm .gtr .i64) (.vr 12) (.cn (.int .i64 64)))) (.bn (.cm .lss .i64) (.vr 13) (.cn (.int .i64 0)))) (.bn (.cm .gtr .i64) (.vr 14) (.cn (.int .i64 0)))) false (.bn (.cm .leq .i64) (.vr 14) (.un (.neg .i64) (.vr 12))))
        (.chk (.gd (.or (.or (.or (.or (.bn (.cm .lss .i64) (.vr 12) (.cn (.int .i64 1))) (.bn (.cm .gtr .i64) (.vr 12) (.cn (.int .i64 64)))) (.bn (.cm .lss .i64) (.vr 13) (.cn (.int .i64 0)))) (.bn (.cm .gtr .i64) (.vr 14) (.cn (.int .i64 0)))) (.bn (.cm .leq .i64) (.vr 14) (.un (.neg .i64) (.vr 12)))) false (.bn (.cm .lss .i64) (.vr 15) (.cn (.int .i64 (-128)))))
        (.chk (.gd (.or (.or (.or (.or (.or (.bn (.cm .lss .i64) (.vr 12) (.cn (.int .i64 1))) (.bn (.cm .gtr .i64) (.vr 12) (.cn (.int .i64 64)))) (.bn (.cm .lss .i64) (.vr 13) (.cn (.int .i64 0)))) (.bn (.cm .gtr .i64) (.vr 14) (.cn (.int .i64 0)))) (.bn (.cm .leq .i64) (.vr 14) (.un (.neg .i64) (.vr 12)))) (.bn (.cm .lss .i64) (.vr 15) (.cn (.int .i64 (-128))))) false (.bn (.cm .gtr .i64) (.vr 15) (.cn (.int .i64 127))))
        (.set 73 (.or (.or (.or (.or (.or (.or (.bn (.cm .lss .i64) (.vr 12) (.cn (.int .i64 1))) (.bn (.cm .gtr .i64) (.vr 12) (.cn (.int .i64 64)))) (.bn (.cm .lss .i64) (.vr 13) (.cn (.int .i64 0)))) (.bn (.cm .gtr .i64) (.vr 14) (.cn (.int .i64 0)))) (.bn (.cm .leq .i64) (.vr 14) (.un (.neg .i64) (.vr 12)))) (.bn (.cm .lss .i64) (.vr 15) (.cn (.int .i64 (-128))))) (.bn (.cm .gtr .i64) (.vr 15) (.cn (.int .i64 127))))
        (.ite (.vr 73)
          (.set 6 (.cn (.bool false))
          .ret)
          .nil
        (.call (some 77) 19 [(.vr 9), (.vr 7), (.vr 8)] []
        .nil))))))))))))))))))))
      (.chk (.bn (.ar .add .i64) (.vr 11) (.cn (.int .i64 1)))
      (.set 11 (.bn (.ar .add .i64) (.vr 11) (.cn (.int .i64 1)))
      .nil)))))))
  (.call (some 81) 22 [(.vr 9), (.vr 7)] []
  (.chk (.un (.ex 0) (.vr 81))
  (.chk (.un (.ex 1) (.vr 81))
  (.chk (.un (.ex 2) (.vr 81))
  (.chk (.un (.ex 3) (.vr 81))
  (.set 19 (.un (.ex 3) (.vr 81))
  (.chk (.bn (.cm .gtr .i64) (.vr 8) (.cn (.int .i64 0)))
  (.chk (.bn (.cm .gtr .i64) (.vr 19) (.cn (.int .i64 0)))
  (.set 91 (.bn (.eqb false) (.bn (.cm .gtr .i64) (.vr 8) (.cn (.int .i64 0))) (.bn (.cm .gtr .i64) (.vr 19) (.cn (.int .i64 0))))
  (.chk (.gd (.vr 91) true (.bn (.cm .lss .i64) (.vr 8) (.cn (.int .i64 (-1)))))
  (.chk (.gd (.vr 91) true (.bn (.cm .lss .i64) (.vr 19) (.cn (.int .i64 0))))
  (.chk (.and (.vr 91) (.bn (.eqb false) (.bn (.cm .lss .i64) (.vr 8) (.cn (.int .i64 (-1)))) (.bn (.cm .lss .i64) (.vr 19) (.cn (.int .i64 0)))))
  (.set 98 (.and (.vr 91) (.bn (.eqb false) (.bn (.cm .lss .i64) (.vr 8) (.cn (.int .i64 (-1)))) (.bn (.cm .lss .i64) (.vr 19) (.cn (.int .i64 0)))))
  (.ifg (.vr 98) true
    (.call (some 99) 10 [] []
    .nil)
    (.set 99 (.cn undef)
    .nil)
  (.chk (.pk (.vr 98) (.vr 99) (.cn (.bool false)))
  (.set 6 (.pk (.vr 98) (.vr 99) (.cn (.bool false)))
  .ret))))))))))))))))))))))))))))))))
def fc6 : Fc := ⟨101, s6, [(.vr 6)]⟩
theorem c6 : compF Try.prog 6 = some fc6 := by kernel_rfl

/-- kinora/kinoralaw26.ModelPuts · parameters 6 · 0:t 1:l 2:w 3:h 4:depth 5:b 13:k 14:x 15:y 16:d 17:p 18:o 19:e 20:c 21:q 22:f -/
def s7 : S :=
  (.set 12 (.cn (.bool false))
  (.chk (.un .ln (.vr 1))
  (.chk (.gd (.bn (.cm .gtr .i64) (.un .ln (.vr 1)) (.cn (.int .i64 1000))) false (.un .ln (.vr 5)))
  (.set 30 (.or (.bn (.cm .gtr .i64) (.un .ln (.vr 1)) (.cn (.int .i64 1000))) (.bn (.cm .gtr .i64) (.un .ln (.vr 5)) (.cn (.int .i64 1000))))
  (.ite (.vr 30)
    (.set 12 (.cn (.bool true))
    .ret)
    .nil
  (.call (some 32) 16 [(.vr 0)] []
  (.set 13 (.vr 32)
  (.call (some 34) 17 [(.vr 13), (.cn (.int .i64 16))] []
  (.chk (.bn (.ar .add .i64) (.cn (.int .i64 1)) (.vr 34))
  (.call (some 37) 17 [(.vr 13), (.cn (.int .i64 16))] []
  (.chk (.bn (.ar .add .i64) (.cn (.int .i64 1)) (.vr 37))
  (.call (some 40) 23 [(.vr 13)] []
  (.set 14 (.bn (.ar .add .i64) (.cn (.int .i64 1)) (.vr 34))
  (.set 15 (.bn (.ar .add .i64) (.cn (.int .i64 1)) (.vr 37))
  (.set 16 (.vr 40)
  (.call (some 45) 24 [(.vr 13), (.vr 14), (.vr 15), (.vr 16)] []
  (.set 17 (.vr 45)
  (.op (some 47) (.box 55 (.tmp 46)) 53 [(46, (.cn (.agg #[(.slice none 0 0), (.int .i64 0)])))] []
  (.set 18 (.vr 47)
  (.call (some 53) 25 [(.vr 18), (.vr 17), (.vr 14), (.vr 15), (.vr 16)] []
  (.set 19 (.vr 53)
  (.call (some 55) 26 [(.vr 18)] []
  (.set 20 (.vr 55)
  (.call (some 58) 28 [(.vr 20)] []
  (.call (some 62) 27 [(.vr 58), (.vr 14), (.vr 15), (.vr 16)] []
  (.chk (.un (.ex 0) (.vr 62))
  (.chk (.un (.ex 1) (.vr 62))
  (.set 21 (.un (.ex 0) (.vr 62))
  (.set 22 (.un (.ex 1) (.vr 62))
  (.call (some 69) 29 [(.vr 17), (.vr 14), (.vr 15), (.vr 16)] []
  (.set 70 (.vr 69)
  (.ifg (.vr 70) true
    (.call (some 75) 29 [(.vr 1), (.vr 2), (.vr 3), (.vr 4)] []
    .nil)
    (.set 75 (.cn undef)
    .nil)
  (.chk (.pk (.vr 70) (.vr 75) (.cn (.bool false)))
  (.set 77 (.pk (.vr 70) (.vr 75) (.cn (.bool false)))
  (.chk (.gd (.vr 77) true (.bn (.cm .eql .i64) (.vr 19) (.cn (.int .i64 0))))
  (.chk (.and (.vr 77) (.bn (.cm .eql .i64) (.vr 19) (.cn (.int .i64 0))))
  (.set 81 (.and (.vr 77) (.bn (.cm .eql .i64) (.vr 19) (.cn (.int .i64 0))))
  (.chk (.gd (.vr 81) true (.bn (.cm .eql .i64) (.vr 22) (.cn (.int .i64 0))))
  (.chk (.and (.vr 81) (.bn (.cm .eql .i64) (.vr 22) (.cn (.int .i64 0))))
  (.set 85 (.and (.vr 81) (.bn (.cm .eql .i64) (.vr 22) (.cn (.int .i64 0))))
  (.ifg (.vr 85) true
    (.call (some 88) 30 [(.vr 21), (.vr 17)] []
    .nil)
    (.set 88 (.cn undef)
    .nil)
  (.chk (.pk (.vr 85) (.vr 88) (.cn (.bool false)))
  (.set 90 (.pk (.vr 85) (.vr 88) (.cn (.bool false)))
  (.ifg (.vr 90) true
    (.call (some 95) 31 [(.vr 20), (.vr 14), (.vr 15), (.vr 16)] []
    .nil)
    (.set 95 (.cn undef)
    .nil)
  (.chk (.pk (.vr 90) (.vr 95) (.cn (.bool false)))
  (.set 97 (.pk (.vr 90) (.vr 95) (.cn (.bool false)))
  (.chk (.gd (.vr 97) true (.un .ln (.vr 20)))
  (.chk (.gd (.vr 97) true (.sl 1 true (.vr 20) (.cn (.int .i64 0)) (.bn (.dv false .i64) (.un .ln (.vr 20)) (.cn (.int .i64 2)))))
  (.ifg (.vr 97) true
    (.call (some 106) 31 [(.sl 1 true (.vr 20) (.cn (.int .i64 0)) (.bn (.dv false .i64) (.un .ln (.vr 20)) (.cn (.int .i64 2)))), (.vr 14), (.vr 15), (.vr 16)] []
    .nil)
    (.set 106 (.cn undef)
    .nil)
  (.chk (.pk (.vr 97) (.vr 106) (.cn (.bool false)))
  (.set 108 (.pk (.vr 97) (.vr 106) (.cn (.bool false)))
  (.ifg (.vr 108) true
    (.call (some 113) 31 [(.vr 20), (.vr 15), (.vr 14), (.vr 16)] []
    .nil)
    (.set 113 (.cn undef)
    .nil)
  (.chk (.pk (.vr 108) (.vr 113) (.cn (.bool false)))
  (.set 115 (.pk (.vr 108) (.vr 113) (.cn (.bool false)))
  (.ifg (.vr 115) true
    (.call (some 120) 31 [(.vr 5), (.vr 2), (.vr 3), (.vr 4)] []
    .nil)
    (.set 120 (.cn undef)
    .nil)
  (.chk (.pk (.vr 115) (.vr 120) (.cn (.bool false)))
  (.set 122 (.pk (.vr 115) (.vr 120) (.cn (.bool false)))
  (.ifg (.vr 122) true
    (.call (some 127) 31 [(.vr 5), (.vr 14), (.vr 15), (.vr 16)] []
    .nil)
    (.set 127 (.cn undef)
    .nil)
  (.chk (.pk (.vr 122) (.vr 127) (.cn (.bool false)))
  (.set 129 (.pk (.vr 122) (.vr 127) (.cn (.bool false)))
  (.ifg (.vr 129) true
    (.call (some 130) 10 [] []
    .nil)
    (.set 130 (.cn undef)
    .nil)
  (.chk (.pk (.vr 129) (.vr 130) (.cn (.bool false)))
  (.set 12 (.pk (.vr 129) (.vr 130) (.cn (.bool false)))
  .ret)))))))))))))))))))))))))))))))))))))))))))))))))))))))))))))))
def fc7 : Fc := ⟨132, s7, [(.vr 12)]⟩
theorem c7 : compF Try.prog 7 = some fc7 := by kernel_rfl

/-- kinora/kinoraref24.Wrap · parameters 2 · 0:v 1:depth -/
def s8 : S :=
  (.set 4 (.cn (.int .i64 0))
  (.call (some 6) 32 [(.vr 1)] []
  (.chk (.un .not (.vr 6))
  (.set 7 (.un .not (.vr 6))
  (.ite (.vr 7)
    (.set 4 (.cn (.int .i64 0))
    .ret)
    .nil
  (.chk (.un (.cv .u64) (.vr 1))
  (.chk (.bn (.sh true .i64) (.cn (.int .i64 1)) (.un (.cv .u64) (.vr 1)))
  (.chk (.bn (.bt .and .i64) (.vr 0) (.bn (.ar .sub .i64) (.bn (.sh true .i64) (.cn (.int .i64 1)) (.un (.cv .u64) (.vr 1))) (.cn (.int .i64 1))))
  (.set 4 (.bn (.bt .and .i64) (.vr 0) (.bn (.ar .sub .i64) (.bn (.sh true .i64) (.cn (.int .i64 1)) (.un (.cv .u64) (.vr 1))) (.cn (.int .i64 1))))
  .ret)))))))))
def fc8 : Fc := ⟨14, s8, [(.vr 4)]⟩
theorem c8 : compF Try.prog 8 = some fc8 := by kernel_rfl

/-- kinora/kinoralaw26.levels · parameters 6 · 0:g 1:w 2:n 3:a 4:b 5:depth 13:c 14:x 15:d 16:y -/
def s9 : S :=
  (.set 12 (.cn (.bool false))
  (.call (some 23) 12 [(.vr 1), (.vr 2), (.vr 3), (.vr 4), (.vr 5)] []
  (.chk (.un (.ex 0) (.vr 23))
  (.chk (.un (.ex 1) (.vr 23))
  (.set 13 (.un (.ex 0) (.vr 23))
  (.set 14 (.un (.ex 1) (.vr 23))
  (.call (some 32) 33 [(.vr 1), (.vr 2), (.vr 3), (.vr 4), (.vr 5)] []
  (.chk (.un (.ex 0) (.vr 32))
  (.chk (.un (.ex 1) (.vr 32))
  (.set 15 (.un (.ex 0) (.vr 32))
  (.set 16 (.un (.ex 1) (.vr 32))
  (.call (some 37) 34 [(.vr 0), (.vr 5)] []
  (.call (some 40) 35 [(.vr 0), (.vr 5)] []
  (.chk (.bn (.cm .eql .i64) (.vr 37) (.vr 40))
  (.set 42 (.bn (.cm .eql .i64) (.vr 37) (.vr 40))
  (.chk (.gd (.vr 42) true (.bn (.cm .eql .i64) (.vr 13) (.vr 15)))
  (.chk (.and (.vr 42) (.bn (.cm .eql .i64) (.vr 13) (.vr 15)))
  (.set 47 (.and (.vr 42) (.bn (.cm .eql .i64) (.vr 13) (.vr 15)))
  (.chk (.gd (.vr 47) true (.bn (.eqb false) (.vr 14) (.vr 16)))
  (.chk (.and (.vr 47) (.bn (.eqb false) (.vr 14) (.vr 16)))
  (.set 52 (.and (.vr 47) (.bn (.eqb false) (.vr 14) (.vr 16)))
  (.ifg (.vr 52) true
    (.call (some 58) 13 [(.vr 1), (.vr 2), (.vr 3), (.vr 4), (.vr 5)] []
    .nil)
    (.set 58 (.cn undef)
    .nil)
  (.ifg (.vr 52) true
    (.call (some 64) 36 [(.vr 1), (.vr 2), (.vr 3), (.vr 4), (.vr 5)] []
    .nil)
    (.set 64 (.cn undef)
    .nil)
  (.chk (.gd (.vr 52) true (.bn (.cm .eql .i64) (.vr 58) (.vr 64)))
  (.chk (.and (.vr 52) (.bn (.cm .eql .i64) (.vr 58) (.vr 64)))
  (.set 12 (.and (.vr 52) (.bn (.cm .eql .i64) (.vr 58) (.vr 64)))
  .ret))))))))))))))))))))))))))
def fc9 : Fc := ⟨67, s9, [(.vr 12)]⟩
theorem c9 : compF Try.prog 9 = some fc9 := by kernel_rfl

/-- kinora/kinoralaw26.known · parameters 0 · 1:c 2:turned 3:m 4:e 5:n 6:a 7:b 8:x -/
def s10 : S :=
  (.set 0 (.cn (.bool false))
  (.call (some 10) 12 [(.cn (.int .i64 0)), (.cn (.int .i64 10)), (.cn (.int .i64 0)), (.cn (.int .i64 10)), (.cn (.int .i64 8))] []
  (.chk (.un (.ex 0) (.vr 10))
  (.chk (.un (.ex 1) (.vr 10))
  (.set 1 (.un (.ex 0) (.vr 10))
  (.set 2 (.un (.ex 1) (.vr 10))
  (.call (some 14) 14 [(.cn (.int .i64 8))] []
  (.chk (.un (.ex 0) (.vr 14))
  (.chk (.un (.ex 1) (.vr 14))
  (.set 3 (.un (.ex 0) (.vr 14))
  (.set 4 (.un (.ex 1) (.vr 14))
  (.chk (.bn (.cm .neq .i64) (.vr 4) (.cn (.int .i64 0)))
  (.chk (.gd (.bn (.cm .neq .i64) (.vr 4) (.cn (.int .i64 0))) false (.un (.pnil false) (.vr 3)))
  (.set 22 (.or (.bn (.cm .neq .i64) (.vr 4) (.cn (.int .i64 0))) (.un (.pnil false) (.vr 3)))
  (.ite (.vr 22)
    (.set 0 (.cn (.bool false))
    .ret)
    .nil
  (.call (some 24) 19 [(.vr 3), (.cn (.int .i64 3)), (.cn (.int .i64 (-2)))] []
  (.call (some 27) 22 [(.vr 3), (.cn (.int .i64 3))] []
  (.chk (.un (.ex 0) (.vr 27))
  (.chk (.un (.ex 1) (.vr 27))
  (.chk (.un (.ex 2) (.vr 27))
  (.chk (.un (.ex 3) (.vr 27))
  (.set 5 (.un (.ex 0) (.vr 27))
  (.set 6 (.un (.ex 1) (.vr 27))
  (.set 7 (.un (.ex 2) (.vr 27))
  (.set 8 (.un (.ex 3) (.vr 27))
  (.call (some 32) 34 [(.cn (.int .i64 (-7))), (.cn (.int .i64 8))] []
  (.chk (.bn (.cm .eql .i64) (.vr 32) (.cn (.int .i64 (-3))))
  (.set 34 (.bn (.cm .eql .i64) (.vr 32) (.cn (.int .i64 (-3))))
  (.ifg (.vr 34) true
    (.call (some 35) 34 [(.cn (.int .i64 2)), (.cn (.int .i64 8))] []
    .nil)
    (.set 35 (.cn undef)
    .nil)
  (.chk (.gd (.vr 34) true (.bn (.cm .eql .i64) (.vr 35) (.cn (.int .i64 1))))
  (.chk (.and (.vr 34) (.bn (.cm .eql .i64) (.vr 35) (.cn (.int .i64 1))))
  (.set 38 (.and (.vr 34) (.bn (.cm .eql .i64) (.vr 35) (.cn (.int .i64 1))))
  (.chk (.gd (.vr 38) true (.bn (.cm .eql .i64) (.vr 1) (.cn (.int .i64 27))))
  (.chk (.and (.vr 38) (.bn (.cm .eql .i64) (.vr 1) (.cn (.int .i64 27))))
  (.set 42 (.and (.vr 38) (.bn (.cm .eql .i64) (.vr 1) (.cn (.int .i64 27))))
  (.chk (.gd (.vr 42) true (.un .not (.vr 2)))
  (.chk (.and (.vr 42) (.un .not (.vr 2)))
  (.set 46 (.and (.vr 42) (.un .not (.vr 2)))
  (.ifg (.vr 46) true
    (.call (some 47) 13 [(.cn (.int .i64 0)), (.cn (.int .i64 10)), (.cn (.int .i64 0)), (.cn (.int .i64 10)), (.cn (.int .i64 8))] []
    .nil)
    (.set 47 (.cn undef)
    .nil)
  (.chk (.gd (.vr 46) true (.bn (.cm .eql .i64) (.vr 47) (.cn (.int .i64 3))))
  (.chk (.and (.vr 46) (.bn (.cm .eql .i64) (.vr 47) (.cn (.int .i64 3))))
  (.set 50 (.and (.vr 46) (.bn (.cm .eql .i64) (.vr 47) (.cn (.int .i64 3))))
  (.chk (.gd (.vr 50) true (.bn (.cm .eql .i64) (.vr 5) (.cn (.int .i64 2))))
  (.chk (.and (.vr 50) (.bn (.cm .eql .i64) (.vr 5) (.cn (.int .i64 2))))
  (.set 54 (.and (.vr 50) (.bn (.cm .eql .i64) (.vr 5) (.cn (.int .i64 2))))
  (.chk (.gd (.vr 54) true (.bn (.cm .eql .i64) (.vr 6) (.cn (.int .i64 6))))
  (.chk (.and (.vr 54) (.bn (.cm .eql .i64) (.vr 6) (.cn (.int .i64 6))))
  (.set 58 (.and (.vr 54) (.bn (.cm .eql .i64) (.vr 6) (.cn (.int .i64 6))))
  (.chk (.gd (.vr 58) true (.bn (.cm .eql .i64) (.vr 7) (.cn (.int .i64 0))))
  (.chk (.and (.vr 58) (.bn (.cm .eql .i64) (.vr 7) (.cn (.int .i64 0))))
  (.set 62 (.and (.vr 58) (.bn (.cm .eql .i64) (.vr 7) (.cn (.int .i64 0))))
  (.chk (.gd (.vr 62) true (.bn (.cm .eql .i64) (.vr 8) (.cn (.int .i64 (-1)))))
  (.chk (.and (.vr 62) (.bn (.cm .eql .i64) (.vr 8) (.cn (.int .i64 (-1)))))
  (.set 66 (.and (.vr 62) (.bn (.cm .eql .i64) (.vr 8) (.cn (.int .i64 (-1)))))
  (.ifg (.vr 66) true
    (.call (some 68) 37 [(.vr 3), (.cn (.int .i64 3))] []
    .nil)
    (.set 68 (.cn undef)
    .nil)
  (.chk (.gd (.vr 66) true (.bn (.cm .eql .i64) (.vr 68) (.cn (.int .i64 2))))
  (.chk (.and (.vr 66) (.bn (.cm .eql .i64) (.vr 68) (.cn (.int .i64 2))))
  (.set 71 (.and (.vr 66) (.bn (.cm .eql .i64) (.vr 68) (.cn (.int .i64 2))))
  (.ifg (.vr 71) true
    (.call (some 73) 38 [(.vr 3), (.cn (.int .i64 3)), (.cn (.int .i64 0)), (.cn (.bool false))] []
    .nil)
    (.set 73 (.cn undef)
    .nil)
  (.chk (.gd (.vr 71) true (.bn (.cm .eql .i64) (.vr 73) (.cn (.int .i64 0))))
  (.chk (.and (.vr 71) (.bn (.cm .eql .i64) (.vr 73) (.cn (.int .i64 0))))
  (.set 76 (.and (.vr 71) (.bn (.cm .eql .i64) (.vr 73) (.cn (.int .i64 0))))
  (.ifg (.vr 76) true
    (.call (some 78) 38 [(.vr 3), (.cn (.int .i64 3)), (.cn (.int .i64 9)), (.cn (.bool true))] []
    .nil)
    (.set 78 (.cn undef)
    .nil)
  (.chk (.gd (.vr 76) true (.bn (.cm .eql .i64) (.vr 78) (.cn (.int .i64 10))))
  (.chk (.and (.vr 76) (.bn (.cm .eql .i64) (.vr 78) (.cn (.int .i64 10))))
  (.set 0 (.and (.vr 76) (.bn (.cm .eql .i64) (.vr 78) (.cn (.int .i64 10))))
  .ret))))))))))))))))))))))))))))))))))))))))))))))))))))))))))))))))))
def fc10 : Fc := ⟨81, s10, [(.vr 0)]⟩
theorem c10 : compF Try.prog 10 = some fc10 := by kernel_rfl

/-- kinora/kinorakeep2.Within · parameters 3 · 0:n 1:lo 2:hi -/
def s11 : S :=
  (.set 6 (.cn (.int .i64 0))
  (.chk (.bn (.cm .geq .i64) (.vr 0) (.vr 1))
  (.chk (.gd (.bn (.cm .geq .i64) (.vr 0) (.vr 1)) true (.bn (.cm .leq .i64) (.vr 0) (.vr 2)))
  (.set 14 (.and (.bn (.cm .geq .i64) (.vr 0) (.vr 1)) (.bn (.cm .leq .i64) (.vr 0) (.vr 2)))
  (.ite (.vr 14)
    (.set 6 (.vr 0)
    .ret)
    .nil
  (.chk (.bn (.ar .sub .i64) (.vr 2) (.vr 1))
  (.chk (.bn (.dv true .i64) (.vr 0) (.bn (.ar .add .i64) (.bn (.ar .sub .i64) (.vr 2) (.vr 1)) (.cn (.int .i64 1))))
  (.set 0 (.bn (.dv true .i64) (.vr 0) (.bn (.ar .add .i64) (.bn (.ar .sub .i64) (.vr 2) (.vr 1)) (.cn (.int .i64 1))))
  (.chk (.bn (.cm .lss .i64) (.vr 0) (.cn (.int .i64 0)))
  (.set 23 (.bn (.cm .lss .i64) (.vr 0) (.cn (.int .i64 0)))
  (.ite (.vr 23)
    (.chk (.bn (.ar .add .i64) (.vr 0) (.vr 2))
    (.chk (.bn (.ar .sub .i64) (.bn (.ar .add .i64) (.vr 0) (.vr 2)) (.vr 1))
    (.set 0 (.bn (.ar .add .i64) (.bn (.ar .sub .i64) (.bn (.ar .add .i64) (.vr 0) (.vr 2)) (.vr 1)) (.cn (.int .i64 1)))
    .nil)))
    .nil
  (.chk (.bn (.ar .add .i64) (.vr 1) (.vr 0))
  (.set 6 (.bn (.ar .add .i64) (.vr 1) (.vr 0))
  .ret)))))))))))))
def fc11 : Fc := ⟨33, s11, [(.vr 6)]⟩
theorem c11 : compF Try.prog 11 = some fc11 := by kernel_rfl

/-- kinora/model.Context · parameters 5 · 0:west 1:north 2:northwest 3:northeast 4:depth 12:l 13:n -/
def s12 : S :=
  (.set 10 (.cn (.int .i64 0))
  (.set 11 (.cn (.bool false))
  (.call (some 19) 39 [(.vr 0), (.vr 1), (.vr 2), (.vr 3), (.vr 4)] []
  (.op (some 12) (.alloc 68) 0 [] []
  (.st 3 (.vr 12) (.vr 19) []
  (.chk (.bn (.aa 3 1) (.vr 12) (.cn (.int .i64 0)))
  (.chk (.ld (.bn (.aa 3 1) (.vr 12) (.cn (.int .i64 0))))
  (.chk (.bn (.ar .mul .i64) (.cn (.int .i64 81)) (.ld (.bn (.aa 3 1) (.vr 12) (.cn (.int .i64 0)))))
  (.chk (.bn (.aa 3 1) (.vr 12) (.cn (.int .i64 1)))
  (.chk (.ld (.bn (.aa 3 1) (.vr 12) (.cn (.int .i64 1))))
  (.chk (.bn (.ar .mul .i64) (.cn (.int .i64 9)) (.ld (.bn (.aa 3 1) (.vr 12) (.cn (.int .i64 1)))))
  (.chk (.bn (.aa 3 1) (.vr 12) (.cn (.int .i64 2)))
  (.chk (.ld (.bn (.aa 3 1) (.vr 12) (.cn (.int .i64 2))))
  (.chk (.bn (.ar .add .i64) (.bn (.ar .add .i64) (.bn (.ar .mul .i64) (.cn (.int .i64 81)) (.ld (.bn (.aa 3 1) (.vr 12) (.cn (.int .i64 0))))) (.bn (.ar .mul .i64) (.cn (.int .i64 9)) (.ld (.bn (.aa 3 1) (.vr 12) (.cn (.int .i64 1)))))) (.ld (.bn (.aa 3 1) (.vr 12) (.cn (.int .i64 2)))))
  (.set 13 (.bn (.ar .add .i64) (.bn (.ar .add .i64) (.bn (.ar .mul .i64) (.cn (.int .i64 81)) (.ld (.bn (.aa 3 1) (.vr 12) (.cn (.int .i64 0))))) (.bn (.ar .mul .i64) (.cn (.int .i64 9)) (.ld (.bn (.aa 3 1) (.vr 12) (.cn (.int .i64 1)))))) (.ld (.bn (.aa 3 1) (.vr 12) (.cn (.int .i64 2)))))
  (.call (some 31) 40 [(.vr 13)] []
  (.chk (.bn (.cm .lss .i64) (.vr 13) (.cn (.int .i64 0)))
  (.set 10 (.vr 31)
  (.set 11 (.bn (.cm .lss .i64) (.vr 13) (.cn (.int .i64 0)))
  .ret)))))))))))))))))))
def fc12 : Fc := ⟨34, s12, [(.vr 10), (.vr 11)]⟩
theorem c12 : compF Try.prog 12 = some fc12 := by kernel_rfl

/-- kinora/model.Class · parameters 5 · 0:west 1:north 2:northwest 3:northeast 4:depth 11:l -/
def s13 : S :=
  (.set 10 (.cn (.int .i64 0))
  (.call (some 17) 39 [(.vr 0), (.vr 1), (.vr 2), (.vr 3), (.vr 4)] []
  (.op (some 11) (.alloc 68) 0 [] []
  (.st 3 (.vr 11) (.vr 17) []
  (.draw
  (.chk (.bn (.aa 3 1) (.vr 11) (.cn (.int .i64 0)))
  (.chk (.ld (.bn (.aa 3 1) (.vr 11) (.cn (.int .i64 0))))
  (.set 19 (.ld (.bn (.aa 3 1) (.vr 11) (.cn (.int .i64 0))))
  (.chk (.bn (.aa 3 1) (.vr 11) (.cn (.int .i64 1)))
  (.chk (.ld (.bn (.aa 3 1) (.vr 11) (.cn (.int .i64 1))))
  (.set 22 (.ld (.bn (.aa 3 1) (.vr 11) (.cn (.int .i64 1))))
  (.chk (.bn (.aa 3 1) (.vr 11) (.cn (.int .i64 2)))
  (.chk (.ld (.bn (.aa 3 1) (.vr 11) (.cn (.int .i64 2))))
  (.set 26 (.ld (.bn (.aa 3 1) (.vr 11) (.cn (.int .i64 2))))
  (.call (some 20) 40 [(.vr 19)] [⟨8, (.bn (.aa 3 1) (.vr 11) (.cn (.int .i64 2))), 1, none⟩, ⟨4, (.bn (.aa 3 1) (.vr 11) (.cn (.int .i64 1))), 1, none⟩]
  (.call (some 23) 40 [(.vr 22)] [⟨8, (.bn (.aa 3 1) (.vr 11) (.cn (.int .i64 2))), 1, none⟩]
  (.chk (.bn (.ar .add .i64) (.vr 20) (.vr 23))
  (.call (some 27) 40 [(.vr 26)] []
  (.chk (.bn (.ar .add .i64) (.bn (.ar .add .i64) (.vr 20) (.vr 23)) (.vr 27))
  (.set 10 (.bn (.ar .add .i64) (.bn (.ar .add .i64) (.vr 20) (.vr 23)) (.vr 27))
  .ret))))))))))))))))))))
def fc13 : Fc := ⟨29, s13, [(.vr 10)]⟩
theorem c13 : compF Try.prog 13 = some fc13 := by kernel_rfl

/-- kinora/model.New · parameters 1 · 0:depth 4:m 5:i -/
def s14 : S :=
  (.set 2 (.cn (.pointer none))
  (.set 3 (.cn (.int .i64 0))
  (.call (some 7) 41 [(.vr 0)] []
  (.chk (.un .not (.vr 7))
  (.set 8 (.un .not (.vr 7))
  (.ite (.vr 8)
    (.set 2 (.cn (.pointer none))
    (.set 3 (.cn (.int .i64 1))
    .ret))
    .nil
  (.chk (.bd 0 1 (.vr 0) (.cn (zagg 1461)))
  (.op (some 11) (.box 74 (.tmp 10)) 34 [(10, (.bd 0 1 (.vr 0) (.cn (zagg 1461))))] []
  (.set 4 (.vr 11)
  (.set 12 (.cn (.int .i64 0))
  (.blk 0
    (.loop
      (.chk (.bn (.cm .lss .i64) (.vr 12) (.cn (.int .i64 365)))
      (.set 13 (.bn (.cm .lss .i64) (.vr 12) (.cn (.int .i64 365)))
      (.ite (.vr 13)
        .nil
        (.exit 0)
      (.blk 1
        (.set 5 (.vr 12)
        (.draw
        (.chk (.bn (.sh true .i64) (.cn (.int .i64 1)) (.vr 0))
        (.chk (.bd 1 1 (.bn (.mx .i64) (.cn (.int .i64 2)) (.bn (.dv false .i64) (.bn (.ar .add .i64) (.bn (.sh true .i64) (.cn (.int .i64 1)) (.vr 0)) (.cn (.int .i64 32))) (.cn (.int .i64 64)))) (.bd 0 1 (.cn (.int .i64 1)) (.cn (.agg #[(.int .i64 0), (.int .i64 0), (.int .i64 0), (.int .i64 0)]))))
        (.chk (.un .nck (.vr 4))
        (.chk (.un (.fa 1) (.un .nck (.vr 4)))
        (.chk (.bn (.aa 365 4) (.un (.fa 1) (.un .nck (.vr 4))) (.vr 5))
        (.st 4 (.bn (.aa 365 4) (.un (.fa 1) (.un .nck (.vr 4))) (.vr 5)) (.bd 1 1 (.bn (.mx .i64) (.cn (.int .i64 2)) (.bn (.dv false .i64) (.bn (.ar .add .i64) (.bn (.sh true .i64) (.cn (.int .i64 1)) (.vr 0)) (.cn (.int .i64 32))) (.cn (.int .i64 64)))) (.bd 0 1 (.cn (.int .i64 1)) (.cn (.agg #[(.int .i64 0), (.int .i64 0), (.int .i64 0), (.int .i64 0)])))) []
        .nil))))))))
      (.chk (.bn (.ar .add .i64) (.vr 12) (.cn (.int .i64 1)))
      (.set 12 (.bn (.ar .add .i64) (.vr 12) (.cn (.int .i64 1)))
      .nil)))))))
  (.set 2 (.vr 4)
  (.set 3 (.cn (.int .i64 0))
  .ret)))))))))))))
def fc14 : Fc := ⟨28, s14, [(.vr 2), (.vr 3)]⟩
theorem c14 : compF Try.prog 14 = some fc14 := by kernel_rfl

/-- kinora/kinoraref27.NewModel · parameters 1 · 0:depth 4:m 5:i -/
def s15 : S :=
  (.set 2 (.cn (.pointer none))
  (.set 3 (.cn (.int .i64 0))
  (.call (some 7) 32 [(.vr 0)] []
  (.chk (.un .not (.vr 7))
  (.set 8 (.un .not (.vr 7))
  (.ite (.vr 8)
    (.set 2 (.cn (.pointer none))
    (.set 3 (.cn (.int .i64 1))
    .ret))
    .nil
  (.chk (.bd 0 1 (.vr 0) (.cn (zagg 1461)))
  (.op (some 11) (.box 77 (.tmp 10)) 38 [(10, (.bd 0 1 (.vr 0) (.cn (zagg 1461))))] []
  (.set 4 (.vr 11)
  (.set 5 (.cn (.int .i64 0))
  (.blk 0
    (.loop
      (.chk (.bn (.cm .lss .i64) (.vr 5) (.cn (.int .i64 365)))
      (.set 13 (.bn (.cm .lss .i64) (.vr 5) (.cn (.int .i64 365)))
      (.ite (.vr 13)
        .nil
        (.exit 0)
      (.blk 1
        (.chk (.un (.cv .u64) (.vr 0))
        (.chk (.bn (.sh true .i64) (.cn (.int .i64 1)) (.un (.cv .u64) (.vr 0)))
        (.chk (.bd 3 1 (.cn (.int .i64 0)) (.bd 2 1 (.cn (.int .i64 0)) (.bd 1 1 (.bn (.mx .i64) (.cn (.int .i64 2)) (.bn (.dv false .i64) (.bn (.ar .add .i64) (.bn (.sh true .i64) (.cn (.int .i64 1)) (.un (.cv .u64) (.vr 0))) (.cn (.int .i64 32))) (.cn (.int .i64 64)))) (.bd 0 1 (.cn (.int .i64 1)) (.cn (.agg #[(.int .i64 0), (.int .i64 0), (.int .i64 0), (.int .i64 0)]))))))
        (.chk (.un .nck (.vr 4))
        (.chk (.un (.fa 1) (.un .nck (.vr 4)))
        (.chk (.bn (.aa 365 4) (.un (.fa 1) (.un .nck (.vr 4))) (.vr 5))
        (.st 4 (.bn (.aa 365 4) (.un (.fa 1) (.un .nck (.vr 4))) (.vr 5)) (.bd 3 1 (.cn (.int .i64 0)) (.bd 2 1 (.cn (.int .i64 0)) (.bd 1 1 (.bn (.mx .i64) (.cn (.int .i64 2)) (.bn (.dv false .i64) (.bn (.ar .add .i64) (.bn (.sh true .i64) (.cn (.int .i64 1)) (.un (.cv .u64) (.vr 0))) (.cn (.int .i64 32))) (.cn (.int .i64 64)))) (.bd 0 1 (.cn (.int .i64 1)) (.cn (.agg #[(.int .i64 0), (.int .i64 0), (.int .i64 0), (.int .i64 0)])))))) []
        .nil)))))))
      (.chk (.bn (.ar .add .i64) (.vr 5) (.cn (.int .i64 1)))
      (.set 5 (.bn (.ar .add .i64) (.vr 5) (.cn (.int .i64 1)))
      .nil)))))))
  (.set 2 (.vr 4)
  (.set 3 (.cn (.int .i64 0))
  .ret)))))))))))))
def fc15 : Fc := ⟨29, s15, [(.vr 2), (.vr 3)]⟩
theorem c15 : compF Try.prog 15 = some fc15 := by kernel_rfl

/-- kinora/kinorakeep2.New · parameters 1 · 0:l -/
def s16 : S :=
  (.set 2 (.cn (.pointer none))
  (.chk (.bd 0 1 (.vr 0) (.cn (.agg #[(.slice none 0 0), (.int .i64 0)])))
  (.op (some 5) (.box 79 (.tmp 4)) 41 [(4, (.bd 0 1 (.vr 0) (.cn (.agg #[(.slice none 0 0), (.int .i64 0)]))))] []
  (.set 2 (.vr 5)
  .ret))))
def fc16 : Fc := ⟨6, s16, [(.vr 2)]⟩
theorem c16 : compF Try.prog 16 = some fc16 := by kernel_rfl

/-- (*kinora/kinorakeep2.Tape).Next · parameters 2 · 0:t 1:n -/
def s17 : S :=
  (.set 4 (.cn (.int .i64 0))
  (.draw
  (.chk (.un .nck (.vr 0))
  (.chk (.un (.fa 1) (.un .nck (.vr 0)))
  (.chk (.ld (.un (.fa 1) (.un .nck (.vr 0))))
  (.chk (.un .nck (.vr 0))
  (.chk (.un (.fa 0) (.un .nck (.vr 0)))
  (.chk (.ld (.un (.fa 0) (.un .nck (.vr 0))))
  (.chk (.un .ln (.ld (.un (.fa 0) (.un .nck (.vr 0)))))
  (.chk (.bn (.cm .geq .i64) (.ld (.un (.fa 1) (.un .nck (.vr 0)))) (.un .ln (.ld (.un (.fa 0) (.un .nck (.vr 0))))))
  (.chk (.gd (.bn (.cm .geq .i64) (.ld (.un (.fa 1) (.un .nck (.vr 0)))) (.un .ln (.ld (.un (.fa 0) (.un .nck (.vr 0)))))) false (.bn (.cm .lss .i64) (.vr 1) (.cn (.int .i64 1))))
  (.set 18 (.or (.bn (.cm .geq .i64) (.ld (.un (.fa 1) (.un .nck (.vr 0)))) (.un .ln (.ld (.un (.fa 0) (.un .nck (.vr 0)))))) (.bn (.cm .lss .i64) (.vr 1) (.cn (.int .i64 1))))
  (.ite (.vr 18)
    (.set 4 (.cn (.int .i64 0))
    .ret)
    .nil
  (.chk (.un .nck (.vr 0))
  (.chk (.un (.fa 1) (.un .nck (.vr 0)))
  (.chk (.ld (.un (.fa 1) (.un .nck (.vr 0))))
  (.set 22 (.ld (.un (.fa 1) (.un .nck (.vr 0))))
  (.chk (.bn (.ar .add .i64) (.vr 22) (.cn (.int .i64 1)))
  (.chk (.un .nck (.vr 0))
  (.chk (.un (.fa 1) (.un .nck (.vr 0)))
  (.st 1 (.un (.fa 1) (.un .nck (.vr 0))) (.bn (.ar .add .i64) (.vr 22) (.cn (.int .i64 1))) []
  (.draw
  (.chk (.un .nck (.vr 0))
  (.chk (.un (.fa 0) (.un .nck (.vr 0)))
  (.chk (.ld (.un (.fa 0) (.un .nck (.vr 0))))
  (.set 29 (.ld (.un (.fa 0) (.un .nck (.vr 0))))
  (.chk (.un .nck (.vr 0))
  (.chk (.un (.fa 1) (.un .nck (.vr 0)))
  (.chk (.ld (.un (.fa 1) (.un .nck (.vr 0))))
  (.set 33 (.ld (.un (.fa 1) (.un .nck (.vr 0))))
  (.chk (.bn (.ar .sub .i64) (.vr 33) (.cn (.int .i64 1)))
  (.chk (.bn (.ia 1) (.vr 29) (.bn (.ar .sub .i64) (.vr 33) (.cn (.int .i64 1))))
  (.chk (.ld (.bn (.ia 1) (.vr 29) (.bn (.ar .sub .i64) (.vr 33) (.cn (.int .i64 1)))))
  (.set 36 (.ld (.bn (.ia 1) (.vr 29) (.bn (.ar .sub .i64) (.vr 33) (.cn (.int .i64 1)))))
  (.call (some 37) 11 [(.vr 36), (.cn (.int .i64 0)), (.cn (.int .i64 1073741824))] []
  (.chk (.bn (.dv true .i64) (.vr 37) (.vr 1))
  (.set 4 (.bn (.dv true .i64) (.vr 37) (.vr 1))
  .ret)))))))))))))))))))))))))))))))))))))
def fc17 : Fc := ⟨40, s17, [(.vr 4)]⟩
theorem c17 : compF Try.prog 17 = some fc17 := by kernel_rfl

/-- kinora/kinoraref24.Fold · parameters 2 · 0:v 1:depth 5:n -/
def s18 : S :=
  (.set 4 (.cn (.int .i64 0))
  (.call (some 8) 8 [(.vr 0), (.vr 1)] []
  (.set 5 (.vr 8)
  (.call (some 10) 32 [(.vr 1)] []
  (.set 11 (.vr 10)
  (.chk (.gd (.vr 11) true (.bn (.ar .sub .i64) (.vr 1) (.cn (.int .i64 1))))
  (.chk (.gd (.vr 11) true (.bn (.sh true .i64) (.cn (.int .i64 1)) (.un (.cv .u64) (.bn (.ar .sub .i64) (.vr 1) (.cn (.int .i64 1))))))
  (.chk (.gd (.vr 11) true (.bn (.cm .geq .i64) (.vr 5) (.bn (.sh true .i64) (.cn (.int .i64 1)) (.un (.cv .u64) (.bn (.ar .sub .i64) (.vr 1) (.cn (.int .i64 1)))))))
  (.chk (.and (.vr 11) (.bn (.cm .geq .i64) (.vr 5) (.bn (.sh true .i64) (.cn (.int .i64 1)) (.un (.cv .u64) (.bn (.ar .sub .i64) (.vr 1) (.cn (.int .i64 1)))))))
  (.set 18 (.and (.vr 11) (.bn (.cm .geq .i64) (.vr 5) (.bn (.sh true .i64) (.cn (.int .i64 1)) (.un (.cv .u64) (.bn (.ar .sub .i64) (.vr 1) (.cn (.int .i64 1)))))))
  (.ite (.vr 18)
    (.chk (.un (.cv .u64) (.vr 1))
    (.chk (.bn (.sh true .i64) (.cn (.int .i64 1)) (.un (.cv .u64) (.vr 1)))
    (.chk (.bn (.ar .sub .i64) (.vr 5) (.bn (.sh true .i64) (.cn (.int .i64 1)) (.un (.cv .u64) (.vr 1))))
    (.set 5 (.bn (.ar .sub .i64) (.vr 5) (.bn (.sh true .i64) (.cn (.int .i64 1)) (.un (.cv .u64) (.vr 1))))
    .nil))))
    .nil
  (.set 4 (.vr 5)
  .ret))))))))))))
def fc18 : Fc := ⟨25, s18, [(.vr 4)]⟩
theorem c18 : compF Try.prog 18 = some fc18 := by kernel_rfl

/-- (*kinora/model.Model).Learn · parameters 3 · 0:m 1:ctx 2:err 6:half 7:s -/
def s19 : S :=
  (.chk (.un .nck (.vr 0))
  (.chk (.un (.fa 0) (.un .nck (.vr 0)))
  (.chk (.ld (.un (.fa 0) (.un .nck (.vr 0))))
  (.chk (.bn (.ar .sub .i64) (.ld (.un (.fa 0) (.un .nck (.vr 0)))) (.cn (.int .i64 1)))
  (.chk (.bn (.sh true .i64) (.cn (.int .i64 1)) (.bn (.ar .sub .i64) (.ld (.un (.fa 0) (.un .nck (.vr 0)))) (.cn (.int .i64 1))))
  (.set 6 (.bn (.sh true .i64) (.cn (.int .i64 1)) (.bn (.ar .sub .i64) (.ld (.un (.fa 0) (.un .nck (.vr 0)))) (.cn (.int .i64 1))))
  (.call (some 15) 42 [(.vr 1)] []
  (.chk (.un .not (.vr 15))
  (.set 17 (.un .not (.vr 15))
  (.chk (.gd (.vr 17) false (.un (.neg .i64) (.vr 6)))
  (.chk (.gd (.vr 17) false (.bn (.cm .lss .i64) (.vr 2) (.un (.neg .i64) (.vr 6))))
  (.chk (.or (.vr 17) (.bn (.cm .lss .i64) (.vr 2) (.un (.neg .i64) (.vr 6))))
  (.set 23 (.or (.vr 17) (.bn (.cm .lss .i64) (.vr 2) (.un (.neg .i64) (.vr 6))))
  (.chk (.gd (.vr 23) false (.bn (.cm .geq .i64) (.vr 2) (.vr 6)))
  (.chk (.or (.vr 23) (.bn (.cm .geq .i64) (.vr 2) (.vr 6)))
  (.set 27 (.or (.vr 23) (.bn (.cm .geq .i64) (.vr 2) (.vr 6)))
  (.ite (.vr 27)
    .ret
    .nil
  (.chk (.un .nck (.vr 0))
  (.chk (.un (.fa 1) (.un .nck (.vr 0)))
  (.chk (.bn (.aa 365 4) (.un (.fa 1) (.un .nck (.vr 0))) (.vr 1))
  (.set 7 (.bn (.aa 365 4) (.un (.fa 1) (.un .nck (.vr 0))) (.vr 1))
  (.draw
  (.chk (.un .nck (.vr 7))
  (.chk (.un (.fa 1) (.un .nck (.vr 7)))
  (.chk (.ld (.un (.fa 1) (.un .nck (.vr 7))))
  (.set 36 (.ld (.un (.fa 1) (.un .nck (.vr 7))))
  (.call (some 38) 40 [(.vr 2)] [⟨3, (.un (.fa 1) (.un .nck (.vr 7))), 1, none⟩]
  (.chk (.bn (.ar .add .i64) (.vr 36) (.vr 38))
  (.chk (.un .nck (.vr 7))
  (.chk (.un (.fa 1) (.un .nck (.vr 7)))
  (.st 1 (.un (.fa 1) (.un .nck (.vr 7))) (.bn (.ar .add .i64) (.vr 36) (.vr 38)) []
  (.chk (.un .nck (.vr 7))
  (.chk (.un (.fa 2) (.un .nck (.vr 7)))
  (.chk (.ld (.un (.fa 2) (.un .nck (.vr 7))))
  (.set 45 (.ld (.un (.fa 2) (.un .nck (.vr 7))))
  (.chk (.bn (.ar .add .i64) (.vr 45) (.vr 2))
  (.chk (.un .nck (.vr 7))
  (.chk (.un (.fa 2) (.un .nck (.vr 7)))
  (.st 1 (.un (.fa 2) (.un .nck (.vr 7))) (.bn (.ar .add .i64) (.vr 45) (.vr 2)) []
  (.chk (.un .nck (.vr 7))
  (.chk (.un (.fa 0) (.un .nck (.vr 7)))
  (.chk (.ld (.un (.fa 0) (.un .nck (.vr 7))))
  (.chk (.bn (.cm .eql .i64) (.ld (.un (.fa 0) (.un .nck (.vr 7)))) (.cn (.int .i64 64)))
  (.set 54 (.bn (.cm .eql .i64) (.ld (.un (.fa 0) (.un .nck (.vr 7)))) (.cn (.int .i64 64)))
  (.ite (.vr 54)
    (.chk (.un .nck (.vr 7))
    (.chk (.un (.fa 1) (.un .nck (.vr 7)))
    (.chk (.ld (.un (.fa 1) (.un .nck (.vr 7))))
    (.set 58 (.ld (.un (.fa 1) (.un .nck (.vr 7))))
    (.chk (.bn (.sh false .i64) (.vr 58) (.cn (.int .u64 1)))
    (.chk (.un .nck (.vr 7))
    (.chk (.un (.fa 1) (.un .nck (.vr 7)))
    (.st 1 (.un (.fa 1) (.un .nck (.vr 7))) (.bn (.sh false .i64) (.vr 58) (.cn (.int .u64 1))) []
    (.chk (.un .nck (.vr 7))
    (.chk (.un (.fa 2) (.un .nck (.vr 7)))
    (.chk (.ld (.un (.fa 2) (.un .nck (.vr 7))))
    (.set 65 (.ld (.un (.fa 2) (.un .nck (.vr 7))))
    (.chk (.bn (.sh false .i64) (.vr 65) (.cn (.int .u64 1)))
    (.chk (.un .nck (.vr 7))
    (.chk (.un (.fa 2) (.un .nck (.vr 7)))
    (.st 1 (.un (.fa 2) (.un .nck (.vr 7))) (.bn (.sh false .i64) (.vr 65) (.cn (.int .u64 1))) []
    (.chk (.un .nck (.vr 7))
    (.chk (.un (.fa 0) (.un .nck (.vr 7)))
    (.chk (.ld (.un (.fa 0) (.un .nck (.vr 7))))
    (.set 72 (.ld (.un (.fa 0) (.un .nck (.vr 7))))
    (.chk (.bn (.sh false .i64) (.vr 72) (.cn (.int .u64 1)))
    (.chk (.un .nck (.vr 7))
    (.chk (.un (.fa 0) (.un .nck (.vr 7)))
    (.st 1 (.un (.fa 0) (.un .nck (.vr 7))) (.bn (.sh false .i64) (.vr 72) (.cn (.int .u64 1))) []
    .nil))))))))))))))))))))))))
    .nil
  (.chk (.un .nck (.vr 7))
  (.chk (.un (.fa 0) (.un .nck (.vr 7)))
  (.chk (.ld (.un (.fa 0) (.un .nck (.vr 7))))
  (.set 79 (.ld (.un (.fa 0) (.un .nck (.vr 7))))
  (.chk (.bn (.ar .add .i64) (.vr 79) (.cn (.int .i64 1)))
  (.chk (.un .nck (.vr 7))
  (.chk (.un (.fa 0) (.un .nck (.vr 7)))
  (.st 1 (.un (.fa 0) (.un .nck (.vr 7))) (.bn (.ar .add .i64) (.vr 79) (.cn (.int .i64 1))) []
  (.draw
  (.chk (.un .nck (.vr 7))
  (.chk (.un (.fa 2) (.un .nck (.vr 7)))
  (.chk (.ld (.un (.fa 2) (.un .nck (.vr 7))))
  (.chk (.un .nck (.vr 7))
  (.chk (.un (.fa 0) (.un .nck (.vr 7)))
  (.chk (.ld (.un (.fa 0) (.un .nck (.vr 7))))
  (.chk (.un (.neg .i64) (.ld (.un (.fa 0) (.un .nck (.vr 7)))))
  (.chk (.bn (.cm .leq .i64) (.ld (.un (.fa 2) (.un .nck (.vr 7)))) (.un (.neg .i64) (.ld (.un (.fa 0) (.un .nck (.vr 7))))))
  (.set 92 (.bn (.cm .leq .i64) (.ld (.un (.fa 2) (.un .nck (.vr 7)))) (.un (.neg .i64) (.ld (.un (.fa 0) (.un .nck (.vr 7))))))
  (.ite (.vr 92)
    (.draw
    (.chk (.un .nck (.vr 7))
    (.chk (.un (.fa 2) (.un .nck (.vr 7)))
    (.chk (.ld (.un (.fa 2) (.un .nck (.vr 7))))
    (.set 97 (.ld (.un (.fa 2) (.un .nck (.vr 7))))
    (.chk (.un .nck (.vr 7))
    (.chk (.un (.fa 0) (.un .nck (.vr 7)))
    (.chk (.ld (.un (.fa 0) (.un .nck (.vr 7))))
    (.set 101 (.ld (.un (.fa 0) (.un .nck (.vr 7))))
    (.chk (.bn (.ar .add .i64) (.vr 97) (.vr 101))
    (.chk (.un .nck (.vr 7))
    (.chk (.un (.fa 0) (.un .nck (.vr 7)))
    (.chk (.ld (.un (.fa 0) (.un .nck (.vr 7))))
    (.set 106 (.ld (.un (.fa 0) (.un .nck (.vr 7))))
    (.chk (.bn (.ar .sub .i64) (.cn (.int .i64 1)) (.vr 106))
    (.chk (.un .nck (.vr 7))
    (.chk (.un (.fa 2) (.un .nck (.vr 7)))
    (.st 1 (.un (.fa 2) (.un .nck (.vr 7))) (.bn (.mx .i64) (.bn (.ar .add .i64) (.vr 97) (.vr 101)) (.bn (.ar .sub .i64) (.cn (.int .i64 1)) (.vr 106))) []
    (.chk (.un .nck (.vr 7))
    (.chk (.un (.fa 3) (.un .nck (.vr 7)))
    (.chk (.ld (.un (.fa 3) (.un .nck (.vr 7))))
    (.set 115 (.ld (.un (.fa 3) (.un .nck (.vr 7))))
    (.chk (.bn (.ar .sub .i64) (.vr 115) (.cn (.int .i64 1)))
    (.chk (.un .nck (.vr 7))
    (.chk (.un (.fa 3) (.un .nck (.vr 7)))
    (.st 1 (.un (.fa 3) (.un .nck (.vr 7))) (.bn (.mx .i64) (.bn (.ar .sub .i64) (.vr 115) (.cn (.int .i64 1))) (.cn (.int .i64 (-128)))) []
    .nil))))))))))))))))))))))))))
    (.chk (.un .nck (.vr 7))
    (.chk (.un (.fa 2) (.un .nck (.vr 7)))
    (.chk (.ld (.un (.fa 2) (.un .nck (.vr 7))))
    (.chk (.bn (.cm .gtr .i64) (.ld (.un (.fa 2) (.un .nck (.vr 7)))) (.cn (.int .i64 0)))
    (.set 124 (.bn (.cm .gtr .i64) (.ld (.un (.fa 2) (.un .nck (.vr 7)))) (.cn (.int .i64 0)))
    (.ite (.vr 124)
      (.draw
      (.chk (.un .nck (.vr 7))
      (.chk (.un (.fa 2) (.un .nck (.vr 7)))
      (.chk (.ld (.un (.fa 2) (.un .nck (.vr 7))))
      (.set 129 (.ld (.un (.fa 2) (.un .nck (.vr 7))))
      (.chk (.un .nck (.vr 7))
      (.chk (.un (.fa 0) (.un .nck (.vr 7)))
      (.chk (.ld (.un (.fa 0) (.un .nck (.vr 7))))
      (.set 133 (.ld (.un (.fa 0) (.un .nck (.vr 7))))
      (.chk (.bn (.ar .sub .i64) (.vr 129) (.vr 133))
      (.chk (.un .nck (.vr 7))
      (.chk (.un (.fa 2) (.un .nck (.vr 7)))
      (.st 1 (.un (.fa 2) (.un .nck (.vr 7))) (.bn (.mn .i64) (.bn (.ar .sub .i64) (.vr 129) (.vr 133)) (.cn (.int .i64 0))) []
      (.chk (.un .nck (.vr 7))
      (.chk (.un (.fa 3) (.un .nck (.vr 7)))
      (.chk (.ld (.un (.fa 3) (.un .nck (.vr 7))))
      (.set 142 (.ld (.un (.fa 3) (.un .nck (.vr 7))))
      (.chk (.bn (.ar .add .i64) (.vr 142) (.cn (.int .i64 1)))
      (.chk (.un .nck (.vr 7))
      (.chk (.un (.fa 3) (.un .nck (.vr 7)))
      (.st 1 (.un (.fa 3) (.un .nck (.vr 7))) (.bn (.mn .i64) (.bn (.ar .add .i64) (.vr 142) (.cn (.int .i64 1))) (.cn (.int .i64 127))) []
      .nil)))))))))))))))))))))
      .nil
    .nil))))))
  .nil))))))))))))))))))))))))))))))))))))))))))))))))))))))))))))))))
def fc19 : Fc := ⟨147, s19, []⟩
theorem c19 : compF Try.prog 19 = some fc19 := by kernel_rfl

/-- (*kinora/kinoraref27.Model).Learn · parameters 3 · 0:m 1:ctx 2:err 6:n 7:a 8:b 9:c -/
def s20 : S :=
  (.call (some 11) 43 [(.vr 1)] []
  (.chk (.un .not (.vr 11))
  (.set 13 (.un .not (.vr 11))
  (.chk (.gd (.vr 13) false (.un .nck (.vr 0)))
  (.chk (.gd (.vr 13) false (.un (.fa 0) (.un .nck (.vr 0))))
  (.chk (.gd (.vr 13) false (.ld (.un (.fa 0) (.un .nck (.vr 0)))))
  (.set 18 (.gd (.vr 13) false (.ld (.un (.fa 0) (.un .nck (.vr 0)))))
  (.ifg (.vr 13) false
    (.call (some 19) 18 [(.vr 2), (.vr 18)] []
    .nil)
    (.set 19 (.cn undef)
    .nil)
  (.chk (.gd (.vr 13) false (.bn (.cm .neq .i64) (.vr 19) (.vr 2)))
  (.chk (.or (.vr 13) (.bn (.cm .neq .i64) (.vr 19) (.vr 2)))
  (.set 22 (.or (.vr 13) (.bn (.cm .neq .i64) (.vr 19) (.vr 2)))
  (.ite (.vr 22)
    .ret
    .nil
  (.draw
  (.chk (.un .nck (.vr 0))
  (.chk (.un (.fa 1) (.un .nck (.vr 0)))
  (.chk (.bn (.aa 365 4) (.un (.fa 1) (.un .nck (.vr 0))) (.vr 1))
  (.chk (.bn (.aa 4 1) (.bn (.aa 365 4) (.un (.fa 1) (.un .nck (.vr 0))) (.vr 1)) (.cn (.int .i64 0)))
  (.chk (.ld (.bn (.aa 4 1) (.bn (.aa 365 4) (.un (.fa 1) (.un .nck (.vr 0))) (.vr 1)) (.cn (.int .i64 0))))
  (.set 29 (.ld (.bn (.aa 4 1) (.bn (.aa 365 4) (.un (.fa 1) (.un .nck (.vr 0))) (.vr 1)) (.cn (.int .i64 0))))
  (.chk (.un .nck (.vr 0))
  (.chk (.un (.fa 1) (.un .nck (.vr 0)))
  (.chk (.bn (.aa 365 4) (.un (.fa 1) (.un .nck (.vr 0))) (.vr 1))
  (.chk (.bn (.aa 4 1) (.bn (.aa 365 4) (.un (.fa 1) (.un .nck (.vr 0))) (.vr 1)) (.cn (.int .i64 1)))
  (.chk (.ld (.bn (.aa 4 1) (.bn (.aa 365 4) (.un (.fa 1) (.un .nck (.vr 0))) (.vr 1)) (.cn (.int .i64 1))))
  (.set 36 (.ld (.bn (.aa 4 1) (.bn (.aa 365 4) (.un (.fa 1) (.un .nck (.vr 0))) (.vr 1)) (.cn (.int .i64 1))))
  (.chk (.un .nck (.vr 0))
  (.chk (.un (.fa 1) (.un .nck (.vr 0)))
  (.chk (.bn (.aa 365 4) (.un (.fa 1) (.un .nck (.vr 0))) (.vr 1))
  (.chk (.bn (.aa 4 1) (.bn (.aa 365 4) (.un (.fa 1) (.un .nck (.vr 0))) (.vr 1)) (.cn (.int .i64 2)))
  (.chk (.ld (.bn (.aa 4 1) (.bn (.aa 365 4) (.un (.fa 1) (.un .nck (.vr 0))) (.vr 1)) (.cn (.int .i64 2))))
  (.set 46 (.ld (.bn (.aa 4 1) (.bn (.aa 365 4) (.un (.fa 1) (.un .nck (.vr 0))) (.vr 1)) (.cn (.int .i64 2))))
  (.chk (.bn (.ar .add .i64) (.vr 46) (.vr 2))
  (.chk (.un .nck (.vr 0))
  (.chk (.un (.fa 1) (.un .nck (.vr 0)))
  (.chk (.bn (.aa 365 4) (.un (.fa 1) (.un .nck (.vr 0))) (.vr 1))
  (.chk (.bn (.aa 4 1) (.bn (.aa 365 4) (.un (.fa 1) (.un .nck (.vr 0))) (.vr 1)) (.cn (.int .i64 3)))
  (.chk (.ld (.bn (.aa 4 1) (.bn (.aa 365 4) (.un (.fa 1) (.un .nck (.vr 0))) (.vr 1)) (.cn (.int .i64 3))))
  (.set 55 (.ld (.bn (.aa 4 1) (.bn (.aa 365 4) (.un (.fa 1) (.un .nck (.vr 0))) (.vr 1)) (.cn (.int .i64 3))))
  (.call (some 38) 44 [(.vr 2)] [⟨32, (.bn (.aa 4 1) (.bn (.aa 365 4) (.un (.fa 1) (.un .nck (.vr 0))) (.vr 1)) (.cn (.int .i64 3))), 1, none⟩, ⟨23, (.bn (.aa 4 1) (.bn (.aa 365 4) (.un (.fa 1) (.un .nck (.vr 0))) (.vr 1)) (.cn (.int .i64 2))), 1, none⟩, ⟨13, (.bn (.aa 4 1) (.bn (.aa 365 4) (.un (.fa 1) (.un .nck (.vr 0))) (.vr 1)) (.cn (.int .i64 1))), 1, none⟩, ⟨6, (.bn (.aa 4 1) (.bn (.aa 365 4) (.un (.fa 1) (.un .nck (.vr 0))) (.vr 1)) (.cn (.int .i64 0))), 1, none⟩]
  (.chk (.bn (.ar .add .i64) (.vr 36) (.vr 38))
  (.set 6 (.vr 29)
  (.set 7 (.bn (.ar .add .i64) (.vr 36) (.vr 38))
  (.set 8 (.bn (.ar .add .i64) (.vr 46) (.vr 2))
  (.set 9 (.vr 55)
  (.chk (.bn (.cm .eql .i64) (.vr 6) (.cn (.int .i64 64)))
  (.set 57 (.bn (.cm .eql .i64) (.vr 6) (.cn (.int .i64 64)))
  (.ite (.vr 57)
    (.chk (.bn (.sh false .i64) (.vr 6) (.cn (.int .u64 1)))
    (.chk (.bn (.sh false .i64) (.vr 7) (.cn (.int .u64 1)))
    (.chk (.bn (.sh false .i64) (.vr 8) (.cn (.int .u64 1)))
    (.set 6 (.bn (.sh false .i64) (.vr 6) (.cn (.int .u64 1)))
    (.set 7 (.bn (.sh false .i64) (.vr 7) (.cn (.int .u64 1)))
    (.set 8 (.bn (.sh false .i64) (.vr 8) (.cn (.int .u64 1)))
    .nil))))))
    .nil
  (.chk (.bn (.ar .add .i64) (.vr 6) (.cn (.int .i64 1)))
  (.set 6 (.bn (.ar .add .i64) (.vr 6) (.cn (.int .i64 1)))
  (.chk (.un (.neg .i64) (.vr 6))
  (.chk (.bn (.cm .leq .i64) (.vr 8) (.un (.neg .i64) (.vr 6)))
  (.set 69 (.bn (.cm .leq .i64) (.vr 8) (.un (.neg .i64) (.vr 6)))
  (.ite (.vr 69)
    (.chk (.bn (.ar .add .i64) (.vr 8) (.vr 6))
    (.chk (.bn (.ar .sub .i64) (.cn (.int .i64 1)) (.vr 6))
    (.chk (.bn (.ar .sub .i64) (.vr 9) (.cn (.int .i64 1)))
    (.set 8 (.bn (.mx .i64) (.bn (.ar .add .i64) (.vr 8) (.vr 6)) (.bn (.ar .sub .i64) (.cn (.int .i64 1)) (.vr 6)))
    (.set 9 (.bn (.mx .i64) (.bn (.ar .sub .i64) (.vr 9) (.cn (.int .i64 1))) (.cn (.int .i64 (-128))))
    .nil)))))
    (.chk (.bn (.cm .gtr .i64) (.vr 8) (.cn (.int .i64 0)))
    (.set 80 (.bn (.cm .gtr .i64) (.vr 8) (.cn (.int .i64 0)))
    (.ite (.vr 80)
      (.chk (.bn (.ar .sub .i64) (.vr 8) (.vr 6))
      (.chk (.bn (.ar .add .i64) (.vr 9) (.cn (.int .i64 1)))
      (.set 8 (.bn (.mn .i64) (.bn (.ar .sub .i64) (.vr 8) (.vr 6)) (.cn (.int .i64 0)))
      (.set 9 (.bn (.mn .i64) (.bn (.ar .add .i64) (.vr 9) (.cn (.int .i64 1))) (.cn (.int .i64 127)))
      .nil))))
      .nil
    .nil)))
  (.chk (.bd 3 1 (.vr 9) (.bd 2 1 (.vr 8) (.bd 1 1 (.vr 7) (.bd 0 1 (.vr 6) (.cn (.agg #[(.int .i64 0), (.int .i64 0), (.int .i64 0), (.int .i64 0)]))))))
  (.chk (.un .nck (.vr 0))
  (.chk (.un (.fa 1) (.un .nck (.vr 0)))
  (.chk (.bn (.aa 365 4) (.un (.fa 1) (.un .nck (.vr 0))) (.vr 1))
  (.st 4 (.bn (.aa 365 4) (.un (.fa 1) (.un .nck (.vr 0))) (.vr 1)) (.bd 3 1 (.vr 9) (.bd 2 1 (.vr 8) (.bd 1 1 (.vr 7) (.bd 0 1 (.vr 6) (.cn (.agg #[(.int .i64 0), (.int .i64 0), (.int .i64 0), (.int .i64 0)])))))) []
  .nil))))))))))))))))))))))))))))))))))))))))))))))))))))))))))
def fc20 : Fc := ⟨98, s20, []⟩
theorem c20 : compF Try.prog 20 = some fc20 := by kernel_rfl

/-- kinora/kinoralaw26.alike · parameters 4 · 0:m 1:x 2:ctx 3:guess 9:a 10:b 11:c 12:d 13:e 14:f 15:g 16:h -/
def s21 : S :=
  (.set 8 (.cn (.bool false))
  (.call (some 20) 22 [(.vr 0), (.vr 2)] []
  (.chk (.un (.ex 0) (.vr 20))
  (.chk (.un (.ex 1) (.vr 20))
  (.chk (.un (.ex 2) (.vr 20))
  (.chk (.un (.ex 3) (.vr 20))
  (.set 9 (.un (.ex 0) (.vr 20))
  (.set 10 (.un (.ex 1) (.vr 20))
  (.set 11 (.un (.ex 2) (.vr 20))
  (.set 12 (.un (.ex 3) (.vr 20))
  (.call (some 28) 45 [(.vr 1), (.vr 2)] []
  (.chk (.un (.ex 0) (.vr 28))
  (.chk (.un (.ex 1) (.vr 28))
  (.chk (.un (.ex 2) (.vr 28))
  (.chk (.un (.ex 3) (.vr 28))
  (.set 13 (.un (.ex 0) (.vr 28))
  (.set 14 (.un (.ex 1) (.vr 28))
  (.set 15 (.un (.ex 2) (.vr 28))
  (.set 16 (.un (.ex 3) (.vr 28))
  (.chk (.bn (.cm .eql .i64) (.vr 9) (.vr 13))
  (.set 36 (.bn (.cm .eql .i64) (.vr 9) (.vr 13))
  (.chk (.gd (.vr 36) true (.bn (.cm .eql .i64) (.vr 10) (.vr 14)))
  (.chk (.and (.vr 36) (.bn (.cm .eql .i64) (.vr 10) (.vr 14)))
  (.set 41 (.and (.vr 36) (.bn (.cm .eql .i64) (.vr 10) (.vr 14)))
  (.chk (.gd (.vr 41) true (.bn (.cm .eql .i64) (.vr 11) (.vr 15)))
  (.chk (.and (.vr 41) (.bn (.cm .eql .i64) (.vr 11) (.vr 15)))
  (.set 46 (.and (.vr 41) (.bn (.cm .eql .i64) (.vr 11) (.vr 15)))
  (.chk (.gd (.vr 46) true (.bn (.cm .eql .i64) (.vr 12) (.vr 16)))
  (.chk (.and (.vr 46) (.bn (.cm .eql .i64) (.vr 12) (.vr 16)))
  (.set 51 (.and (.vr 46) (.bn (.cm .eql .i64) (.vr 12) (.vr 16)))
  (.ifg (.vr 51) true
    (.call (some 54) 37 [(.vr 0), (.vr 2)] []
    .nil)
    (.set 54 (.cn undef)
    .nil)
  (.ifg (.vr 51) true
    (.call (some 57) 46 [(.vr 1), (.vr 2)] []
    .nil)
    (.set 57 (.cn undef)
    .nil)
  (.chk (.gd (.vr 51) true (.bn (.cm .eql .i64) (.vr 54) (.vr 57)))
  (.chk (.and (.vr 51) (.bn (.cm .eql .i64) (.vr 54) (.vr 57)))
  (.set 60 (.and (.vr 51) (.bn (.cm .eql .i64) (.vr 54) (.vr 57)))
  (.ifg (.vr 60) true
    (.call (some 64) 38 [(.vr 0), (.vr 2), (.vr 3), (.cn (.bool false))] []
    .nil)
    (.set 64 (.cn undef)
    .nil)
  (.ifg (.vr 60) true
    (.call (some 68) 47 [(.vr 1), (.vr 2), (.vr 3), (.cn (.bool false))] []
    .nil)
    (.set 68 (.cn undef)
    .nil)
  (.chk (.gd (.vr 60) true (.bn (.cm .eql .i64) (.vr 64) (.vr 68)))
  (.chk (.and (.vr 60) (.bn (.cm .eql .i64) (.vr 64) (.vr 68)))
  (.set 71 (.and (.vr 60) (.bn (.cm .eql .i64) (.vr 64) (.vr 68)))
  (.ifg (.vr 71) true
    (.call (some 75) 38 [(.vr 0), (.vr 2), (.vr 3), (.cn (.bool true))] []
    .nil)
    (.set 75 (.cn undef)
    .nil)
  (.ifg (.vr 71) true
    (.call (some 79) 47 [(.vr 1), (.vr 2), (.vr 3), (.cn (.bool true))] []
    .nil)
    (.set 79 (.cn undef)
    .nil)
  (.chk (.gd (.vr 71) true (.bn (.cm .eql .i64) (.vr 75) (.vr 79)))
  (.chk (.and (.vr 71) (.bn (.cm .eql .i64) (.vr 75) (.vr 79)))
  (.set 8 (.and (.vr 71) (.bn (.cm .eql .i64) (.vr 75) (.vr 79)))
  .ret)))))))))))))))))))))))))))))))))))))))))))))
def fc21 : Fc := ⟨82, s21, [(.vr 8)]⟩
theorem c21 : compF Try.prog 21 = some fc21 := by kernel_rfl

/-- (*kinora/model.Model).Stat · parameters 2 · 0:m 1:ctx 4:n 5:a 6:b 7:c 8:s -/
def s22 : S :=
  (.set 4 (.cn (.int .i64 0))
  (.set 5 (.cn (.int .i64 0))
  (.set 6 (.cn (.int .i64 0))
  (.set 7 (.cn (.int .i64 0))
  (.call (some 10) 42 [(.vr 1)] []
  (.chk (.un .not (.vr 10))
  (.set 11 (.un .not (.vr 10))
  (.ite (.vr 11)
    (.set 4 (.cn (.int .i64 0))
    (.set 5 (.cn (.int .i64 0))
    (.set 6 (.cn (.int .i64 0))
    (.set 7 (.cn (.int .i64 0))
    .ret))))
    .nil
  (.chk (.un .nck (.vr 0))
  (.chk (.un (.fa 1) (.un .nck (.vr 0)))
  (.chk (.bn (.aa 365 4) (.un (.fa 1) (.un .nck (.vr 0))) (.vr 1))
  (.chk (.ldn 4 (.bn (.aa 365 4) (.un (.fa 1) (.un .nck (.vr 0))) (.vr 1)))
  (.set 17 (.ldn 4 (.bn (.aa 365 4) (.un (.fa 1) (.un .nck (.vr 0))) (.vr 1)))
  (.op (some 8) (.alloc 71) 0 [] []
  (.st 4 (.vr 8) (.vr 17) []
  (.draw
  (.chk (.un (.fa 0) (.vr 8))
  (.chk (.ld (.un (.fa 0) (.vr 8)))
  (.chk (.un (.fa 1) (.vr 8))
  (.chk (.ld (.un (.fa 1) (.vr 8)))
  (.chk (.un (.fa 2) (.vr 8))
  (.chk (.ld (.un (.fa 2) (.vr 8)))
  (.chk (.un (.fa 3) (.vr 8))
  (.chk (.ld (.un (.fa 3) (.vr 8)))
  (.set 4 (.ld (.un (.fa 0) (.vr 8)))
  (.set 5 (.ld (.un (.fa 1) (.vr 8)))
  (.set 6 (.ld (.un (.fa 2) (.vr 8)))
  (.set 7 (.ld (.un (.fa 3) (.vr 8)))
  .ret))))))))))))))))))))))))))))
def fc22 : Fc := ⟨26, s22, [(.vr 4), (.vr 5), (.vr 6), (.vr 7)]⟩
theorem c22 : compF Try.prog 22 = some fc22 := by kernel_rfl

/-- (*kinora/kinorakeep2.Tape).Depth · parameters 1 · 0:t -/
def s23 : S :=
  (.set 2 (.cn (.int .i64 0))
  (.op (some 3) (.buildSlice 33 10 #[(0, (.const (.int .i64 8))), (1, (.const (.int .i64 1))), (2, (.const (.int .i64 2))), (3, (.const (.int .i64 4))), (4, (.const (.int .i64 8))), (5, (.const (.int .i64 10))), (6, (.const (.int .i64 12))), (7, (.const (.int .i64 16))), (8, (.const (.int .i64 5))), (9, (.const (.int .i64 8)))]) 33 [] []
  (.call (some 5) 17 [(.vr 0), (.cn (.int .i64 10))] []
  (.chk (.bn (.ia 1) (.vr 3) (.vr 5))
  (.chk (.ld (.bn (.ia 1) (.vr 3) (.vr 5)))
  (.set 7 (.ld (.bn (.ia 1) (.vr 3) (.vr 5)))
  (.set 2 (.vr 7)
  .ret)))))))
def fc23 : Fc := ⟨8, s23, [(.vr 2)]⟩
theorem c23 : compF Try.prog 23 = some fc23 := by kernel_rfl

/-- (*kinora/kinorakeep2.Tape).Plane · parameters 4 · 0:t 1:w 2:h 3:depth 9:kind 10:seed 11:r 12:most 13:l 14:at 15:x 16:y 17:v -/
def s24 : S :=
  (.set 8 (.cn (.slice none 0 0))
  (.call (some 19) 17 [(.vr 0), (.cn (.int .i64 7))] []
  (.call (some 21) 17 [(.vr 0), (.cn (.int .i64 1048576))] []
  (.set 9 (.vr 19)
  (.set 10 (.vr 21)
  (.chk (.bd 0 1 (.vr 10) (.cn (.agg #[(.int .i64 0)])))
  (.op (some 24) (.box 83 (.tmp 23)) 81 [(23, (.bd 0 1 (.vr 10) (.cn (.agg #[(.int .i64 0)]))))] []
  (.set 11 (.vr 24)
  (.chk (.un (.cv .u64) (.vr 3))
  (.chk (.bn (.sh true .i64) (.cn (.int .i64 1)) (.un (.cv .u64) (.vr 3)))
  (.set 12 (.bn (.sh true .i64) (.cn (.int .i64 1)) (.un (.cv .u64) (.vr 3)))
  (.set 13 (.cn (.slice none 0 0))
  (.set 14 (.cn (.int .i64 0))
  (.blk 0
    (.loop
      (.chk (.bn (.ar .mul .i64) (.vr 1) (.vr 2))
      (.chk (.bn (.cm .lss .i64) (.vr 14) (.bn (.ar .mul .i64) (.vr 1) (.vr 2)))
      (.set 32 (.bn (.cm .lss .i64) (.vr 14) (.bn (.ar .mul .i64) (.vr 1) (.vr 2)))
      (.ite (.vr 32)
        .nil
        (.exit 0)
      (.blk 1
        (.draw
        (.chk (.bn (.dv true .i64) (.vr 14) (.vr 1))
        (.chk (.bn (.dv false .i64) (.vr 14) (.vr 1))
        (.set 15 (.bn (.dv true .i64) (.vr 14) (.vr 1))
        (.set 16 (.bn (.dv false .i64) (.vr 14) (.vr 1))
        (.set 17 (.cn (.int .i64 0))
        (.set 41 (.vr 9)
        (.blk 2
          (.chk (.bn (.cm .eql .i64) (.vr 41) (.cn (.int .i64 0)))
          (.set 50 (.bn (.cm .eql .i64) (.vr 41) (.cn (.int .i64 0)))
          (.ite (.vr 50)
            (.set 17 (.vr 10)
            .nil)
            (.chk (.bn (.cm .eql .i64) (.vr 41) (.cn (.int .i64 1)))
            (.set 53 (.bn (.cm .eql .i64) (.vr 41) (.cn (.int .i64 1)))
            (.ite (.vr 53)
              (.call (some 56) 48 [(.vr 11), (.cn (.int .i64 65536))] []
              (.set 17 (.vr 56)
              .nil))
              (.chk (.bn (.cm .eql .i64) (.vr 41) (.cn (.int .i64 2)))
              (.set 57 (.bn (.cm .eql .i64) (.vr 41) (.cn (.int .i64 2)))
              (.ite (.vr 57)
                (.chk (.bn (.ar .mul .i64) (.cn (.int .i64 3)) (.vr 15))
                (.chk (.bn (.ar .add .i64) (.vr 10) (.bn (.ar .mul .i64) (.cn (.int .i64 3)) (.vr 15)))
                (.chk (.bn (.ar .mul .i64) (.cn (.int .i64 2)) (.vr 16))
                (.call (some 67) 48 [(.vr 11), (.cn (.int .i64 3))] []
                (.chk (.bn (.ar .add .i64) (.bn (.ar .add .i64) (.bn (.ar .add .i64) (.vr 10) (.bn (.ar .mul .i64) (.cn (.int .i64 3)) (.vr 15))) (.bn (.ar .mul .i64) (.cn (.int .i64 2)) (.vr 16))) (.vr 67))
                (.set 17 (.bn (.ar .add .i64) (.bn (.ar .add .i64) (.bn (.ar .add .i64) (.vr 10) (.bn (.ar .mul .i64) (.cn (.int .i64 3)) (.vr 15))) (.bn (.ar .mul .i64) (.cn (.int .i64 2)) (.vr 16))) (.vr 67))
                .nil))))))
                (.chk (.bn (.cm .eql .i64) (.vr 41) (.cn (.int .i64 3)))
                (.set 69 (.bn (.cm .eql .i64) (.vr 41) (.cn (.int .i64 3)))
                (.ite (.vr 69)
                  (.call (some 73) 48 [(.vr 11), (.cn (.int .i64 5))] []
                  (.chk (.bn (.ar .mul .i64) (.vr 73) (.cn (.int .i64 7)))
                  (.chk (.bn (.ar .add .i64) (.vr 10) (.bn (.ar .mul .i64) (.vr 73) (.cn (.int .i64 7))))
                  (.set 17 (.bn (.ar .add .i64) (.vr 10) (.bn (.ar .mul .i64) (.vr 73) (.cn (.int .i64 7))))
                  .nil))))
                  (.chk (.bn (.cm .eql .i64) (.vr 41) (.cn (.int .i64 4)))
                  (.set 76 (.bn (.cm .eql .i64) (.vr 41) (.cn (.int .i64 4)))
                  (.ite (.vr 76)
                    (.chk (.bn (.dv false .i64) (.vr 15) (.cn (.int .i64 3)))
                    (.chk (.bn (.ar .add .i64) (.vr 10) (.bn (.ar .mul .i64) (.bn (.dv false .i64) (.vr 15) (.cn (.int .i64 3))) (.cn (.int .i64 11))))
                    (.chk (.bn (.dv false .i64) (.vr 16) (.cn (.int .i64 4)))
                    (.set 17 (.bn (.ar .add .i64) (.bn (.ar .add .i64) (.vr 10) (.bn (.ar .mul .i64) (.bn (.dv false .i64) (.vr 15) (.cn (.int .i64 3))) (.cn (.int .i64 11)))) (.bn (.dv false .i64) (.vr 16) (.cn (.int .i64 4))))
                    .nil))))
                    (.chk (.bn (.cm .eql .i64) (.vr 41) (.cn (.int .i64 5)))
                    (.set 86 (.bn (.cm .eql .i64) (.vr 41) (.cn (.int .i64 5)))
                    (.ite (.vr 86)
                      (.chk (.bn (.ar .mul .i64) (.vr 15) (.vr 15))
                      (.chk (.bn (.ar .add .i64) (.vr 10) (.bn (.ar .mul .i64) (.vr 15) (.vr 15)))
                      (.chk (.bn (.ar .mul .i64) (.vr 16) (.vr 16))
                      (.set 17 (.bn (.ar .add .i64) (.bn (.ar .add .i64) (.vr 10) (.bn (.ar .mul .i64) (.vr 15) (.vr 15))) (.bn (.dv false .i64) (.bn (.ar .mul .i64) (.vr 16) (.vr 16)) (.cn (.int .i64 2))))
                      .nil))))
                      (.chk (.bn (.ar .mul .i64) (.cn (.int .i64 3)) (.vr 16))
                      (.chk (.bn (.ar .add .i64) (.vr 15) (.bn (.ar .mul .i64) (.cn (.int .i64 3)) (.vr 16)))
                      (.chk (.bn (.ar .add .i64) (.vr 10) (.bn (.ar .mul .i64) (.bn (.dv true .i64) (.bn (.ar .add .i64) (.vr 15) (.bn (.ar .mul .i64) (.cn (.int .i64 3)) (.vr 16))) (.cn (.int .i64 5))) (.cn (.int .i64 9))))
                      (.set 17 (.bn (.ar .add .i64) (.vr 10) (.bn (.ar .mul .i64) (.bn (.dv true .i64) (.bn (.ar .add .i64) (.vr 15) (.bn (.ar .mul .i64) (.cn (.int .i64 3)) (.vr 16))) (.cn (.int .i64 5))) (.cn (.int .i64 9))))
                      .nil))))
                    .nil)))
                  .nil)))
                .nil)))
              .nil)))
            .nil)))
          .nil)))
        (.chk (.bn (.dv true .i64) (.vr 17) (.vr 12))
        (.op (some 102) (.buildSlice 33 1 #[(0, (.tmp 101))]) 33 [(101, (.bn (.dv true .i64) (.vr 17) (.vr 12)))] []
        (.op (some 103) (.call ⟨(.builtin .append), #[(.tmp 98), (.tmp 102)], #[33, 33]⟩) 33 [(98, (.vr 13)), (102, (.vr 102))] []
        (.set 13 (.vr 103)
        .nil))))))))))))
      (.chk (.bn (.ar .add .i64) (.vr 14) (.cn (.int .i64 1)))
      (.set 14 (.bn (.ar .add .i64) (.vr 14) (.cn (.int .i64 1)))
      .nil))))))))
  (.set 8 (.vr 13)
  .ret)))))))))))))))
def fc24 : Fc := ⟨105, s24, [(.vr 8)]⟩
theorem c24 : compF Try.prog 24 = some fc24 := by kernel_rfl

/-- kinora/model.Put · parameters 5 · 0:w 1:l 2:width 3:h 4:depth 11:m 12:code 13:i 14:s 15:ctx 16:turned 17:g 18:err 19:code -/
def s25 : S :=
  (.set 10 (.cn (.int .i64 0))
  (.call (some 24) 49 [(.vr 1), (.vr 2), (.vr 3), (.vr 4)] []
  (.chk (.un .not (.vr 24))
  (.set 25 (.un .not (.vr 24))
  (.ite (.vr 25)
    (.set 10 (.cn (.int .i64 1))
    .ret)
    .nil
  (.call (some 28) 14 [(.vr 4)] []
  (.chk (.un (.ex 0) (.vr 28))
  (.chk (.un (.ex 1) (.vr 28))
  (.set 11 (.un (.ex 0) (.vr 28))
  (.set 12 (.un (.ex 1) (.vr 28))
  (.chk (.bn (.cm .neq .i64) (.vr 12) (.cn (.int .i64 0)))
  (.set 32 (.bn (.cm .neq .i64) (.vr 12) (.cn (.int .i64 0)))
  (.ite (.vr 32)
    (.set 10 (.vr 12)
    .ret)
    .nil
  (.set 34 (.vr 1)
  (.chk (.un .ln (.vr 34))
  (.set 35 (.un .ln (.vr 34))
  (.set 36 (.cn (.int .i64 0))
  (.blk 0
    (.loop
      (.chk (.bn (.cm .lss .i64) (.vr 36) (.vr 35))
      (.set 37 (.bn (.cm .lss .i64) (.vr 36) (.vr 35))
      (.ite (.vr 37)
        .nil
        (.exit 0)
      (.blk 1
        (.chk (.bn (.ia 1) (.vr 34) (.vr 36))
        (.chk (.ld (.bn (.ia 1) (.vr 34) (.vr 36)))
        (.set 13 (.vr 36)
        (.set 14 (.ld (.bn (.ia 1) (.vr 34) (.vr 36)))
        (.call (some 46) 50 [(.vr 11), (.vr 1), (.vr 2), (.vr 13)] []
        (.chk (.un (.ex 0) (.vr 46))
        (.chk (.un (.ex 1) (.vr 46))
        (.chk (.un (.ex 2) (.vr 46))
        (.set 15 (.un (.ex 0) (.vr 46))
        (.set 16 (.un (.ex 1) (.vr 46))
        (.set 17 (.un (.ex 2) (.vr 46))
        (.chk (.bn (.ar .sub .i64) (.vr 14) (.vr 17))
        (.call (some 54) 51 [(.bn (.ar .sub .i64) (.vr 14) (.vr 17)), (.vr 4)] []
        (.set 18 (.vr 54)
        (.set 55 (.vr 16)
        (.ite (.vr 55)
          (.chk (.un (.neg .i64) (.vr 18))
          (.call (some 59) 51 [(.un (.neg .i64) (.vr 18)), (.vr 4)] []
          (.set 18 (.vr 59)
          .nil)))
          .nil
        (.call (some 63) 37 [(.vr 11), (.vr 15)] []
        (.op (some 65) (.buildSlice 33 1 #[(0, (.tmp 64))]) 33 [(64, (.vr 18))] []
        (.call (some 66) 52 [(.vr 0), (.vr 63), (.vr 65)] []
        (.set 19 (.vr 66)
        (.chk (.bn (.cm .neq .i64) (.vr 19) (.cn (.int .i64 0)))
        (.set 68 (.bn (.cm .neq .i64) (.vr 19) (.cn (.int .i64 0)))
        (.ite (.vr 68)
          (.set 10 (.vr 19)
          .ret)
          .nil
        (.call (some 73) 19 [(.vr 11), (.vr 15), (.vr 18)] []
        .nil))))))))))))))))))))))))
      (.chk (.bn (.ar .add .i64) (.vr 36) (.cn (.int .i64 1)))
      (.set 36 (.bn (.ar .add .i64) (.vr 36) (.cn (.int .i64 1)))
      .nil)))))))
  (.set 10 (.cn (.int .i64 0))
  .ret)))))))))))))))))))
def fc25 : Fc := ⟨75, s25, [(.vr 10)]⟩
theorem c25 : compF Try.prog 25 = some fc25 := by kernel_rfl

/-- (*kinora/bits.Writer).Bytes · parameters 1 · 0:w -/
def s26 : S :=
  (.set 2 (.cn (.slice none 0 0))
  (.chk (.un .nck (.vr 0))
  (.chk (.un (.fa 0) (.un .nck (.vr 0)))
  (.chk (.ld (.un (.fa 0) (.un .nck (.vr 0))))
  (.set 6 (.ld (.un (.fa 0) (.un .nck (.vr 0))))
  (.op (some 7) (.call ⟨(.builtin .append), #[(.const (.slice none 0 0)), (.tmp 6)], #[50, 50]⟩) 50 [(6, (.vr 6))] []
  (.set 2 (.vr 7)
  .ret)))))))
def fc26 : Fc := ⟨8, s26, [(.vr 2)]⟩
theorem c26 : compF Try.prog 26 = some fc26 := by kernel_rfl

/-- kinora/model.Get · parameters 4 · 0:r 1:width 2:h 3:depth 10:m 11:code 12:code 13:l 14:i 15:ctx 16:turned 17:g 18:errs 19:code 20:err -/
def s27 : S :=
  (.set 8 (.cn (.slice none 0 0))
  (.set 9 (.cn (.int .i64 0))
  (.call (some 23) 14 [(.vr 3)] []
  (.chk (.un (.ex 0) (.vr 23))
  (.chk (.un (.ex 1) (.vr 23))
  (.set 10 (.un (.ex 0) (.vr 23))
  (.set 11 (.un (.ex 1) (.vr 23))
  (.chk (.bn (.cm .neq .i64) (.vr 11) (.cn (.int .i64 0)))
  (.chk (.gd (.bn (.cm .neq .i64) (.vr 11) (.cn (.int .i64 0))) false (.bn (.cm .lss .i64) (.vr 1) (.cn (.int .i64 1))))
  (.chk (.gd (.or (.bn (.cm .neq .i64) (.vr 11) (.cn (.int .i64 0))) (.bn (.cm .lss .i64) (.vr 1) (.cn (.int .i64 1)))) false (.bn (.cm .gtr .i64) (.vr 1) (.cn (.int .i64 64))))
  (.chk (.gd (.or (.or (.bn (.cm .neq .i64) (.vr 11) (.cn (.int .i64 0))) (.bn (.cm .lss .i64) (.vr 1) (.cn (.int .i64 1)))) (.bn (.cm .gtr .i64) (.vr 1) (.cn (.int .i64 64)))) false (.bn (.cm .lss .i64) (.vr 2) (.cn (.int .i64 1))))
  (.chk (.gd (.or (.or (.or (.bn (.cm .neq .i64) (.vr 11) (.cn (.int .i64 0))) (.bn (.cm .lss .i64) (.vr 1) (.cn (.int .i64 1)))) (.bn (.cm .gtr .i64) (.vr 1) (.cn (.int .i64 64)))) (.bn (.cm .lss .i64) (.vr 2) (.cn (.int .i64 1)))) false (.bn (.cm .gtr .i64) (.vr 2) (.cn (.int .i64 64))))
  (.set 43 (.or (.or (.or (.or (.bn (.cm .neq .i64) (.vr 11) (.cn (.int .i64 0))) (.bn (.cm .lss .i64) (.vr 1) (.cn (.int .i64 1)))) (.bn (.cm .gtr .i64) (.vr 1) (.cn (.int .i64 64)))) (.bn (.cm .lss .i64) (.vr 2) (.cn (.int .i64 1)))) (.bn (.cm .gtr .i64) (.vr 2) (.cn (.int .i64 64))))
  (.ite (.vr 43)
    (.set 8 (.cn (.slice none 0 0))
    (.set 9 (.cn (.int .i64 1))
    .ret))
    .nil
  (.call (some 45) 53 [(.vr 0)] []
  (.set 12 (.vr 45)
  (.chk (.bn (.cm .neq .i64) (.vr 12) (.cn (.int .i64 0)))
  (.set 47 (.bn (.cm .neq .i64) (.vr 12) (.cn (.int .i64 0)))
  (.ite (.vr 47)
    (.set 8 (.cn (.slice none 0 0))
    (.set 9 (.vr 12)
    .ret))
    .nil
  (.chk (.bn (.ar .mul .i64) (.vr 1) (.vr 2))
  (.op (some 52) (.makeSlice 33 (.tmp 51) (.tmp 51)) 33 [(51, (.bn (.ar .mul .i64) (.vr 1) (.vr 2))), (51, (.bn (.ar .mul .i64) (.vr 1) (.vr 2)))] []
  (.set 13 (.vr 52)
  (.chk (.un .ln (.vr 13))
  (.set 54 (.un .ln (.vr 13))
  (.set 55 (.cn (.int .i64 0))
  (.blk 0
    (.loop
      (.chk (.bn (.cm .lss .i64) (.vr 55) (.vr 54))
      (.set 56 (.bn (.cm .lss .i64) (.vr 55) (.vr 54))
      (.ite (.vr 56)
        .nil
        (.exit 0)
      (.blk 1
        (.set 14 (.vr 55)
        (.call (some 63) 50 [(.vr 10), (.vr 13), (.vr 1), (.vr 14)] []
        (.chk (.un (.ex 0) (.vr 63))
        (.chk (.un (.ex 1) (.vr 63))
        (.chk (.un (.ex 2) (.vr 63))
        (.set 15 (.un (.ex 0) (.vr 63))
        (.set 16 (.un (.ex 1) (.vr 63))
        (.set 17 (.un (.ex 2) (.vr 63))
        (.call (some 71) 37 [(.vr 10), (.vr 15)] []
        (.call (some 72) 54 [(.vr 0), (.vr 71), (.cn (.int .i64 1))] []
        (.chk (.un (.ex 0) (.vr 72))
        (.chk (.un (.ex 1) (.vr 72))
        (.set 18 (.un (.ex 0) (.vr 72))
        (.set 19 (.un (.ex 1) (.vr 72))
        (.chk (.bn (.cm .neq .i64) (.vr 19) (.cn (.int .i64 0)))
        (.set 76 (.bn (.cm .neq .i64) (.vr 19) (.cn (.int .i64 0)))
        (.ite (.vr 76)
          (.set 8 (.cn (.slice none 0 0))
          (.set 9 (.vr 19)
          .ret))
          .nil
        (.chk (.bn (.ia 1) (.vr 18) (.cn (.int .i64 0)))
        (.chk (.ld (.bn (.ia 1) (.vr 18) (.cn (.int .i64 0))))
        (.set 20 (.ld (.bn (.ia 1) (.vr 18) (.cn (.int .i64 0))))
        (.call (some 84) 51 [(.vr 20), (.vr 3)] []
        (.chk (.bn (.cm .neq .i64) (.vr 20) (.vr 84))
        (.set 85 (.bn (.cm .neq .i64) (.vr 20) (.vr 84))
        (.ite (.vr 85)
          (.set 8 (.cn (.slice none 0 0))
          (.set 9 (.cn (.int .i64 2))
          .ret))
          .nil
        (.call (some 89) 19 [(.vr 10), (.vr 15), (.vr 20)] []
        (.set 90 (.vr 16)
        (.ite (.vr 90)
          (.chk (.un (.neg .i64) (.vr 20))
          (.set 20 (.un (.neg .i64) (.vr 20))
          .nil))
          .nil
        (.chk (.bn (.ar .add .i64) (.vr 17) (.vr 20))
        (.call (some 99) 55 [(.bn (.ar .add .i64) (.vr 17) (.vr 20)), (.vr 3)] []
        (.chk (.bn (.ia 1) (.vr 13) (.vr 14))
        (.st 1 (.bn (.ia 1) (.vr 13) (.vr 14)) (.vr 99) []
        .nil)))))))))))))))))))))))))))))))
      (.chk (.bn (.ar .add .i64) (.vr 55) (.cn (.int .i64 1)))
      (.set 55 (.bn (.ar .add .i64) (.vr 55) (.cn (.int .i64 1)))
      .nil)))))))
  (.set 8 (.vr 13)
  (.set 9 (.cn (.int .i64 0))
  .ret))))))))))))))))))))))))))))
def fc27 : Fc := ⟨103, s27, [(.vr 8), (.vr 9)]⟩
theorem c27 : compF Try.prog 27 = some fc27 := by kernel_rfl

/-- kinora/bits.New · parameters 1 · 0:b -/
def s28 : S :=
  (.set 2 (.cn (.pointer none))
  (.op (some 4) (.call ⟨(.builtin .append), #[(.const (.slice none 0 0)), (.tmp 3)], #[50, 50]⟩) 50 [(3, (.vr 0))] []
  (.chk (.bd 0 1 (.vr 4) (.cn (.agg #[(.slice none 0 0), (.int .i64 0), (.int .i64 0)])))
  (.op (some 6) (.box 90 (.tmp 5)) 60 [(5, (.bd 0 1 (.vr 4) (.cn (.agg #[(.slice none 0 0), (.int .i64 0), (.int .i64 0)]))))] []
  (.set 2 (.vr 6)
  .ret)))))
def fc28 : Fc := ⟨7, s28, [(.vr 2)]⟩
theorem c28 : compF Try.prog 28 = some fc28 := by kernel_rfl

/-- kinora/kinoralaw26.puts · parameters 4 · 0:l 1:w 2:h 3:depth 9:a 10:b -/
def s29 : S :=
  (.set 8 (.cn (.bool false))
  (.op (some 12) (.box 55 (.tmp 11)) 53 [(11, (.cn (.agg #[(.slice none 0 0), (.int .i64 0)])))] []
  (.op (some 14) (.box 93 (.tmp 13)) 91 [(13, (.cn (.agg #[(.slice none 0 0)])))] []
  (.set 9 (.vr 12)
  (.set 10 (.vr 14)
  (.sq
    (.draw
    (.call (some 20) 25 [(.vr 9), (.vr 0), (.vr 1), (.vr 2), (.vr 3)] []
    (.call (some 26) 56 [(.vr 10), (.vr 0), (.vr 1), (.vr 2), (.vr 3)] []
    (.chk (.bn (.cm .eql .i64) (.vr 20) (.vr 26))
    (.set 28 (.bn (.cm .eql .i64) (.vr 20) (.vr 26))
    (.ifg (.vr 28) true
      (.call (some 30) 57 [(.vr 9)] []
      .nil)
      (.set 30 (.cn undef)
      .nil)
    (.ifg (.vr 28) true
      (.call (some 32) 58 [(.vr 10)] []
      .nil)
      (.set 32 (.cn undef)
      .nil)
    (.chk (.gd (.vr 28) true (.bn (.cm .eql .i64) (.vr 30) (.vr 32)))
    (.chk (.and (.vr 28) (.bn (.cm .eql .i64) (.vr 30) (.vr 32)))
    (.set 35 (.and (.vr 28) (.bn (.cm .eql .i64) (.vr 30) (.vr 32)))
    (.ifg (.vr 35) true
      (.call (some 37) 26 [(.vr 9)] []
      .nil)
      (.set 37 (.cn undef)
      .nil)
    (.alt
      (.ifg (.vr 35) true
        (.op (some 38) (.convert 50 9 (.tmp 37)) 9 [(37, (.vr 37))] []
        .nil)
        (.set 38 (.cn undef)
        .nil)
      (.ifg (.vr 35) true
        (.call (some 40) 59 [(.vr 10)] []
        .nil)
        (.set 40 (.cn undef)
        .nil)
      (.ifg (.vr 35) true
        (.op (some 41) (.convert 50 9 (.tmp 40)) 9 [(40, (.vr 40))] []
        .nil)
        (.set 41 (.cn undef)
        .nil)
      (.chk (.gd (.vr 35) true (.bn (.eqs false) (.vr 38) (.vr 41)))
      (.chk (.and (.vr 35) (.bn (.eqs false) (.vr 38) (.vr 41)))
      (.set 8 (.and (.vr 35) (.bn (.eqs false) (.vr 38) (.vr 41)))
      .nil))))))
      (.ifg (.vr 35) true
        (.call (some 40) 59 [(.vr 10)] []
        .nil)
        (.set 40 (.cn undef)
        .nil)
      (.alt
        (.ifg (.vr 35) true
          (.op (some 38) (.convert 50 9 (.tmp 37)) 9 [(37, (.vr 37))] []
          .nil)
          (.set 38 (.cn undef)
          .nil)
        (.ifg (.vr 35) true
          (.op (some 41) (.convert 50 9 (.tmp 40)) 9 [(40, (.vr 40))] []
          .nil)
          (.set 41 (.cn undef)
          .nil)
        (.chk (.gd (.vr 35) true (.bn (.eqs false) (.vr 38) (.vr 41)))
        (.chk (.and (.vr 35) (.bn (.eqs false) (.vr 38) (.vr 41)))
        (.set 8 (.and (.vr 35) (.bn (.eqs false) (.vr 38) (.vr 41)))
        .nil)))))
        (.ifg (.vr 35) true
          (.op (some 41) (.convert 50 9 (.tmp 40)) 9 [(40, (.vr 40))] []
          .nil)
          (.set 41 (.cn undef)
          .nil)
        (.ifg (.vr 35) true
          (.op (some 38) (.convert 50 9 (.tmp 37)) 9 [(37, (.vr 37))] []
          .nil)
          (.set 38 (.cn undef)
          .nil)
        (.chk (.gd (.vr 35) true (.bn (.eqs false) (.vr 38) (.vr 41)))
        (.chk (.and (.vr 35) (.bn (.eqs false) (.vr 38) (.vr 41)))
        (.set 8 (.and (.vr 35) (.bn (.eqs false) (.vr 38) (.vr 41)))
        .nil)))))))))))))))))))
  .ret))))))
def fc29 : Fc := ⟨44, s29, [(.vr 8)]⟩
theorem c29 : compF Try.prog 29 = some fc29 := by kernel_rfl

/-- kinora/kinoraref24.Ints · parameters 2 · 0:a 1:b 5:i -/
def s30 : S :=
  (.set 4 (.cn (.bool false))
  (.chk (.un .ln (.vr 0))
  (.chk (.un .ln (.vr 1))
  (.set 10 (.bn (.cm .neq .i64) (.un .ln (.vr 0)) (.un .ln (.vr 1)))
  (.ite (.vr 10)
    (.set 4 (.cn (.bool false))
    .ret)
    .nil
  (.set 5 (.cn (.int .i64 0))
  (.blk 0
    (.loop
      (.chk (.un .ln (.vr 0))
      (.chk (.bn (.cm .lss .i64) (.vr 5) (.un .ln (.vr 0)))
      (.set 14 (.bn (.cm .lss .i64) (.vr 5) (.un .ln (.vr 0)))
      (.ite (.vr 14)
        .nil
        (.exit 0)
      (.blk 1
        (.draw
        (.chk (.bn (.ia 1) (.vr 0) (.vr 5))
        (.chk (.ld (.bn (.ia 1) (.vr 0) (.vr 5)))
        (.chk (.bn (.ia 1) (.vr 1) (.vr 5))
        (.chk (.ld (.bn (.ia 1) (.vr 1) (.vr 5)))
        (.chk (.bn (.cm .neq .i64) (.ld (.bn (.ia 1) (.vr 0) (.vr 5))) (.ld (.bn (.ia 1) (.vr 1) (.vr 5))))
        (.set 25 (.bn (.cm .neq .i64) (.ld (.bn (.ia 1) (.vr 0) (.vr 5))) (.ld (.bn (.ia 1) (.vr 1) (.vr 5))))
        (.ite (.vr 25)
          (.set 4 (.cn (.bool false))
          .ret)
          .nil
        .nil))))))))
      (.chk (.bn (.ar .add .i64) (.vr 5) (.cn (.int .i64 1)))
      (.set 5 (.bn (.ar .add .i64) (.vr 5) (.cn (.int .i64 1)))
      .nil))))))))
  (.set 4 (.cn (.bool true))
  .ret))))))))
def fc30 : Fc := ⟨26, s30, [(.vr 4)]⟩
theorem c30 : compF Try.prog 30 = some fc30 := by kernel_rfl

/-- kinora/kinoralaw26.gets · parameters 4 · 0:b 1:w 2:h 3:depth 9:r 10:s 11:x 12:e 13:y 14:f -/
def s31 : S :=
  (.set 8 (.cn (.bool false))
  (.call (some 16) 28 [(.vr 0)] []
  (.call (some 18) 60 [(.vr 0)] []
  (.set 9 (.vr 16)
  (.set 10 (.vr 18)
  (.call (some 24) 27 [(.vr 9), (.vr 1), (.vr 2), (.vr 3)] []
  (.chk (.un (.ex 0) (.vr 24))
  (.chk (.un (.ex 1) (.vr 24))
  (.set 11 (.un (.ex 0) (.vr 24))
  (.set 12 (.un (.ex 1) (.vr 24))
  (.call (some 32) 61 [(.vr 10), (.vr 1), (.vr 2), (.vr 3)] []
  (.chk (.un (.ex 0) (.vr 32))
  (.chk (.un (.ex 1) (.vr 32))
  (.set 13 (.un (.ex 0) (.vr 32))
  (.set 14 (.un (.ex 1) (.vr 32))
  (.call (some 37) 30 [(.vr 11), (.vr 13)] []
  (.set 38 (.vr 37)
  (.chk (.gd (.vr 38) true (.bn (.cm .eql .i64) (.vr 12) (.vr 14)))
  (.chk (.and (.vr 38) (.bn (.cm .eql .i64) (.vr 12) (.vr 14)))
  (.set 43 (.and (.vr 38) (.bn (.cm .eql .i64) (.vr 12) (.vr 14)))
  (.chk (.gd (.vr 43) true (.bn (.cm .neq .i64) (.vr 12) (.cn (.int .i64 0))))
  (.set 46 (.gd (.vr 43) true (.bn (.cm .neq .i64) (.vr 12) (.cn (.int .i64 0))))
  (.ifg (.vr 46) false
    (.call (some 48) 62 [(.vr 9)] []
    .nil)
    (.set 48 (.cn undef)
    .nil)
  (.ifg (.vr 46) false
    (.call (some 50) 63 [(.vr 10)] []
    .nil)
    (.set 50 (.cn undef)
    .nil)
  (.chk (.gd (.vr 46) false (.bn (.cm .eql .i64) (.vr 48) (.vr 50)))
  (.chk (.gd (.vr 43) true (.or (.vr 46) (.bn (.cm .eql .i64) (.vr 48) (.vr 50))))
  (.chk (.and (.vr 43) (.or (.vr 46) (.bn (.cm .eql .i64) (.vr 48) (.vr 50))))
  (.set 8 (.and (.vr 43) (.or (.vr 46) (.bn (.cm .eql .i64) (.vr 48) (.vr 50))))
  .ret))))))))))))))))))))))))))))
def fc31 : Fc := ⟨54, s31, [(.vr 8)]⟩
theorem c31 : compF Try.prog 31 = some fc31 := by kernel_rfl

/-- kinora/kinoraref24.Depth · parameters 1 · 0:n -/
def s32 : S :=
  (.set 2 (.cn (.bool false))
  (.chk (.bn (.cm .geq .i64) (.vr 0) (.cn (.int .i64 1)))
  (.chk (.gd (.bn (.cm .geq .i64) (.vr 0) (.cn (.int .i64 1))) true (.bn (.cm .leq .i64) (.vr 0) (.cn (.int .i64 16))))
  (.set 2 (.and (.bn (.cm .geq .i64) (.vr 0) (.cn (.int .i64 1))) (.bn (.cm .leq .i64) (.vr 0) (.cn (.int .i64 16))))
  .ret))))
def fc32 : Fc := ⟨9, s32, [(.vr 2)]⟩
theorem c32 : compF Try.prog 32 = some fc32 := by kernel_rfl

/-- kinora/kinoraref27.ModelContext · parameters 5 · 0:w 1:n 2:a 3:b 4:depth 12:x 13:y 14:z 15:ok 16:c -/
def s33 : S :=
  (.set 10 (.cn (.int .i64 0))
  (.set 11 (.cn (.bool false))
  (.call (some 23) 64 [(.vr 0), (.vr 1), (.vr 2), (.vr 3), (.vr 4)] []
  (.chk (.un (.ex 0) (.vr 23))
  (.chk (.un (.ex 1) (.vr 23))
  (.chk (.un (.ex 2) (.vr 23))
  (.chk (.un (.ex 3) (.vr 23))
  (.set 12 (.un (.ex 0) (.vr 23))
  (.set 13 (.un (.ex 1) (.vr 23))
  (.set 14 (.un (.ex 2) (.vr 23))
  (.set 15 (.un (.ex 3) (.vr 23))
  (.chk (.un .not (.vr 15))
  (.set 29 (.un .not (.vr 15))
  (.ite (.vr 29)
    (.set 10 (.cn (.int .i64 0))
    (.set 11 (.cn (.bool false))
    .ret))
    .nil
  (.chk (.bn (.ar .mul .i64) (.cn (.int .i64 81)) (.vr 12))
  (.chk (.bn (.ar .mul .i64) (.cn (.int .i64 9)) (.vr 13))
  (.chk (.bn (.ar .add .i64) (.bn (.ar .add .i64) (.bn (.ar .mul .i64) (.cn (.int .i64 81)) (.vr 12)) (.bn (.ar .mul .i64) (.cn (.int .i64 9)) (.vr 13))) (.vr 14))
  (.set 16 (.bn (.ar .add .i64) (.bn (.ar .add .i64) (.bn (.ar .mul .i64) (.cn (.int .i64 81)) (.vr 12)) (.bn (.ar .mul .i64) (.cn (.int .i64 9)) (.vr 13))) (.vr 14))
  (.call (some 38) 44 [(.vr 16)] []
  (.chk (.bn (.cm .lss .i64) (.vr 16) (.cn (.int .i64 0)))
  (.set 10 (.vr 38)
  (.set 11 (.bn (.cm .lss .i64) (.vr 16) (.cn (.int .i64 0)))
  .ret))))))))))))))))))))))
def fc33 : Fc := ⟨41, s33, [(.vr 10), (.vr 11)]⟩
theorem c33 : compF Try.prog 33 = some fc33 := by kernel_rfl

/-- kinora/model.Level · parameters 2 · 0:g 1:depth 5:level 6:u -/
def s34 : S :=
  (.set 4 (.cn (.int .i64 0))
  (.call (some 8) 41 [(.vr 1)] []
  (.chk (.un .not (.vr 8))
  (.set 10 (.un .not (.vr 8))
  (.chk (.gd (.vr 10) false (.bn (.sh true .i64) (.cn (.int .i64 (-1))) (.vr 1)))
  (.chk (.gd (.vr 10) false (.bn (.cm .leq .i64) (.vr 0) (.bn (.sh true .i64) (.cn (.int .i64 (-1))) (.vr 1))))
  (.chk (.or (.vr 10) (.bn (.cm .leq .i64) (.vr 0) (.bn (.sh true .i64) (.cn (.int .i64 (-1))) (.vr 1))))
  (.set 16 (.or (.vr 10) (.bn (.cm .leq .i64) (.vr 0) (.bn (.sh true .i64) (.cn (.int .i64 (-1))) (.vr 1))))
  (.chk (.gd (.vr 16) false (.bn (.sh true .i64) (.cn (.int .i64 1)) (.vr 1)))
  (.chk (.gd (.vr 16) false (.bn (.cm .geq .i64) (.vr 0) (.bn (.sh true .i64) (.cn (.int .i64 1)) (.vr 1))))
  (.chk (.or (.vr 16) (.bn (.cm .geq .i64) (.vr 0) (.bn (.sh true .i64) (.cn (.int .i64 1)) (.vr 1))))
  (.set 22 (.or (.vr 16) (.bn (.cm .geq .i64) (.vr 0) (.bn (.sh true .i64) (.cn (.int .i64 1)) (.vr 1))))
  (.chk (.gd (.vr 22) false (.bn (.cm .eql .i64) (.vr 0) (.cn (.int .i64 0))))
  (.chk (.or (.vr 22) (.bn (.cm .eql .i64) (.vr 0) (.cn (.int .i64 0))))
  (.set 25 (.or (.vr 22) (.bn (.cm .eql .i64) (.vr 0) (.cn (.int .i64 0))))
  (.ite (.vr 25)
    (.set 4 (.cn (.int .i64 0))
    .ret)
    .nil
  (.set 5 (.cn (.int .i64 4))
  (.call (some 27) 40 [(.vr 0)] []
  (.chk (.bn (.ar .mul .i64) (.vr 27) (.cn (.int .i64 256)))
  (.chk (.bn (.sh false .i64) (.bn (.ar .mul .i64) (.vr 27) (.cn (.int .i64 256))) (.vr 1))
  (.set 6 (.bn (.sh false .i64) (.bn (.ar .mul .i64) (.vr 27) (.cn (.int .i64 256))) (.vr 1))
  (.blk 0
    (.chk (.bn (.cm .lss .i64) (.vr 6) (.cn (.int .i64 3)))
    (.set 31 (.bn (.cm .lss .i64) (.vr 6) (.cn (.int .i64 3)))
    (.ite (.vr 31)
      (.set 5 (.cn (.int .i64 1))
      .nil)
      (.chk (.bn (.cm .lss .i64) (.vr 6) (.cn (.int .i64 7)))
      (.set 34 (.bn (.cm .lss .i64) (.vr 6) (.cn (.int .i64 7)))
      (.ite (.vr 34)
        (.set 5 (.cn (.int .i64 2))
        .nil)
        (.chk (.bn (.cm .lss .i64) (.vr 6) (.cn (.int .i64 21)))
        (.set 37 (.bn (.cm .lss .i64) (.vr 6) (.cn (.int .i64 21)))
        (.ite (.vr 37)
          (.set 5 (.cn (.int .i64 3))
          .nil)
          .nil
        .nil)))
      .nil)))
    .nil)))
  (.chk (.bn (.cm .lss .i64) (.vr 0) (.cn (.int .i64 0)))
  (.set 41 (.bn (.cm .lss .i64) (.vr 0) (.cn (.int .i64 0)))
  (.ite (.vr 41)
    (.chk (.un (.neg .i64) (.vr 5))
    (.set 4 (.un (.neg .i64) (.vr 5))
    .ret))
    .nil
  (.set 4 (.vr 5)
  .ret))))))))))))))))))))))))))
def fc34 : Fc := ⟨45, s34, [(.vr 4)]⟩
theorem c34 : compF Try.prog 34 = some fc34 := by kernel_rfl

/-- kinora/kinoraref27.ModelLevel · parameters 2 · 0:g 1:depth 5:u 6:n -/
def s35 : S :=
  (.set 4 (.cn (.int .i64 0))
  (.call (some 8) 32 [(.vr 1)] []
  (.chk (.un .not (.vr 8))
  (.set 10 (.un .not (.vr 8))
  (.ifg (.vr 10) false
    (.call (some 12) 44 [(.vr 0)] []
    .nil)
    (.set 12 (.cn undef)
    .nil)
  (.chk (.gd (.vr 10) false (.un (.cv .u64) (.vr 1)))
  (.chk (.gd (.vr 10) false (.bn (.sh true .i64) (.cn (.int .i64 1)) (.un (.cv .u64) (.vr 1))))
  (.chk (.gd (.vr 10) false (.bn (.cm .geq .i64) (.vr 12) (.bn (.sh true .i64) (.cn (.int .i64 1)) (.un (.cv .u64) (.vr 1)))))
  (.chk (.or (.vr 10) (.bn (.cm .geq .i64) (.vr 12) (.bn (.sh true .i64) (.cn (.int .i64 1)) (.un (.cv .u64) (.vr 1)))))
  (.set 18 (.or (.vr 10) (.bn (.cm .geq .i64) (.vr 12) (.bn (.sh true .i64) (.cn (.int .i64 1)) (.un (.cv .u64) (.vr 1)))))
  (.chk (.gd (.vr 18) false (.bn (.cm .eql .i64) (.vr 0) (.cn (.int .i64 0))))
  (.chk (.or (.vr 18) (.bn (.cm .eql .i64) (.vr 0) (.cn (.int .i64 0))))
  (.set 22 (.or (.vr 18) (.bn (.cm .eql .i64) (.vr 0) (.cn (.int .i64 0))))
  (.chk (.gd (.vr 22) false (.un (.neg .i64) (.vr 0)))
  (.chk (.gd (.vr 22) false (.bn (.cm .eql .i64) (.vr 0) (.un (.neg .i64) (.vr 0))))
  (.chk (.or (.vr 22) (.bn (.cm .eql .i64) (.vr 0) (.un (.neg .i64) (.vr 0))))
  (.set 27 (.or (.vr 22) (.bn (.cm .eql .i64) (.vr 0) (.un (.neg .i64) (.vr 0))))
  (.ite (.vr 27)
    (.set 4 (.cn (.int .i64 0))
    .ret)
    .nil
  (.call (some 29) 44 [(.vr 0)] []
  (.chk (.bn (.ar .mul .i64) (.vr 29) (.cn (.int .i64 256)))
  (.chk (.un (.cv .u64) (.vr 1))
  (.chk (.bn (.sh false .i64) (.bn (.ar .mul .i64) (.vr 29) (.cn (.int .i64 256))) (.un (.cv .u64) (.vr 1)))
  (.set 5 (.bn (.sh false .i64) (.bn (.ar .mul .i64) (.vr 29) (.cn (.int .i64 256))) (.un (.cv .u64) (.vr 1)))
  (.set 6 (.cn (.int .i64 4))
  (.blk 0
    (.chk (.bn (.cm .lss .i64) (.vr 5) (.cn (.int .i64 3)))
    (.set 34 (.bn (.cm .lss .i64) (.vr 5) (.cn (.int .i64 3)))
    (.ite (.vr 34)
      (.set 6 (.cn (.int .i64 1))
      .nil)
      (.chk (.bn (.cm .lss .i64) (.vr 5) (.cn (.int .i64 7)))
      (.set 37 (.bn (.cm .lss .i64) (.vr 5) (.cn (.int .i64 7)))
      (.ite (.vr 37)
        (.set 6 (.cn (.int .i64 2))
        .nil)
        (.chk (.bn (.cm .lss .i64) (.vr 5) (.cn (.int .i64 21)))
        (.set 40 (.bn (.cm .lss .i64) (.vr 5) (.cn (.int .i64 21)))
        (.ite (.vr 40)
          (.set 6 (.cn (.int .i64 3))
          .nil)
          .nil
        .nil)))
      .nil)))
    .nil)))
  (.chk (.bn (.cm .lss .i64) (.vr 0) (.cn (.int .i64 0)))
  (.set 44 (.bn (.cm .lss .i64) (.vr 0) (.cn (.int .i64 0)))
  (.ite (.vr 44)
    (.chk (.un (.neg .i64) (.vr 6))
    (.set 4 (.un (.neg .i64) (.vr 6))
    .ret))
    .nil
  (.set 4 (.vr 6)
  .ret)))))))))))))))))))))))))))))
def fc35 : Fc := ⟨48, s35, [(.vr 4)]⟩
theorem c35 : compF Try.prog 35 = some fc35 := by kernel_rfl

/-- kinora/kinoraref27.ModelClass · parameters 5 · 0:w 1:n 2:a 3:b 4:depth 11:x 12:y 13:z -/
def s36 : S :=
  (.set 10 (.cn (.int .i64 0))
  (.call (some 21) 64 [(.vr 0), (.vr 1), (.vr 2), (.vr 3), (.vr 4)] []
  (.chk (.un (.ex 0) (.vr 21))
  (.chk (.un (.ex 1) (.vr 21))
  (.chk (.un (.ex 2) (.vr 21))
  (.chk (.un (.ex 3) (.vr 21))
  (.set 11 (.un (.ex 0) (.vr 21))
  (.set 12 (.un (.ex 1) (.vr 21))
  (.set 13 (.un (.ex 2) (.vr 21))
  (.call (some 27) 44 [(.vr 11)] []
  (.call (some 29) 44 [(.vr 12)] []
  (.chk (.bn (.ar .add .i64) (.vr 27) (.vr 29))
  (.call (some 32) 44 [(.vr 13)] []
  (.chk (.bn (.ar .add .i64) (.bn (.ar .add .i64) (.vr 27) (.vr 29)) (.vr 32))
  (.set 10 (.bn (.ar .add .i64) (.bn (.ar .add .i64) (.vr 27) (.vr 29)) (.vr 32))
  .ret)))))))))))))))
def fc36 : Fc := ⟨34, s36, [(.vr 10)]⟩
theorem c36 : compF Try.prog 36 = some fc36 := by kernel_rfl

/-- (*kinora/model.Model).K · parameters 2 · 0:m 1:ctx 5:k -/
def s37 : S :=
  (.set 4 (.cn (.int .i64 0))
  (.call (some 7) 42 [(.vr 1)] []
  (.chk (.un .not (.vr 7))
  (.set 8 (.un .not (.vr 7))
  (.ite (.vr 8)
    (.set 4 (.cn (.int .i64 0))
    .ret)
    .nil
  (.set 5 (.cn (.int .i64 0))
  (.blk 0
    (.loop
      (.draw
      (.chk (.un .nck (.vr 0))
      (.chk (.un (.fa 1) (.un .nck (.vr 0)))
      (.chk (.bn (.aa 365 4) (.un (.fa 1) (.un .nck (.vr 0))) (.vr 1))
      (.chk (.un (.fa 0) (.bn (.aa 365 4) (.un (.fa 1) (.un .nck (.vr 0))) (.vr 1)))
      (.chk (.ld (.un (.fa 0) (.bn (.aa 365 4) (.un (.fa 1) (.un .nck (.vr 0))) (.vr 1))))
      (.chk (.bn (.sh true .i64) (.ld (.un (.fa 0) (.bn (.aa 365 4) (.un (.fa 1) (.un .nck (.vr 0))) (.vr 1)))) (.vr 5))
      (.chk (.un .nck (.vr 0))
      (.chk (.un (.fa 1) (.un .nck (.vr 0)))
      (.chk (.bn (.aa 365 4) (.un (.fa 1) (.un .nck (.vr 0))) (.vr 1))
      (.chk (.un (.fa 1) (.bn (.aa 365 4) (.un (.fa 1) (.un .nck (.vr 0))) (.vr 1)))
      (.chk (.ld (.un (.fa 1) (.bn (.aa 365 4) (.un (.fa 1) (.un .nck (.vr 0))) (.vr 1))))
      (.chk (.bn (.cm .lss .i64) (.bn (.sh true .i64) (.ld (.un (.fa 0) (.bn (.aa 365 4) (.un (.fa 1) (.un .nck (.vr 0))) (.vr 1)))) (.vr 5)) (.ld (.un (.fa 1) (.bn (.aa 365 4) (.un (.fa 1) (.un .nck (.vr 0))) (.vr 1)))))
      (.set 25 (.bn (.cm .lss .i64) (.bn (.sh true .i64) (.ld (.un (.fa 0) (.bn (.aa 365 4) (.un (.fa 1) (.un .nck (.vr 0))) (.vr 1)))) (.vr 5)) (.ld (.un (.fa 1) (.bn (.aa 365 4) (.un (.fa 1) (.un .nck (.vr 0))) (.vr 1)))))
      (.ite (.vr 25)
        .nil
        (.exit 0)
      (.blk 1
        (.chk (.bn (.ar .add .i64) (.vr 5) (.cn (.int .i64 1)))
        (.set 5 (.bn (.ar .add .i64) (.vr 5) (.cn (.int .i64 1)))
        .nil))
      .nil)))))))))))))))))
  (.set 4 (.vr 5)
  .ret))))))))
def fc37 : Fc := ⟨29, s37, [(.vr 4)]⟩
theorem c37 : compF Try.prog 37 = some fc37 := by kernel_rfl

/-- (*kinora/model.Model).Guess · parameters 4 · 0:m 1:ctx 2:guess 3:turned 9:most 10:c -/
def s38 : S :=
  (.set 8 (.cn (.int .i64 0))
  (.chk (.un .nck (.vr 0))
  (.chk (.un (.fa 0) (.un .nck (.vr 0)))
  (.chk (.ld (.un (.fa 0) (.un .nck (.vr 0))))
  (.chk (.bn (.sh true .i64) (.cn (.int .i64 1)) (.ld (.un (.fa 0) (.un .nck (.vr 0)))))
  (.set 9 (.bn (.ar .sub .i64) (.bn (.sh true .i64) (.cn (.int .i64 1)) (.ld (.un (.fa 0) (.un .nck (.vr 0))))) (.cn (.int .i64 1)))
  (.call (some 18) 42 [(.vr 1)] []
  (.chk (.un .not (.vr 18))
  (.set 20 (.un .not (.vr 18))
  (.chk (.gd (.vr 20) false (.bn (.cm .lss .i64) (.vr 2) (.cn (.int .i64 0))))
  (.chk (.or (.vr 20) (.bn (.cm .lss .i64) (.vr 2) (.cn (.int .i64 0))))
  (.set 24 (.or (.vr 20) (.bn (.cm .lss .i64) (.vr 2) (.cn (.int .i64 0))))
  (.chk (.gd (.vr 24) false (.bn (.cm .gtr .i64) (.vr 2) (.vr 9)))
  (.chk (.or (.vr 24) (.bn (.cm .gtr .i64) (.vr 2) (.vr 9)))
  (.set 28 (.or (.vr 24) (.bn (.cm .gtr .i64) (.vr 2) (.vr 9)))
  (.ite (.vr 28)
    (.set 8 (.cn (.int .i64 0))
    .ret)
    .nil
  (.chk (.un .nck (.vr 0))
  (.chk (.un (.fa 1) (.un .nck (.vr 0)))
  (.chk (.bn (.aa 365 4) (.un (.fa 1) (.un .nck (.vr 0))) (.vr 1))
  (.chk (.un (.fa 3) (.bn (.aa 365 4) (.un (.fa 1) (.un .nck (.vr 0))) (.vr 1)))
  (.chk (.ld (.un (.fa 3) (.bn (.aa 365 4) (.un (.fa 1) (.un .nck (.vr 0))) (.vr 1))))
  (.set 10 (.ld (.un (.fa 3) (.bn (.aa 365 4) (.un (.fa 1) (.un .nck (.vr 0))) (.vr 1))))
  (.set 36 (.vr 3)
  (.ite (.vr 36)
    (.chk (.un (.neg .i64) (.vr 10))
    (.set 10 (.un (.neg .i64) (.vr 10))
    .nil))
    .nil
  (.chk (.bn (.ar .add .i64) (.vr 2) (.vr 10))
  (.chk (.bn (.mn .i64) (.bn (.mx .i64) (.bn (.ar .add .i64) (.vr 2) (.vr 10)) (.cn (.int .i64 0))) (.vr 9))
  (.set 8 (.bn (.mn .i64) (.bn (.mx .i64) (.bn (.ar .add .i64) (.vr 2) (.vr 10)) (.cn (.int .i64 0))) (.vr 9))
  .ret)))))))))))))))))))))))))))
def fc38 : Fc := ⟨45, s38, [(.vr 8)]⟩
theorem c38 : compF Try.prog 38 = some fc38 := by kernel_rfl

/-- kinora/model.levels · parameters 5 · 0:west 1:north 2:northwest 3:northeast 4:depth 12:s -/
def s39 : S :=
  (.op (some 10) (.alloc 68) 0 [] []
  (.call (some 14) 41 [(.vr 4)] []
  (.chk (.un .not (.vr 14))
  (.set 15 (.un .not (.vr 14))
  (.ite (.vr 15)
    (.st 3 (.vr 10) (.cn (.agg #[(.int .i64 0), (.int .i64 0), (.int .i64 0)])) []
    .ret)
    .nil
  (.chk (.bd 3 1 (.vr 3) (.bd 2 1 (.vr 2) (.bd 1 1 (.vr 1) (.bd 0 1 (.vr 0) (.cn (.agg #[(.int .i64 0), (.int .i64 0), (.int .i64 0), (.int .i64 0)]))))))
  (.set 21 (.bd 3 1 (.vr 3) (.bd 2 1 (.vr 2) (.bd 1 1 (.vr 1) (.bd 0 1 (.vr 0) (.cn (.agg #[(.int .i64 0), (.int .i64 0), (.int .i64 0), (.int .i64 0)]))))))
  (.set 22 (.cn (.int .i64 0))
  (.blk 0
    (.loop
      (.chk (.bn (.cm .lss .i64) (.vr 22) (.cn (.int .i64 4)))
      (.set 23 (.bn (.cm .lss .i64) (.vr 22) (.cn (.int .i64 4)))
      (.ite (.vr 23)
        .nil
        (.exit 0)
      (.blk 1
        (.chk (.bn (.ix1 4 1) (.vr 21) (.vr 22))
        (.set 12 (.bn (.ix1 4 1) (.vr 21) (.vr 22))
        (.chk (.bn (.cm .lss .i64) (.vr 12) (.cn (.int .i64 0)))
        (.chk (.gd (.bn (.cm .lss .i64) (.vr 12) (.cn (.int .i64 0))) false (.bn (.sh true .i64) (.cn (.int .i64 1)) (.vr 4)))
        (.chk (.gd (.bn (.cm .lss .i64) (.vr 12) (.cn (.int .i64 0))) false (.bn (.cm .geq .i64) (.vr 12) (.bn (.sh true .i64) (.cn (.int .i64 1)) (.vr 4))))
        (.set 32 (.or (.bn (.cm .lss .i64) (.vr 12) (.cn (.int .i64 0))) (.bn (.cm .geq .i64) (.vr 12) (.bn (.sh true .i64) (.cn (.int .i64 1)) (.vr 4))))
        (.ite (.vr 32)
          (.st 3 (.vr 10) (.cn (.agg #[(.int .i64 0), (.int .i64 0), (.int .i64 0)])) []
          .ret)
          .nil
        .nil)))))))
      (.chk (.bn (.ar .add .i64) (.vr 22) (.cn (.int .i64 1)))
      (.set 22 (.bn (.ar .add .i64) (.vr 22) (.cn (.int .i64 1)))
      .nil)))))))
  (.chk (.bn (.ar .sub .i64) (.vr 3) (.vr 1))
  (.call (some 39) 34 [(.bn (.ar .sub .i64) (.vr 3) (.vr 1)), (.vr 4)] []
  (.chk (.bn (.ar .sub .i64) (.vr 1) (.vr 2))
  (.call (some 44) 34 [(.bn (.ar .sub .i64) (.vr 1) (.vr 2)), (.vr 4)] []
  (.chk (.bn (.ar .sub .i64) (.vr 2) (.vr 0))
  (.call (some 49) 34 [(.bn (.ar .sub .i64) (.vr 2) (.vr 0)), (.vr 4)] []
  (.chk (.bd 2 1 (.vr 49) (.bd 1 1 (.vr 44) (.bd 0 1 (.vr 39) (.cn (.agg #[(.int .i64 0), (.int .i64 0), (.int .i64 0)])))))
  (.st 3 (.vr 10) (.bd 2 1 (.vr 49) (.bd 1 1 (.vr 44) (.bd 0 1 (.vr 39) (.cn (.agg #[(.int .i64 0), (.int .i64 0), (.int .i64 0)]))))) []
  .ret)))))))))))))))))
def fc39 : Fc := ⟨51, s39, [(.ldn 3 (.vr 10))]⟩
theorem c39 : compF Try.prog 39 = some fc39 := by kernel_rfl

/-- kinora/model.abs · parameters 1 · 0:v -/
def s40 : S :=
  (.set 2 (.cn (.int .i64 0))
  (.chk (.bn (.cm .lss .i64) (.vr 0) (.cn (.int .i64 0)))
  (.set 4 (.bn (.cm .lss .i64) (.vr 0) (.cn (.int .i64 0)))
  (.ite (.vr 4)
    (.chk (.un (.neg .i64) (.vr 0))
    (.set 2 (.un (.neg .i64) (.vr 0))
    .ret))
    .nil
  (.set 2 (.vr 0)
  .ret)))))
def fc40 : Fc := ⟨8, s40, [(.vr 2)]⟩
theorem c40 : compF Try.prog 40 = some fc40 := by kernel_rfl

/-- kinora/model.validDepth · parameters 1 · 0:depth -/
def s41 : S :=
  (.set 2 (.cn (.bool false))
  (.chk (.bn (.cm .geq .i64) (.vr 0) (.cn (.int .i64 1)))
  (.chk (.gd (.bn (.cm .geq .i64) (.vr 0) (.cn (.int .i64 1))) true (.bn (.cm .leq .i64) (.vr 0) (.cn (.int .i64 16))))
  (.set 2 (.and (.bn (.cm .geq .i64) (.vr 0) (.cn (.int .i64 1))) (.bn (.cm .leq .i64) (.vr 0) (.cn (.int .i64 16))))
  .ret))))
def fc41 : Fc := ⟨9, s41, [(.vr 2)]⟩
theorem c41 : compF Try.prog 41 = some fc41 := by kernel_rfl

/-- kinora/model.isContext · parameters 1 · 0:ctx -/
def s42 : S :=
  (.set 2 (.cn (.bool false))
  (.chk (.bn (.cm .geq .i64) (.vr 0) (.cn (.int .i64 0)))
  (.chk (.gd (.bn (.cm .geq .i64) (.vr 0) (.cn (.int .i64 0))) true (.bn (.cm .lss .i64) (.vr 0) (.cn (.int .i64 365))))
  (.set 2 (.and (.bn (.cm .geq .i64) (.vr 0) (.cn (.int .i64 0))) (.bn (.cm .lss .i64) (.vr 0) (.cn (.int .i64 365))))
  .ret))))
def fc42 : Fc := ⟨9, s42, [(.vr 2)]⟩
theorem c42 : compF Try.prog 42 = some fc42 := by kernel_rfl

/-- kinora/kinoraref27.is · parameters 1 · 0:ctx -/
def s43 : S :=
  (.set 2 (.cn (.bool false))
  (.chk (.bn (.cm .geq .i64) (.vr 0) (.cn (.int .i64 0)))
  (.chk (.gd (.bn (.cm .geq .i64) (.vr 0) (.cn (.int .i64 0))) true (.bn (.cm .lss .i64) (.vr 0) (.cn (.int .i64 365))))
  (.set 2 (.and (.bn (.cm .geq .i64) (.vr 0) (.cn (.int .i64 0))) (.bn (.cm .lss .i64) (.vr 0) (.cn (.int .i64 365))))
  .ret))))
def fc43 : Fc := ⟨9, s43, [(.vr 2)]⟩
theorem c43 : compF Try.prog 43 = some fc43 := by kernel_rfl

/-- kinora/kinoraref27.far · parameters 1 · 0:n -/
def s44 : S :=
  (.set 2 (.cn (.int .i64 0))
  (.chk (.un (.neg .i64) (.vr 0))
  (.chk (.bn (.mx .i64) (.vr 0) (.un (.neg .i64) (.vr 0)))
  (.set 2 (.bn (.mx .i64) (.vr 0) (.un (.neg .i64) (.vr 0)))
  .ret))))
def fc44 : Fc := ⟨7, s44, [(.vr 2)]⟩
theorem c44 : compF Try.prog 44 = some fc44 := by kernel_rfl

/-- (*kinora/kinoraref27.Model).Stat · parameters 2 · 0:m 1:ctx -/
def s45 : S :=
  (.set 4 (.cn (.int .i64 0))
  (.set 5 (.cn (.int .i64 0))
  (.set 6 (.cn (.int .i64 0))
  (.set 7 (.cn (.int .i64 0))
  (.call (some 9) 43 [(.vr 1)] []
  (.chk (.un .not (.vr 9))
  (.set 10 (.un .not (.vr 9))
  (.ite (.vr 10)
    (.set 4 (.cn (.int .i64 0))
    (.set 5 (.cn (.int .i64 0))
    (.set 6 (.cn (.int .i64 0))
    (.set 7 (.cn (.int .i64 0))
    .ret))))
    .nil
  (.draw
  (.chk (.un .nck (.vr 0))
  (.chk (.un (.fa 1) (.un .nck (.vr 0)))
  (.chk (.bn (.aa 365 4) (.un (.fa 1) (.un .nck (.vr 0))) (.vr 1))
  (.chk (.bn (.aa 4 1) (.bn (.aa 365 4) (.un (.fa 1) (.un .nck (.vr 0))) (.vr 1)) (.cn (.int .i64 0)))
  (.chk (.ld (.bn (.aa 4 1) (.bn (.aa 365 4) (.un (.fa 1) (.un .nck (.vr 0))) (.vr 1)) (.cn (.int .i64 0))))
  (.chk (.un .nck (.vr 0))
  (.chk (.un (.fa 1) (.un .nck (.vr 0)))
  (.chk (.bn (.aa 365 4) (.un (.fa 1) (.un .nck (.vr 0))) (.vr 1))
  (.chk (.bn (.aa 4 1) (.bn (.aa 365 4) (.un (.fa 1) (.un .nck (.vr 0))) (.vr 1)) (.cn (.int .i64 1)))
  (.chk (.ld (.bn (.aa 4 1) (.bn (.aa 365 4) (.un (.fa 1) (.un .nck (.vr 0))) (.vr 1)) (.cn (.int .i64 1))))
  (.chk (.un .nck (.vr 0))
  (.chk (.un (.fa 1) (.un .nck (.vr 0)))
  (.chk (.bn (.aa 365 4) (.un (.fa 1) (.un .nck (.vr 0))) (.vr 1))
  (.chk (.bn (.aa 4 1) (.bn (.aa 365 4) (.un (.fa 1) (.un .nck (.vr 0))) (.vr 1)) (.cn (.int .i64 2)))
  (.chk (.ld (.bn (.aa 4 1) (.bn (.aa 365 4) (.un (.fa 1) (.un .nck (.vr 0))) (.vr 1)) (.cn (.int .i64 2))))
  (.chk (.un .nck (.vr 0))
  (.chk (.un (.fa 1) (.un .nck (.vr 0)))
  (.chk (.bn (.aa 365 4) (.un (.fa 1) (.un .nck (.vr 0))) (.vr 1))
  (.chk (.bn (.aa 4 1) (.bn (.aa 365 4) (.un (.fa 1) (.un .nck (.vr 0))) (.vr 1)) (.cn (.int .i64 3)))
  (.chk (.ld (.bn (.aa 4 1) (.bn (.aa 365 4) (.un (.fa 1) (.un .nck (.vr 0))) (.vr 1)) (.cn (.int .i64 3))))
  (.set 4 (.ld (.bn (.aa 4 1) (.bn (.aa 365 4) (.un (.fa 1) (.un .nck (.vr 0))) (.vr 1)) (.cn (.int .i64 0))))
  (.set 5 (.ld (.bn (.aa 4 1) (.bn (.aa 365 4) (.un (.fa 1) (.un .nck (.vr 0))) (.vr 1)) (.cn (.int .i64 1))))
  (.set 6 (.ld (.bn (.aa 4 1) (.bn (.aa 365 4) (.un (.fa 1) (.un .nck (.vr 0))) (.vr 1)) (.cn (.int .i64 2))))
  (.set 7 (.ld (.bn (.aa 4 1) (.bn (.aa 365 4) (.un (.fa 1) (.un .nck (.vr 0))) (.vr 1)) (.cn (.int .i64 3))))
  .ret)))))))))))))))))))))))))))))))))
def fc45 : Fc := ⟨39, s45, [(.vr 4), (.vr 5), (.vr 6), (.vr 7)]⟩
theorem c45 : compF Try.prog 45 = some fc45 := by kernel_rfl

/-- (*kinora/kinoraref27.Model).K · parameters 2 · 0:m 1:ctx 5:k -/
def s46 : S :=
  (.set 4 (.cn (.int .i64 0))
  (.call (some 7) 43 [(.vr 1)] []
  (.chk (.un .not (.vr 7))
  (.set 8 (.un .not (.vr 7))
  (.ite (.vr 8)
    (.set 4 (.cn (.int .i64 0))
    .ret)
    .nil
  (.set 5 (.cn (.int .i64 0))
  (.blk 0
    (.loop
      (.draw
      (.chk (.un .nck (.vr 0))
      (.chk (.un (.fa 1) (.un .nck (.vr 0)))
      (.chk (.bn (.aa 365 4) (.un (.fa 1) (.un .nck (.vr 0))) (.vr 1))
      (.chk (.bn (.aa 4 1) (.bn (.aa 365 4) (.un (.fa 1) (.un .nck (.vr 0))) (.vr 1)) (.cn (.int .i64 0)))
      (.chk (.ld (.bn (.aa 4 1) (.bn (.aa 365 4) (.un (.fa 1) (.un .nck (.vr 0))) (.vr 1)) (.cn (.int .i64 0))))
      (.chk (.un (.cv .u64) (.vr 5))
      (.chk (.bn (.sh true .i64) (.ld (.bn (.aa 4 1) (.bn (.aa 365 4) (.un (.fa 1) (.un .nck (.vr 0))) (.vr 1)) (.cn (.int .i64 0)))) (.un (.cv .u64) (.vr 5)))
      (.chk (.un .nck (.vr 0))
      (.chk (.un (.fa 1) (.un .nck (.vr 0)))
      (.chk (.bn (.aa 365 4) (.un (.fa 1) (.un .nck (.vr 0))) (.vr 1))
      (.chk (.bn (.aa 4 1) (.bn (.aa 365 4) (.un (.fa 1) (.un .nck (.vr 0))) (.vr 1)) (.cn (.int .i64 1)))
      (.chk (.ld (.bn (.aa 4 1) (.bn (.aa 365 4) (.un (.fa 1) (.un .nck (.vr 0))) (.vr 1)) (.cn (.int .i64 1))))
      (.chk (.bn (.cm .lss .i64) (.bn (.sh true .i64) (.ld (.bn (.aa 4 1) (.bn (.aa 365 4) (.un (.fa 1) (.un .nck (.vr 0))) (.vr 1)) (.cn (.int .i64 0)))) (.un (.cv .u64) (.vr 5))) (.ld (.bn (.aa 4 1) (.bn (.aa 365 4) (.un (.fa 1) (.un .nck (.vr 0))) (.vr 1)) (.cn (.int .i64 1)))))
      (.set 26 (.bn (.cm .lss .i64) (.bn (.sh true .i64) (.ld (.bn (.aa 4 1) (.bn (.aa 365 4) (.un (.fa 1) (.un .nck (.vr 0))) (.vr 1)) (.cn (.int .i64 0)))) (.un (.cv .u64) (.vr 5))) (.ld (.bn (.aa 4 1) (.bn (.aa 365 4) (.un (.fa 1) (.un .nck (.vr 0))) (.vr 1)) (.cn (.int .i64 1)))))
      (.ite (.vr 26)
        .nil
        (.exit 0)
      (.blk 1
        (.chk (.bn (.ar .add .i64) (.vr 5) (.cn (.int .i64 1)))
        (.set 5 (.bn (.ar .add .i64) (.vr 5) (.cn (.int .i64 1)))
        .nil))
      .nil))))))))))))))))))
  (.set 4 (.vr 5)
  .ret))))))))
def fc46 : Fc := ⟨30, s46, [(.vr 4)]⟩
theorem c46 : compF Try.prog 46 = some fc46 := by kernel_rfl

/-- (*kinora/kinoraref27.Model).Guess · parameters 4 · 0:m 1:ctx 2:guess 3:turned 9:c -/
def s47 : S :=
  (.set 8 (.cn (.int .i64 0))
  (.call (some 11) 43 [(.vr 1)] []
  (.chk (.un .not (.vr 11))
  (.set 13 (.un .not (.vr 11))
  (.ifg (.vr 13) false
    (.op (some 15) (.buildSlice 33 1 #[(0, (.tmp 14))]) 33 [(14, (.vr 2))] []
    .nil)
    (.set 15 (.cn undef)
    .nil)
  (.chk (.gd (.vr 13) false (.un .nck (.vr 0)))
  (.chk (.gd (.vr 13) false (.un (.fa 0) (.un .nck (.vr 0))))
  (.chk (.gd (.vr 13) false (.ld (.un (.fa 0) (.un .nck (.vr 0)))))
  (.set 19 (.gd (.vr 13) false (.ld (.un (.fa 0) (.un .nck (.vr 0)))))
  (.ifg (.vr 13) false
    (.call (some 20) 65 [(.vr 15), (.vr 19)] []
    .nil)
    (.set 20 (.cn undef)
    .nil)
  (.chk (.gd (.vr 13) false (.un .not (.vr 20)))
  (.chk (.or (.vr 13) (.un .not (.vr 20)))
  (.set 22 (.or (.vr 13) (.un .not (.vr 20)))
  (.ite (.vr 22)
    (.set 8 (.cn (.int .i64 0))
    .ret)
    .nil
  (.chk (.un .nck (.vr 0))
  (.chk (.un (.fa 1) (.un .nck (.vr 0)))
  (.chk (.bn (.aa 365 4) (.un (.fa 1) (.un .nck (.vr 0))) (.vr 1))
  (.chk (.bn (.aa 4 1) (.bn (.aa 365 4) (.un (.fa 1) (.un .nck (.vr 0))) (.vr 1)) (.cn (.int .i64 3)))
  (.chk (.ld (.bn (.aa 4 1) (.bn (.aa 365 4) (.un (.fa 1) (.un .nck (.vr 0))) (.vr 1)) (.cn (.int .i64 3))))
  (.set 9 (.ld (.bn (.aa 4 1) (.bn (.aa 365 4) (.un (.fa 1) (.un .nck (.vr 0))) (.vr 1)) (.cn (.int .i64 3))))
  (.set 30 (.vr 3)
  (.ite (.vr 30)
    (.chk (.un (.neg .i64) (.vr 9))
    (.set 9 (.un (.neg .i64) (.vr 9))
    .nil))
    .nil
  (.chk (.bn (.ar .add .i64) (.vr 2) (.vr 9))
  (.chk (.un .nck (.vr 0))
  (.chk (.un (.fa 0) (.un .nck (.vr 0)))
  (.chk (.ld (.un (.fa 0) (.un .nck (.vr 0))))
  (.chk (.un (.cv .u64) (.ld (.un (.fa 0) (.un .nck (.vr 0)))))
  (.chk (.bn (.sh true .i64) (.cn (.int .i64 1)) (.un (.cv .u64) (.ld (.un (.fa 0) (.un .nck (.vr 0))))))
  (.set 8 (.bn (.mn .i64) (.bn (.mx .i64) (.bn (.ar .add .i64) (.vr 2) (.vr 9)) (.cn (.int .i64 0))) (.bn (.ar .sub .i64) (.bn (.sh true .i64) (.cn (.int .i64 1)) (.un (.cv .u64) (.ld (.un (.fa 0) (.un .nck (.vr 0)))))) (.cn (.int .i64 1))))
  .ret)))))))))))))))))))))))))))))
def fc47 : Fc := ⟨45, s47, [(.vr 8)]⟩
theorem c47 : compF Try.prog 47 = some fc47 := by kernel_rfl

/-- (*kinora/kinorakeep2.row).next · parameters 2 · 0:r 1:n -/
def s48 : S :=
  (.set 4 (.cn (.int .i64 0))
  (.chk (.un .nck (.vr 0))
  (.chk (.un (.fa 0) (.un .nck (.vr 0)))
  (.chk (.ld (.un (.fa 0) (.un .nck (.vr 0))))
  (.set 9 (.ld (.un (.fa 0) (.un .nck (.vr 0))))
  (.chk (.bn (.ar .mul .i64) (.vr 9) (.cn (.int .i64 1103515245)))
  (.chk (.un .nck (.vr 0))
  (.chk (.un (.fa 0) (.un .nck (.vr 0)))
  (.st 1 (.un (.fa 0) (.un .nck (.vr 0))) (.bn (.bt .and .i64) (.bn (.ar .add .i64) (.bn (.ar .mul .i64) (.vr 9) (.cn (.int .i64 1103515245))) (.cn (.int .i64 12345))) (.cn (.int .i64 2147483647))) []
  (.chk (.un .nck (.vr 0))
  (.chk (.un (.fa 0) (.un .nck (.vr 0)))
  (.chk (.ld (.un (.fa 0) (.un .nck (.vr 0))))
  (.chk (.bn (.sh false .i64) (.ld (.un (.fa 0) (.un .nck (.vr 0)))) (.cn (.int .u64 8)))
  (.chk (.bn (.dv true .i64) (.bn (.sh false .i64) (.ld (.un (.fa 0) (.un .nck (.vr 0)))) (.cn (.int .u64 8))) (.vr 1))
  (.set 4 (.bn (.dv true .i64) (.bn (.sh false .i64) (.ld (.un (.fa 0) (.un .nck (.vr 0)))) (.cn (.int .u64 8))) (.vr 1))
  .ret)))))))))))))))
def fc48 : Fc := ⟨22, s48, [(.vr 4)]⟩
theorem c48 : compF Try.prog 48 = some fc48 := by kernel_rfl

/-- kinora/model.isPlane · parameters 4 · 0:l 1:width 2:h 3:depth 10:s -/
def s49 : S :=
  (.set 8 (.cn (.bool false))
  (.chk (.bn (.cm .lss .i64) (.vr 1) (.cn (.int .i64 1)))
  (.set 13 (.bn (.cm .lss .i64) (.vr 1) (.cn (.int .i64 1)))
  (.chk (.gd (.vr 13) false (.bn (.cm .gtr .i64) (.vr 1) (.cn (.int .i64 64))))
  (.chk (.or (.vr 13) (.bn (.cm .gtr .i64) (.vr 1) (.cn (.int .i64 64))))
  (.set 17 (.or (.vr 13) (.bn (.cm .gtr .i64) (.vr 1) (.cn (.int .i64 64))))
  (.chk (.gd (.vr 17) false (.bn (.cm .lss .i64) (.vr 2) (.cn (.int .i64 1))))
  (.chk (.or (.vr 17) (.bn (.cm .lss .i64) (.vr 2) (.cn (.int .i64 1))))
  (.set 21 (.or (.vr 17) (.bn (.cm .lss .i64) (.vr 2) (.cn (.int .i64 1))))
  (.chk (.gd (.vr 21) false (.bn (.cm .gtr .i64) (.vr 2) (.cn (.int .i64 64))))
  (.chk (.or (.vr 21) (.bn (.cm .gtr .i64) (.vr 2) (.cn (.int .i64 64))))
  (.set 25 (.or (.vr 21) (.bn (.cm .gtr .i64) (.vr 2) (.cn (.int .i64 64))))
  (.ifg (.vr 25) false
    (.call (some 27) 41 [(.vr 3)] []
    .nil)
    (.set 27 (.cn undef)
    .nil)
  (.chk (.gd (.vr 25) false (.un .not (.vr 27)))
  (.chk (.or (.vr 25) (.un .not (.vr 27)))
  (.set 29 (.or (.vr 25) (.un .not (.vr 27)))
  (.ite (.vr 29)
    (.set 8 (.cn (.bool false))
    .ret)
    .nil
  (.chk (.un .ln (.vr 0))
  (.chk (.bn (.ar .mul .i64) (.vr 1) (.vr 2))
  (.set 35 (.bn (.cm .neq .i64) (.un .ln (.vr 0)) (.bn (.ar .mul .i64) (.vr 1) (.vr 2)))
  (.ite (.vr 35)
    (.set 8 (.cn (.bool false))
    .ret)
    .nil
  (.set 36 (.vr 0)
  (.chk (.un .ln (.vr 36))
  (.set 37 (.un .ln (.vr 36))
  (.set 38 (.cn (.int .i64 0))
  (.blk 0
    (.loop
      (.chk (.bn (.cm .lss .i64) (.vr 38) (.vr 37))
      (.set 39 (.bn (.cm .lss .i64) (.vr 38) (.vr 37))
      (.ite (.vr 39)
        .nil
        (.exit 0)
      (.blk 1
        (.chk (.bn (.ia 1) (.vr 36) (.vr 38))
        (.chk (.ld (.bn (.ia 1) (.vr 36) (.vr 38)))
        (.set 10 (.ld (.bn (.ia 1) (.vr 36) (.vr 38)))
        (.chk (.bn (.cm .lss .i64) (.vr 10) (.cn (.int .i64 0)))
        (.chk (.gd (.bn (.cm .lss .i64) (.vr 10) (.cn (.int .i64 0))) false (.bn (.sh true .i64) (.cn (.int .i64 1)) (.vr 3)))
        (.chk (.gd (.bn (.cm .lss .i64) (.vr 10) (.cn (.int .i64 0))) false (.bn (.cm .geq .i64) (.vr 10) (.bn (.sh true .i64) (.cn (.int .i64 1)) (.vr 3))))
        (.set 49 (.or (.bn (.cm .lss .i64) (.vr 10) (.cn (.int .i64 0))) (.bn (.cm .geq .i64) (.vr 10) (.bn (.sh true .i64) (.cn (.int .i64 1)) (.vr 3))))
        (.ite (.vr 49)
          (.set 8 (.cn (.bool false))
          .ret)
          .nil
        .nil))))))))
      (.chk (.bn (.ar .add .i64) (.vr 38) (.cn (.int .i64 1)))
      (.set 38 (.bn (.ar .add .i64) (.vr 38) (.cn (.int .i64 1)))
      .nil)))))))
  (.set 8 (.cn (.bool true))
  .ret)))))))))))))))))))))))))))
def fc49 : Fc := ⟨51, s49, [(.vr 8)]⟩
theorem c49 : compF Try.prog 49 = some fc49 := by kernel_rfl

/-- (*kinora/model.Model).look · parameters 4 · 0:m 1:l 2:width 3:i 8:ctx 9:turned 10:g 11:west 12:north 13:northwest 14:northeast -/
def s50 : S :=
  (.set 8 (.cn (.int .i64 0))
  (.set 9 (.cn (.bool false))
  (.set 10 (.cn (.int .i64 0))
  (.draw
  (.chk (.bn (.dv true .i64) (.vr 3) (.vr 2))
  (.chk (.bn (.dv false .i64) (.vr 3) (.vr 2))
  (.call (some 24) 66 [(.vr 1), (.vr 2), (.bn (.dv true .i64) (.vr 3) (.vr 2)), (.bn (.dv false .i64) (.vr 3) (.vr 2))] []
  (.chk (.un (.ex 0) (.vr 24))
  (.chk (.un (.ex 1) (.vr 24))
  (.chk (.un (.ex 2) (.vr 24))
  (.chk (.un (.ex 3) (.vr 24))
  (.set 11 (.un (.ex 0) (.vr 24))
  (.set 12 (.un (.ex 1) (.vr 24))
  (.set 13 (.un (.ex 2) (.vr 24))
  (.set 14 (.un (.ex 3) (.vr 24))
  (.chk (.un .nck (.vr 0))
  (.chk (.un (.fa 0) (.un .nck (.vr 0)))
  (.chk (.ld (.un (.fa 0) (.un .nck (.vr 0))))
  (.set 37 (.ld (.un (.fa 0) (.un .nck (.vr 0))))
  (.call (some 38) 12 [(.vr 11), (.vr 12), (.vr 13), (.vr 14), (.vr 37)] []
  (.chk (.un (.ex 0) (.vr 38))
  (.chk (.un (.ex 1) (.vr 38))
  (.set 8 (.un (.ex 0) (.vr 38))
  (.set 9 (.un (.ex 1) (.vr 38))
  (.chk (.un .nck (.vr 0))
  (.chk (.un (.fa 0) (.un .nck (.vr 0)))
  (.chk (.ld (.un (.fa 0) (.un .nck (.vr 0))))
  (.set 50 (.ld (.un (.fa 0) (.un .nck (.vr 0))))
  (.call (some 51) 67 [(.cn (.int .i64 7)), (.vr 11), (.vr 12), (.vr 13), (.vr 14), (.vr 50)] []
  (.call (some 53) 38 [(.vr 0), (.vr 8), (.vr 51), (.vr 9)] []
  (.set 10 (.vr 53)
  (.set 8 (.vr 8)
  (.set 9 (.vr 9)
  (.set 10 (.vr 10)
  .ret))))))))))))))))))))))))))))))))))
def fc50 : Fc := ⟨57, s50, [(.vr 8), (.vr 9), (.vr 10)]⟩
theorem c50 : compF Try.prog 50 = some fc50 := by kernel_rfl

/-- kinora/pic.Fold · parameters 2 · 0:v 1:depth -/
def s51 : S :=
  (.set 4 (.cn (.int .i64 0))
  (.chk (.bn (.cm .lss .i64) (.vr 1) (.cn (.int .i64 1)))
  (.chk (.gd (.bn (.cm .lss .i64) (.vr 1) (.cn (.int .i64 1))) false (.bn (.cm .gtr .i64) (.vr 1) (.cn (.int .i64 16))))
  (.set 10 (.or (.bn (.cm .lss .i64) (.vr 1) (.cn (.int .i64 1))) (.bn (.cm .gtr .i64) (.vr 1) (.cn (.int .i64 16))))
  (.ite (.vr 10)
    (.set 4 (.cn (.int .i64 0))
    .ret)
    .nil
  (.call (some 13) 55 [(.vr 0), (.vr 1)] []
  (.set 0 (.vr 13)
  (.chk (.bn (.ar .sub .i64) (.vr 1) (.cn (.int .i64 1)))
  (.chk (.bn (.sh true .i64) (.cn (.int .i64 1)) (.bn (.ar .sub .i64) (.vr 1) (.cn (.int .i64 1))))
  (.chk (.bn (.cm .geq .i64) (.vr 0) (.bn (.sh true .i64) (.cn (.int .i64 1)) (.bn (.ar .sub .i64) (.vr 1) (.cn (.int .i64 1)))))
  (.set 18 (.bn (.cm .geq .i64) (.vr 0) (.bn (.sh true .i64) (.cn (.int .i64 1)) (.bn (.ar .sub .i64) (.vr 1) (.cn (.int .i64 1)))))
  (.ite (.vr 18)
    (.chk (.bn (.sh true .i64) (.cn (.int .i64 1)) (.vr 1))
    (.chk (.bn (.ar .sub .i64) (.vr 0) (.bn (.sh true .i64) (.cn (.int .i64 1)) (.vr 1)))
    (.set 0 (.bn (.ar .sub .i64) (.vr 0) (.bn (.sh true .i64) (.cn (.int .i64 1)) (.vr 1)))
    .nil)))
    .nil
  (.set 4 (.vr 0)
  .ret)))))))))))))
def fc51 : Fc := ⟨24, s51, [(.vr 4)]⟩
theorem c51 : compF Try.prog 51 = some fc51 := by kernel_rfl

/-- kinora/rice.Put · parameters 3 · 0:w 1:k 2:l 8:x 10:x 11:u 12:q -/
def s52 : S :=
  (.set 6 (.cn (.int .i64 0))
  (.call (some 14) 68 [(.vr 1)] []
  (.chk (.un .not (.vr 14))
  (.set 15 (.un .not (.vr 14))
  (.ite (.vr 15)
    (.set 6 (.cn (.int .i64 1))
    .ret)
    .nil
  (.set 16 (.vr 2)
  (.chk (.un .ln (.vr 16))
  (.set 17 (.un .ln (.vr 16))
  (.set 18 (.cn (.int .i64 0))
  (.blk 0
    (.loop
      (.chk (.bn (.cm .lss .i64) (.vr 18) (.vr 17))
      (.set 19 (.bn (.cm .lss .i64) (.vr 18) (.vr 17))
      (.ite (.vr 19)
        .nil
        (.exit 0)
      (.blk 1
        (.chk (.bn (.ia 1) (.vr 16) (.vr 18))
        (.chk (.ld (.bn (.ia 1) (.vr 16) (.vr 18)))
        (.set 8 (.ld (.bn (.ia 1) (.vr 16) (.vr 18)))
        (.call (some 23) 69 [(.vr 8)] []
        (.chk (.un .not (.vr 23))
        (.set 24 (.un .not (.vr 23))
        (.ite (.vr 24)
          (.set 6 (.cn (.int .i64 1))
          .ret)
          .nil
        .nil)))))))
      (.chk (.bn (.ar .add .i64) (.vr 18) (.cn (.int .i64 1)))
      (.set 18 (.bn (.ar .add .i64) (.vr 18) (.cn (.int .i64 1)))
      .nil)))))))
  (.set 26 (.vr 2)
  (.chk (.un .ln (.vr 26))
  (.set 27 (.un .ln (.vr 26))
  (.set 28 (.cn (.int .i64 0))
  (.blk 2
    (.loop
      (.chk (.bn (.cm .lss .i64) (.vr 28) (.vr 27))
      (.set 29 (.bn (.cm .lss .i64) (.vr 28) (.vr 27))
      (.ite (.vr 29)
        .nil
        (.exit 2)
      (.blk 3
        (.chk (.bn (.ia 1) (.vr 26) (.vr 28))
        (.chk (.ld (.bn (.ia 1) (.vr 26) (.vr 28)))
        (.set 10 (.ld (.bn (.ia 1) (.vr 26) (.vr 28)))
        (.call (some 33) 70 [(.vr 10)] []
        (.set 11 (.vr 33)
        (.chk (.bn (.sh false .u64) (.vr 11) (.vr 1))
        (.set 12 (.bn (.sh false .u64) (.vr 11) (.vr 1))
        (.chk (.bn (.cm .lss .u64) (.vr 12) (.cn (.int .u64 32)))
        (.set 38 (.bn (.cm .lss .u64) (.vr 12) (.cn (.int .u64 32)))
        (.ite (.vr 38)
          (.chk (.un (.cv .i64) (.vr 12))
          (.call (some 42) 71 [(.vr 0), (.un (.cv .i64) (.vr 12))] []
          (.chk (.bn (.sh true .u64) (.vr 12) (.vr 1))
          (.chk (.bn (.ar .sub .u64) (.vr 11) (.bn (.sh true .u64) (.vr 12) (.vr 1)))
          (.call (some 50) 72 [(.vr 0), (.bn (.ar .sub .u64) (.vr 11) (.bn (.sh true .u64) (.vr 12) (.vr 1))), (.vr 1)] []
          .nil)))))
          (.call (some 52) 71 [(.vr 0), (.cn (.int .i64 32))] []
          (.call (some 55) 72 [(.vr 0), (.vr 11), (.cn (.int .i64 32))] []
          .nil))
        .nil))))))))))
      (.chk (.bn (.ar .add .i64) (.vr 28) (.cn (.int .i64 1)))
      (.set 28 (.bn (.ar .add .i64) (.vr 28) (.cn (.int .i64 1)))
      .nil)))))))
  (.set 6 (.cn (.int .i64 0))
  .ret))))))))))))))))
def fc52 : Fc := ⟨57, s52, [(.vr 6)]⟩
theorem c52 : compF Try.prog 52 = some fc52 := by kernel_rfl

/-- (*kinora/bits.Reader).Err · parameters 1 · 0:r -/
def s53 : S :=
  (.set 2 (.cn (.int .i64 0))
  (.chk (.un .nck (.vr 0))
  (.chk (.un (.fa 2) (.un .nck (.vr 0)))
  (.chk (.ld (.un (.fa 2) (.un .nck (.vr 0))))
  (.set 2 (.ld (.un (.fa 2) (.un .nck (.vr 0))))
  .ret)))))
def fc53 : Fc := ⟨7, s53, [(.vr 2)]⟩
theorem c53 : compF Try.prog 53 = some fc53 := by kernel_rfl

/-- kinora/rice.Get · parameters 3 · 0:r 1:k 2:n 8:out 9:x 10:err -/
def s54 : S :=
  (.set 6 (.cn (.slice none 0 0))
  (.set 7 (.cn (.int .i64 0))
  (.call (some 12) 68 [(.vr 1)] []
  (.chk (.un .not (.vr 12))
  (.set 14 (.un .not (.vr 12))
  (.chk (.gd (.vr 14) false (.bn (.cm .lss .i64) (.vr 2) (.cn (.int .i64 0))))
  (.chk (.or (.vr 14) (.bn (.cm .lss .i64) (.vr 2) (.cn (.int .i64 0))))
  (.set 18 (.or (.vr 14) (.bn (.cm .lss .i64) (.vr 2) (.cn (.int .i64 0))))
  (.chk (.gd (.vr 18) false (.bn (.cm .gtr .i64) (.vr 2) (.cn (.int .i64 4194304))))
  (.chk (.or (.vr 18) (.bn (.cm .gtr .i64) (.vr 2) (.cn (.int .i64 4194304))))
  (.set 21 (.or (.vr 18) (.bn (.cm .gtr .i64) (.vr 2) (.cn (.int .i64 4194304))))
  (.ite (.vr 21)
    (.set 6 (.cn (.slice none 0 0))
    (.set 7 (.cn (.int .i64 1))
    .ret))
    .nil
  (.call (some 23) 53 [(.vr 0)] []
  (.chk (.bn (.cm .neq .i64) (.vr 23) (.cn (.int .i64 0)))
  (.set 24 (.bn (.cm .neq .i64) (.vr 23) (.cn (.int .i64 0)))
  (.ite (.vr 24)
    (.call (some 26) 53 [(.vr 0)] []
    (.set 6 (.cn (.slice none 0 0))
    (.set 7 (.vr 26)
    .ret)))
    .nil
  (.set 8 (.cn (.slice none 0 0))
  (.set 27 (.vr 2)
  (.set 28 (.cn (.int .i64 0))
  (.blk 0
    (.loop
      (.chk (.bn (.cm .lss .i64) (.vr 28) (.vr 27))
      (.set 29 (.bn (.cm .lss .i64) (.vr 28) (.vr 27))
      (.ite (.vr 29)
        .nil
        (.exit 0)
      (.blk 1
        (.call (some 33) 73 [(.vr 0), (.vr 1)] []
        (.chk (.un (.ex 0) (.vr 33))
        (.chk (.un (.ex 1) (.vr 33))
        (.set 9 (.un (.ex 0) (.vr 33))
        (.set 10 (.un (.ex 1) (.vr 33))
        (.chk (.bn (.cm .neq .i64) (.vr 10) (.cn (.int .i64 0)))
        (.set 37 (.bn (.cm .neq .i64) (.vr 10) (.cn (.int .i64 0)))
        (.ite (.vr 37)
          (.set 6 (.cn (.slice none 0 0))
          (.set 7 (.vr 10)
          .ret))
          .nil
        (.op (some 41) (.buildSlice 33 1 #[(0, (.tmp 40))]) 33 [(40, (.vr 9))] []
        (.op (some 42) (.call ⟨(.builtin .append), #[(.tmp 39), (.tmp 41)], #[33, 33]⟩) 33 [(39, (.vr 8)), (41, (.vr 41))] []
        (.set 8 (.vr 42)
        .nil)))))))))))
      (.chk (.bn (.ar .add .i64) (.vr 28) (.cn (.int .i64 1)))
      (.set 28 (.bn (.ar .add .i64) (.vr 28) (.cn (.int .i64 1)))
      .nil)))))))
  (.set 6 (.vr 8)
  (.set 7 (.cn (.int .i64 0))
  .ret))))))))))))))))))))))
def fc54 : Fc := ⟨45, s54, [(.vr 6), (.vr 7)]⟩
theorem c54 : compF Try.prog 54 = some fc54 := by kernel_rfl

/-- kinora/pic.Wrap · parameters 2 · 0:v 1:depth -/
def s55 : S :=
  (.set 4 (.cn (.int .i64 0))
  (.chk (.bn (.cm .lss .i64) (.vr 1) (.cn (.int .i64 1)))
  (.chk (.gd (.bn (.cm .lss .i64) (.vr 1) (.cn (.int .i64 1))) false (.bn (.cm .gtr .i64) (.vr 1) (.cn (.int .i64 16))))
  (.set 10 (.or (.bn (.cm .lss .i64) (.vr 1) (.cn (.int .i64 1))) (.bn (.cm .gtr .i64) (.vr 1) (.cn (.int .i64 16))))
  (.ite (.vr 10)
    (.set 4 (.cn (.int .i64 0))
    .ret)
    .nil
  (.chk (.bn (.sh true .i64) (.cn (.int .i64 1)) (.vr 1))
  (.chk (.bn (.bt .and .i64) (.vr 0) (.bn (.ar .sub .i64) (.bn (.sh true .i64) (.cn (.int .i64 1)) (.vr 1)) (.cn (.int .i64 1))))
  (.set 4 (.bn (.bt .and .i64) (.vr 0) (.bn (.ar .sub .i64) (.bn (.sh true .i64) (.cn (.int .i64 1)) (.vr 1)) (.cn (.int .i64 1))))
  .ret))))))))
def fc55 : Fc := ⟨16, s55, [(.vr 4)]⟩
theorem c55 : compF Try.prog 55 = some fc55 := by kernel_rfl

/-- kinora/kinoraref27.ModelPut · parameters 5 · 0:w 1:l 2:width 3:h 4:depth 11:m 13:at 14:ctx 15:turned 16:g 17:err -/
def s56 : S :=
  (.set 10 (.cn (.int .i64 0))
  (.call (some 22) 74 [(.vr 1), (.vr 2), (.vr 3), (.vr 4)] []
  (.chk (.un .not (.vr 22))
  (.set 23 (.un .not (.vr 22))
  (.ite (.vr 23)
    (.set 10 (.cn (.int .i64 1))
    .ret)
    .nil
  (.call (some 26) 15 [(.vr 4)] []
  (.chk (.un (.ex 0) (.vr 26))
  (.chk (.un (.ex 1) (.vr 26))
  (.set 11 (.un (.ex 0) (.vr 26))
  (.set 13 (.cn (.int .i64 0))
  (.blk 0
    (.loop
      (.chk (.un .ln (.vr 1))
      (.chk (.bn (.cm .lss .i64) (.vr 13) (.un .ln (.vr 1)))
      (.set 32 (.bn (.cm .lss .i64) (.vr 13) (.un .ln (.vr 1)))
      (.ite (.vr 32)
        .nil
        (.exit 0)
      (.blk 1
        (.call (some 40) 75 [(.vr 11), (.vr 1), (.vr 2), (.vr 13)] []
        (.chk (.un (.ex 0) (.vr 40))
        (.chk (.un (.ex 1) (.vr 40))
        (.chk (.un (.ex 2) (.vr 40))
        (.set 14 (.un (.ex 0) (.vr 40))
        (.set 15 (.un (.ex 1) (.vr 40))
        (.set 16 (.un (.ex 2) (.vr 40))
        (.chk (.bn (.ia 1) (.vr 1) (.vr 13))
        (.chk (.ld (.bn (.ia 1) (.vr 1) (.vr 13)))
        (.set 47 (.ld (.bn (.ia 1) (.vr 1) (.vr 13)))
        (.chk (.bn (.ar .sub .i64) (.vr 47) (.vr 16))
        (.call (some 51) 18 [(.bn (.ar .sub .i64) (.vr 47) (.vr 16)), (.vr 4)] []
        (.set 17 (.vr 51)
        (.set 52 (.vr 15)
        (.ite (.vr 52)
          (.chk (.un (.neg .i64) (.vr 17))
          (.call (some 56) 18 [(.un (.neg .i64) (.vr 17)), (.vr 4)] []
          (.set 17 (.vr 56)
          .nil)))
          .nil
        (.call (some 60) 46 [(.vr 11), (.vr 14)] []
        (.op (some 62) (.buildSlice 33 1 #[(0, (.tmp 61))]) 33 [(61, (.vr 17))] []
        (.call (some 63) 76 [(.vr 0), (.vr 60), (.vr 62)] []
        (.call (some 67) 20 [(.vr 11), (.vr 14), (.vr 17)] []
        .nil)))))))))))))))))))
      (.chk (.bn (.ar .add .i64) (.vr 13) (.cn (.int .i64 1)))
      (.set 13 (.bn (.ar .add .i64) (.vr 13) (.cn (.int .i64 1)))
      .nil))))))))
  (.set 10 (.cn (.int .i64 0))
  .ret))))))))))))
def fc56 : Fc := ⟨68, s56, [(.vr 10)]⟩
theorem c56 : compF Try.prog 56 = some fc56 := by kernel_rfl

/-- (*kinora/bits.Writer).Len · parameters 1 · 0:w -/
def s57 : S :=
  (.set 2 (.cn (.int .i64 0))
  (.chk (.un .nck (.vr 0))
  (.chk (.un (.fa 1) (.un .nck (.vr 0)))
  (.chk (.ld (.un (.fa 1) (.un .nck (.vr 0))))
  (.set 2 (.ld (.un (.fa 1) (.un .nck (.vr 0))))
  .ret)))))
def fc57 : Fc := ⟨7, s57, [(.vr 2)]⟩
theorem c57 : compF Try.prog 57 = some fc57 := by kernel_rfl

/-- (*kinora/kinoraref2.Writer).Len · parameters 1 · 0:w -/
def s58 : S :=
  (.set 2 (.cn (.int .i64 0))
  (.chk (.un .nck (.vr 0))
  (.chk (.un (.fa 0) (.un .nck (.vr 0)))
  (.chk (.ld (.un (.fa 0) (.un .nck (.vr 0))))
  (.chk (.un .ln (.ld (.un (.fa 0) (.un .nck (.vr 0)))))
  (.set 2 (.un .ln (.ld (.un (.fa 0) (.un .nck (.vr 0)))))
  .ret))))))
def fc58 : Fc := ⟨8, s58, [(.vr 2)]⟩
theorem c58 : compF Try.prog 58 = some fc58 := by kernel_rfl

/-- (*kinora/kinoraref2.Writer).Bytes · parameters 1 · 0:w 3:out 4:i -/
def s59 : S :=
  (.set 2 (.cn (.slice none 0 0))
  (.chk (.un .nck (.vr 0))
  (.chk (.un (.fa 0) (.un .nck (.vr 0)))
  (.chk (.ld (.un (.fa 0) (.un .nck (.vr 0))))
  (.set 8 (.ld (.un (.fa 0) (.un .nck (.vr 0))))
  (.chk (.un .ln (.vr 8))
  (.op (some 12) (.makeSlice 50 (.tmp 11) (.tmp 11)) 50 [(11, (.bn (.dv false .i64) (.bn (.ar .add .i64) (.un .ln (.vr 8)) (.cn (.int .i64 7))) (.cn (.int .i64 8)))), (11, (.bn (.dv false .i64) (.bn (.ar .add .i64) (.un .ln (.vr 8)) (.cn (.int .i64 7))) (.cn (.int .i64 8))))] []
  (.set 3 (.vr 12)
  (.set 4 (.cn (.int .i64 0))
  (.blk 0
    (.loop
      (.chk (.un .nck (.vr 0))
      (.chk (.un (.fa 0) (.un .nck (.vr 0)))
      (.chk (.ld (.un (.fa 0) (.un .nck (.vr 0))))
      (.chk (.un .ln (.ld (.un (.fa 0) (.un .nck (.vr 0)))))
      (.chk (.bn (.cm .lss .i64) (.vr 4) (.un .ln (.ld (.un (.fa 0) (.un .nck (.vr 0))))))
      (.set 19 (.bn (.cm .lss .i64) (.vr 4) (.un .ln (.ld (.un (.fa 0) (.un .nck (.vr 0))))))
      (.ite (.vr 19)
        .nil
        (.exit 0)
      (.blk 1
        (.draw
        (.chk (.bn (.dv false .i64) (.vr 4) (.cn (.int .i64 8)))
        (.chk (.bn (.dv false .i64) (.vr 4) (.cn (.int .i64 8)))
        (.chk (.bn (.ia 1) (.vr 3) (.bn (.dv false .i64) (.vr 4) (.cn (.int .i64 8))))
        (.chk (.ld (.bn (.ia 1) (.vr 3) (.bn (.dv false .i64) (.vr 4) (.cn (.int .i64 8)))))
        (.set 29 (.ld (.bn (.ia 1) (.vr 3) (.bn (.dv false .i64) (.vr 4) (.cn (.int .i64 8)))))
        (.chk (.un .nck (.vr 0))
        (.chk (.un (.fa 0) (.un .nck (.vr 0)))
        (.chk (.ld (.un (.fa 0) (.un .nck (.vr 0))))
        (.set 33 (.ld (.un (.fa 0) (.un .nck (.vr 0))))
        (.chk (.bn (.ia 1) (.vr 33) (.vr 4))
        (.chk (.ld (.bn (.ia 1) (.vr 33) (.vr 4)))
        (.set 36 (.ld (.bn (.ia 1) (.vr 33) (.vr 4)))
        (.chk (.bn (.dv true .i64) (.vr 4) (.cn (.int .i64 8)))
        (.chk (.bn (.sh true .u8) (.vr 36) (.un (.cv .u64) (.bn (.ar .sub .i64) (.cn (.int .i64 7)) (.bn (.dv true .i64) (.vr 4) (.cn (.int .i64 8))))))
        (.chk (.bn (.bt .or .u8) (.vr 29) (.bn (.sh true .u8) (.vr 36) (.un (.cv .u64) (.bn (.ar .sub .i64) (.cn (.int .i64 7)) (.bn (.dv true .i64) (.vr 4) (.cn (.int .i64 8)))))))
        (.chk (.bn (.ia 1) (.vr 3) (.bn (.dv false .i64) (.vr 4) (.cn (.int .i64 8))))
        (.st 1 (.bn (.ia 1) (.vr 3) (.bn (.dv false .i64) (.vr 4) (.cn (.int .i64 8)))) (.bn (.bt .or .u8) (.vr 29) (.bn (.sh true .u8) (.vr 36) (.un (.cv .u64) (.bn (.ar .sub .i64) (.cn (.int .i64 7)) (.bn (.dv true .i64) (.vr 4) (.cn (.int .i64 8))))))) []
        .nil))))))))))))))))))
      (.chk (.bn (.ar .add .i64) (.vr 4) (.cn (.int .i64 1)))
      (.set 4 (.bn (.ar .add .i64) (.vr 4) (.cn (.int .i64 1)))
      .nil)))))))))))
  (.set 2 (.vr 3)
  .ret)))))))))))
def fc59 : Fc := ⟨45, s59, [(.vr 2)]⟩
theorem c59 : compF Try.prog 59 = some fc59 := by kernel_rfl

/-- kinora/kinoraref2.NewReader · parameters 1 · 0:b -/
def s60 : S :=
  (.set 2 (.cn (.pointer none))
  (.chk (.bd 0 1 (.vr 0) (.cn (.agg #[(.slice none 0 0), (.int .i64 0), (.int .i64 0)])))
  (.op (some 5) (.box 111 (.tmp 4)) 95 [(4, (.bd 0 1 (.vr 0) (.cn (.agg #[(.slice none 0 0), (.int .i64 0), (.int .i64 0)]))))] []
  (.set 2 (.vr 5)
  .ret))))
def fc60 : Fc := ⟨6, s60, [(.vr 2)]⟩
theorem c60 : compF Try.prog 60 = some fc60 := by kernel_rfl

/-- kinora/kinoraref27.ModelGet · parameters 4 · 0:r 1:width 2:h 3:depth 10:m 11:e 12:l 13:at 14:ctx 15:turned 16:g 17:x 18:e -/
def s61 : S :=
  (.set 8 (.cn (.slice none 0 0))
  (.set 9 (.cn (.int .i64 0))
  (.call (some 21) 15 [(.vr 3)] []
  (.chk (.un (.ex 0) (.vr 21))
  (.chk (.un (.ex 1) (.vr 21))
  (.set 10 (.un (.ex 0) (.vr 21))
  (.set 11 (.un (.ex 1) (.vr 21))
  (.chk (.bn (.cm .neq .i64) (.vr 11) (.cn (.int .i64 0)))
  (.set 26 (.bn (.cm .neq .i64) (.vr 11) (.cn (.int .i64 0)))
  (.ifg (.vr 26) false
    (.call (some 28) 77 [(.vr 1)] []
    .nil)
    (.set 28 (.cn undef)
    .nil)
  (.chk (.gd (.vr 26) false (.un .not (.vr 28)))
  (.chk (.or (.vr 26) (.un .not (.vr 28)))
  (.set 31 (.or (.vr 26) (.un .not (.vr 28)))
  (.ifg (.vr 31) false
    (.call (some 33) 77 [(.vr 2)] []
    .nil)
    (.set 33 (.cn undef)
    .nil)
  (.chk (.gd (.vr 31) false (.un .not (.vr 33)))
  (.chk (.or (.vr 31) (.un .not (.vr 33)))
  (.set 35 (.or (.vr 31) (.un .not (.vr 33)))
  (.ite (.vr 35)
    (.set 8 (.cn (.slice none 0 0))
    (.set 9 (.cn (.int .i64 1))
    .ret))
    .nil
  (.set 12 (.cn (.slice none 0 0))
  (.set 13 (.cn (.int .i64 0))
  (.blk 0
    (.loop
      (.chk (.bn (.ar .mul .i64) (.vr 1) (.vr 2))
      (.chk (.bn (.cm .lss .i64) (.vr 13) (.bn (.ar .mul .i64) (.vr 1) (.vr 2)))
      (.set 40 (.bn (.cm .lss .i64) (.vr 13) (.bn (.ar .mul .i64) (.vr 1) (.vr 2)))
      (.ite (.vr 40)
        .nil
        (.exit 0)
      (.blk 1
        (.call (some 48) 75 [(.vr 10), (.vr 12), (.vr 1), (.vr 13)] []
        (.chk (.un (.ex 0) (.vr 48))
        (.chk (.un (.ex 1) (.vr 48))
        (.chk (.un (.ex 2) (.vr 48))
        (.set 14 (.un (.ex 0) (.vr 48))
        (.set 15 (.un (.ex 1) (.vr 48))
        (.set 16 (.un (.ex 2) (.vr 48))
        (.call (some 56) 46 [(.vr 10), (.vr 14)] []
        (.call (some 57) 78 [(.vr 0), (.vr 56), (.cn (.int .i64 1))] []
        (.chk (.un (.ex 0) (.vr 57))
        (.chk (.un (.ex 1) (.vr 57))
        (.set 17 (.un (.ex 0) (.vr 57))
        (.set 18 (.un (.ex 1) (.vr 57))
        (.draw
        (.chk (.bn (.cm .neq .i64) (.vr 18) (.cn (.int .i64 0)))
        (.set 62 (.bn (.cm .neq .i64) (.vr 18) (.cn (.int .i64 0)))
        (.chk (.gd (.vr 62) false (.bn (.ia 1) (.vr 17) (.cn (.int .i64 0))))
        (.chk (.gd (.vr 62) false (.ld (.bn (.ia 1) (.vr 17) (.cn (.int .i64 0)))))
        (.set 65 (.gd (.vr 62) false (.ld (.bn (.ia 1) (.vr 17) (.cn (.int .i64 0)))))
        (.chk (.gd (.vr 62) false (.bn (.ia 1) (.vr 17) (.cn (.int .i64 0))))
        (.chk (.gd (.vr 62) false (.ld (.bn (.ia 1) (.vr 17) (.cn (.int .i64 0)))))
        (.set 70 (.gd (.vr 62) false (.ld (.bn (.ia 1) (.vr 17) (.cn (.int .i64 0)))))
        (.ifg (.vr 62) false
          (.call (some 67) 18 [(.vr 65), (.vr 3)] [⟨10, (.bn (.ia 1) (.vr 17) (.cn (.int .i64 0))), 1, (some ((.vr 62), false))⟩]
          .nil)
          (.set 67 (.cn undef)
          .nil)
        (.chk (.gd (.vr 62) false (.bn (.cm .neq .i64) (.vr 67) (.vr 70)))
        (.chk (.or (.vr 62) (.bn (.cm .neq .i64) (.vr 67) (.vr 70)))
        (.set 72 (.or (.vr 62) (.bn (.cm .neq .i64) (.vr 67) (.vr 70)))
        (.ite (.vr 72)
          (.call (some 74) 79 [(.vr 0)] []
          (.set 8 (.cn (.slice none 0 0))
          (.set 9 (.vr 74)
          .ret)))
          .nil
        (.chk (.bn (.ia 1) (.vr 17) (.cn (.int .i64 0)))
        (.chk (.ld (.bn (.ia 1) (.vr 17) (.cn (.int .i64 0))))
        (.set 79 (.ld (.bn (.ia 1) (.vr 17) (.cn (.int .i64 0))))
        (.call (some 80) 20 [(.vr 10), (.vr 14), (.vr 79)] []
        (.set 81 (.vr 15)
        (.ite (.vr 81)
          (.chk (.bn (.ia 1) (.vr 17) (.cn (.int .i64 0)))
          (.chk (.ld (.bn (.ia 1) (.vr 17) (.cn (.int .i64 0))))
          (.set 86 (.ld (.bn (.ia 1) (.vr 17) (.cn (.int .i64 0))))
          (.chk (.bn (.ar .sub .i64) (.vr 16) (.vr 86))
          (.call (some 89) 8 [(.bn (.ar .sub .i64) (.vr 16) (.vr 86)), (.vr 3)] []
          (.op (some 90) (.buildSlice 33 1 #[(0, (.tmp 89))]) 33 [(89, (.vr 89))] []
          (.op (some 91) (.call ⟨(.builtin .append), #[(.tmp 82), (.tmp 90)], #[33, 33]⟩) 33 [(82, (.vr 12)), (90, (.vr 90))] []
          (.set 12 (.vr 91)
          .nil))))))))
          (.chk (.bn (.ia 1) (.vr 17) (.cn (.int .i64 0)))
          (.chk (.ld (.bn (.ia 1) (.vr 17) (.cn (.int .i64 0))))
          (.set 96 (.ld (.bn (.ia 1) (.vr 17) (.cn (.int .i64 0))))
          (.chk (.bn (.ar .add .i64) (.vr 16) (.vr 96))
          (.call (some 99) 8 [(.bn (.ar .add .i64) (.vr 16) (.vr 96)), (.vr 3)] []
          (.op (some 100) (.buildSlice 33 1 #[(0, (.tmp 99))]) 33 [(99, (.vr 99))] []
          (.op (some 101) (.call ⟨(.builtin .append), #[(.tmp 92), (.tmp 100)], #[33, 33]⟩) 33 [(92, (.vr 12)), (100, (.vr 100))] []
          (.set 12 (.vr 101)
          .nil))))))))
        .nil)))))))))))))))))))))))))))))))))
      (.chk (.bn (.ar .add .i64) (.vr 13) (.cn (.int .i64 1)))
      (.set 13 (.bn (.ar .add .i64) (.vr 13) (.cn (.int .i64 1)))
      .nil))))))))
  (.set 8 (.vr 12)
  (.set 9 (.cn (.int .i64 0))
  .ret)))))))))))))))))))))))
def fc61 : Fc := ⟨103, s61, [(.vr 8), (.vr 9)]⟩
theorem c61 : compF Try.prog 61 = some fc61 := by kernel_rfl

/-- (*kinora/bits.Reader).At · parameters 1 · 0:r -/
def s62 : S :=
  (.set 2 (.cn (.int .i64 0))
  (.chk (.un .nck (.vr 0))
  (.chk (.un (.fa 1) (.un .nck (.vr 0)))
  (.chk (.ld (.un (.fa 1) (.un .nck (.vr 0))))
  (.set 2 (.ld (.un (.fa 1) (.un .nck (.vr 0))))
  .ret)))))
def fc62 : Fc := ⟨7, s62, [(.vr 2)]⟩
theorem c62 : compF Try.prog 62 = some fc62 := by kernel_rfl

/-- (*kinora/kinoraref2.Reader).At · parameters 1 · 0:r -/
def s63 : S :=
  (.set 2 (.cn (.int .i64 0))
  (.chk (.un .nck (.vr 0))
  (.chk (.un (.fa 1) (.un .nck (.vr 0)))
  (.chk (.ld (.un (.fa 1) (.un .nck (.vr 0))))
  (.set 2 (.ld (.un (.fa 1) (.un .nck (.vr 0))))
  .ret)))))
def fc63 : Fc := ⟨7, s63, [(.vr 2)]⟩
theorem c63 : compF Try.prog 63 = some fc63 := by kernel_rfl

/-- kinora/kinoraref27.levels · parameters 5 · 0:w 1:n 2:a 3:b 4:depth -/
def s64 : S :=
  (.set 10 (.cn (.int .i64 0))
  (.set 11 (.cn (.int .i64 0))
  (.set 12 (.cn (.int .i64 0))
  (.set 13 (.cn (.bool false))
  (.call (some 15) 32 [(.vr 4)] []
  (.chk (.un .not (.vr 15))
  (.set 17 (.un .not (.vr 15))
  (.ifg (.vr 17) false
    (.op (some 22) (.buildSlice 33 4 #[(0, (.tmp 18)), (1, (.tmp 19)), (2, (.tmp 20)), (3, (.tmp 21))]) 33 [(18, (.vr 0)), (19, (.vr 1)), (20, (.vr 2)), (21, (.vr 3))] []
    .nil)
    (.set 22 (.cn undef)
    .nil)
  (.ifg (.vr 17) false
    (.call (some 24) 65 [(.vr 22), (.vr 4)] []
    .nil)
    (.set 24 (.cn undef)
    .nil)
  (.chk (.gd (.vr 17) false (.un .not (.vr 24)))
  (.chk (.or (.vr 17) (.un .not (.vr 24)))
  (.set 26 (.or (.vr 17) (.un .not (.vr 24)))
  (.ite (.vr 26)
    (.set 10 (.cn (.int .i64 0))
    (.set 11 (.cn (.int .i64 0))
    (.set 12 (.cn (.int .i64 0))
    (.set 13 (.cn (.bool false))
    .ret))))
    .nil
  (.chk (.bn (.ar .sub .i64) (.vr 3) (.vr 1))
  (.call (some 31) 35 [(.bn (.ar .sub .i64) (.vr 3) (.vr 1)), (.vr 4)] []
  (.chk (.bn (.ar .sub .i64) (.vr 1) (.vr 2))
  (.call (some 36) 35 [(.bn (.ar .sub .i64) (.vr 1) (.vr 2)), (.vr 4)] []
  (.chk (.bn (.ar .sub .i64) (.vr 2) (.vr 0))
  (.call (some 41) 35 [(.bn (.ar .sub .i64) (.vr 2) (.vr 0)), (.vr 4)] []
  (.set 10 (.vr 31)
  (.set 11 (.vr 36)
  (.set 12 (.vr 41)
  (.set 13 (.cn (.bool true))
  .ret)))))))))))))))))))))))
def fc64 : Fc := ⟨42, s64, [(.vr 10), (.vr 11), (.vr 12), (.vr 13)]⟩
theorem c64 : compF Try.prog 64 = some fc64 := by kernel_rfl

/-- kinora/kinoraref24.Within · parameters 2 · 0:l 1:depth 5:i -/
def s65 : S :=
  (.set 4 (.cn (.bool false))
  (.set 5 (.cn (.int .i64 0))
  (.blk 0
    (.loop
      (.chk (.un .ln (.vr 0))
      (.chk (.bn (.cm .lss .i64) (.vr 5) (.un .ln (.vr 0)))
      (.set 9 (.bn (.cm .lss .i64) (.vr 5) (.un .ln (.vr 0)))
      (.ite (.vr 9)
        .nil
        (.exit 0)
      (.blk 1
        (.chk (.bn (.ia 1) (.vr 0) (.vr 5))
        (.chk (.ld (.bn (.ia 1) (.vr 0) (.vr 5)))
        (.chk (.bn (.cm .lss .i64) (.ld (.bn (.ia 1) (.vr 0) (.vr 5))) (.cn (.int .i64 0)))
        (.chk (.gd (.bn (.cm .lss .i64) (.ld (.bn (.ia 1) (.vr 0) (.vr 5))) (.cn (.int .i64 0))) false (.bn (.ia 1) (.vr 0) (.vr 5)))
        (.chk (.gd (.bn (.cm .lss .i64) (.ld (.bn (.ia 1) (.vr 0) (.vr 5))) (.cn (.int .i64 0))) false (.ld (.bn (.ia 1) (.vr 0) (.vr 5))))
        (.chk (.gd (.bn (.cm .lss .i64) (.ld (.bn (.ia 1) (.vr 0) (.vr 5))) (.cn (.int .i64 0))) false (.un (.cv .u64) (.vr 1)))
        (.chk (.gd (.bn (.cm .lss .i64) (.ld (.bn (.ia 1) (.vr 0) (.vr 5))) (.cn (.int .i64 0))) false (.bn (.sh true .i64) (.cn (.int .i64 1)) (.un (.cv .u64) (.vr 1))))
        (.chk (.gd (.bn (.cm .lss .i64) (.ld (.bn (.ia 1) (.vr 0) (.vr 5))) (.cn (.int .i64 0))) false (.bn (.cm .geq .i64) (.ld (.bn (.ia 1) (.vr 0) (.vr 5))) (.bn (.sh true .i64) (.cn (.int .i64 1)) (.un (.cv .u64) (.vr 1)))))
        (.set 26 (.or (.bn (.cm .lss .i64) (.ld (.bn (.ia 1) (.vr 0) (.vr 5))) (.cn (.int .i64 0))) (.bn (.cm .geq .i64) (.ld (.bn (.ia 1) (.vr 0) (.vr 5))) (.bn (.sh true .i64) (.cn (.int .i64 1)) (.un (.cv .u64) (.vr 1)))))
        (.ite (.vr 26)
          (.set 4 (.cn (.bool false))
          .ret)
          .nil
        .nil))))))))))
      (.chk (.bn (.ar .add .i64) (.vr 5) (.cn (.int .i64 1)))
      (.set 5 (.bn (.ar .add .i64) (.vr 5) (.cn (.int .i64 1)))
      .nil))))))))
  (.set 4 (.cn (.bool true))
  .ret))))
def fc65 : Fc := ⟨27, s65, [(.vr 4)]⟩
theorem c65 : compF Try.prog 65 = some fc65 := by kernel_rfl

/-- kinora/guess.Near · parameters 4 · 0:l 1:w 2:x 3:y 8:west 9:north 10:northwest 11:northeast 12:at 13:left -/
def s66 : S :=
  (.set 8 (.cn (.int .i64 0))
  (.set 9 (.cn (.int .i64 0))
  (.set 10 (.cn (.int .i64 0))
  (.set 11 (.cn (.int .i64 0))
  (.chk (.bn (.cm .lss .i64) (.vr 1) (.cn (.int .i64 1)))
  (.chk (.gd (.bn (.cm .lss .i64) (.vr 1) (.cn (.int .i64 1))) false (.bn (.cm .gtr .i64) (.vr 1) (.cn (.int .i64 64))))
  (.chk (.gd (.or (.bn (.cm .lss .i64) (.vr 1) (.cn (.int .i64 1))) (.bn (.cm .gtr .i64) (.vr 1) (.cn (.int .i64 64)))) false (.bn (.cm .lss .i64) (.vr 2) (.cn (.int .i64 0))))
  (.chk (.gd (.or (.or (.bn (.cm .lss .i64) (.vr 1) (.cn (.int .i64 1))) (.bn (.cm .gtr .i64) (.vr 1) (.cn (.int .i64 64)))) (.bn (.cm .lss .i64) (.vr 2) (.cn (.int .i64 0)))) false (.bn (.cm .geq .i64) (.vr 2) (.vr 1)))
  (.chk (.gd (.or (.or (.or (.bn (.cm .lss .i64) (.vr 1) (.cn (.int .i64 1))) (.bn (.cm .gtr .i64) (.vr 1) (.cn (.int .i64 64)))) (.bn (.cm .lss .i64) (.vr 2) (.cn (.int .i64 0)))) (.bn (.cm .geq .i64) (.vr 2) (.vr 1))) false (.bn (.cm .lss .i64) (.vr 3) (.cn (.int .i64 0))))
  (.chk (.gd (.or (.or (.or (.or (.bn (.cm .lss .i64) (.vr 1) (.cn (.int .i64 1))) (.bn (.cm .gtr .i64) (.vr 1) (.cn (.int .i64 64)))) (.bn (.cm .lss .i64) (.vr 2) (.cn (.int .i64 0)))) (.bn (.cm .geq .i64) (.vr 2) (.vr 1))) (.bn (.cm .lss .i64) (.vr 3) (.cn (.int .i64 0)))) false (.bn (.cm .geq .i64) (.vr 3) (.cn (.int .i64 64))))
  (.chk (.gd (.or (.or (.or (.or (.or (.bn (.cm .lss .i64) (.vr 1) (.cn (.int .i64 1))) (.bn (.cm .gtr .i64) (.vr 1) (.cn (.int .i64 64)))) (.bn (.cm .lss .i64) (.vr 2) (.cn (.int .i64 0)))) (.bn (.cm .geq .i64) (.vr 2) (.vr 1))) (.bn (.cm .lss .i64) (.vr 3) (.cn (.int .i64 0)))) (.bn (.cm .geq .i64) (.vr 3) (.cn (.int .i64 64)))) false (.un .ln (.vr 0)))
  (.chk (.gd (.or (.or (.or (.or (.or (.bn (.cm .lss .i64) (.vr 1) (.cn (.int .i64 1))) (.bn (.cm .gtr .i64) (.vr 1) (.cn (.int .i64 64)))) (.bn (.cm .lss .i64) (.vr 2) (.cn (.int .i64 0)))) (.bn (.cm .geq .i64) (.vr 2) (.vr 1))) (.bn (.cm .lss .i64) (.vr 3) (.cn (.int .i64 0)))) (.bn (.cm .geq .i64) (.vr 3) (.cn (.int .i64 64)))) false (.bn (.ar .mul .i64) (.vr 3) (.vr 1)))
  (.chk (.gd (.or (.or (.or (.or (.or (.bn (.cm .lss .i64) (.vr 1) (.cn (.int .i64 1))) (.bn (.cm .gtr .i64) (.vr 1) (.cn (.int .i64 64)))) (.bn (.cm .lss .i64) (.vr 2) (.cn (.int .i64 0)))) (.bn (.cm .geq .i64) (.vr 2) (.vr 1))) (.bn (.cm .lss .i64) (.vr 3) (.cn (.int .i64 0)))) (.bn (.cm .geq .i64) (.vr 3) (.cn (.int .i64 64)))) false (.bn (.ar .add .i64) (.bn (.ar .mul .i64) (.vr 3) (.vr 1)) (.vr 2)))
  (.set 46 (.or (.or (.or (.or (.or (.or (.bn (.cm .lss .i64) (.vr 1) (.cn (.int .i64 1))) (.bn (.cm .gtr .i64) (.vr 1) (.cn (.int .i64 64)))) (.bn (.cm .lss .i64) (.vr 2) (.cn (.int .i64 0)))) (.bn (.cm .geq .i64) (.vr 2) (.vr 1))) (.bn (.cm .lss .i64) (.vr 3) (.cn (.int .i64 0)))) (.bn (.cm .geq .i64) (.vr 3) (.cn (.int .i64 64)))) (.bn (.cm .lss .i64) (.un .ln (.vr 0)) (.bn (.ar .add .i64) (.bn (.ar .mul .i64) (.vr 3) (.vr 1)) (.vr 2))))
  (.ite (.vr 46)
    (.set 8 (.cn (.int .i64 0))
    (.set 9 (.cn (.int .i64 0))
    (.set 10 (.cn (.int .i64 0))
    (.set 11 (.cn (.int .i64 0))
    .ret))))
    .nil
  (.chk (.bn (.ar .mul .i64) (.vr 3) (.vr 1))
  (.chk (.bn (.ar .add .i64) (.bn (.ar .mul .i64) (.vr 3) (.vr 1)) (.vr 2))
  (.set 12 (.bn (.ar .add .i64) (.bn (.ar .mul .i64) (.vr 3) (.vr 1)) (.vr 2))
  (.chk (.bn (.cm .eql .i64) (.vr 3) (.cn (.int .i64 0)))
  (.set 53 (.bn (.cm .eql .i64) (.vr 3) (.cn (.int .i64 0)))
  (.ite (.vr 53)
    (.chk (.bn (.cm .eql .i64) (.vr 2) (.cn (.int .i64 0)))
    (.set 55 (.bn (.cm .eql .i64) (.vr 2) (.cn (.int .i64 0)))
    (.ite (.vr 55)
      (.set 8 (.cn (.int .i64 0))
      (.set 9 (.cn (.int .i64 0))
      (.set 10 (.cn (.int .i64 0))
      (.set 11 (.cn (.int .i64 0))
      .ret))))
      .nil
    (.chk (.bn (.ar .sub .i64) (.vr 12) (.cn (.int .i64 1)))
    (.chk (.bn (.ia 1) (.vr 0) (.bn (.ar .sub .i64) (.vr 12) (.cn (.int .i64 1))))
    (.chk (.ld (.bn (.ia 1) (.vr 0) (.bn (.ar .sub .i64) (.vr 12) (.cn (.int .i64 1)))))
    (.set 13 (.ld (.bn (.ia 1) (.vr 0) (.bn (.ar .sub .i64) (.vr 12) (.cn (.int .i64 1)))))
    (.set 8 (.vr 13)
    (.set 9 (.vr 13)
    (.set 10 (.vr 13)
    (.set 11 (.vr 13)
    .ret)))))))))))
    .nil
  (.chk (.bn (.ar .sub .i64) (.vr 12) (.vr 1))
  (.chk (.bn (.ia 1) (.vr 0) (.bn (.ar .sub .i64) (.vr 12) (.vr 1)))
  (.chk (.ld (.bn (.ia 1) (.vr 0) (.bn (.ar .sub .i64) (.vr 12) (.vr 1))))
  (.set 9 (.ld (.bn (.ia 1) (.vr 0) (.bn (.ar .sub .i64) (.vr 12) (.vr 1))))
  (.set 8 (.vr 9)
  (.set 10 (.vr 9)
  (.set 11 (.vr 9)
  (.chk (.bn (.cm .gtr .i64) (.vr 2) (.cn (.int .i64 0)))
  (.set 75 (.bn (.cm .gtr .i64) (.vr 2) (.cn (.int .i64 0)))
  (.ite (.vr 75)
    (.draw
    (.chk (.bn (.ar .sub .i64) (.vr 12) (.cn (.int .i64 1)))
    (.chk (.bn (.ia 1) (.vr 0) (.bn (.ar .sub .i64) (.vr 12) (.cn (.int .i64 1))))
    (.chk (.ld (.bn (.ia 1) (.vr 0) (.bn (.ar .sub .i64) (.vr 12) (.cn (.int .i64 1)))))
    (.chk (.bn (.ar .sub .i64) (.vr 12) (.vr 1))
    (.chk (.bn (.ia 1) (.vr 0) (.bn (.ar .sub .i64) (.bn (.ar .sub .i64) (.vr 12) (.vr 1)) (.cn (.int .i64 1))))
    (.chk (.ld (.bn (.ia 1) (.vr 0) (.bn (.ar .sub .i64) (.bn (.ar .sub .i64) (.vr 12) (.vr 1)) (.cn (.int .i64 1)))))
    (.set 8 (.ld (.bn (.ia 1) (.vr 0) (.bn (.ar .sub .i64) (.vr 12) (.cn (.int .i64 1)))))
    (.set 10 (.ld (.bn (.ia 1) (.vr 0) (.bn (.ar .sub .i64) (.bn (.ar .sub .i64) (.vr 12) (.vr 1)) (.cn (.int .i64 1)))))
    .nil)))))))))
    .nil
  (.chk (.bn (.ar .sub .i64) (.vr 1) (.cn (.int .i64 1)))
  (.chk (.bn (.cm .lss .i64) (.vr 2) (.bn (.ar .sub .i64) (.vr 1) (.cn (.int .i64 1))))
  (.set 91 (.bn (.cm .lss .i64) (.vr 2) (.bn (.ar .sub .i64) (.vr 1) (.cn (.int .i64 1))))
  (.ite (.vr 91)
    (.chk (.bn (.ar .sub .i64) (.vr 12) (.vr 1))
    (.chk (.bn (.ia 1) (.vr 0) (.bn (.ar .add .i64) (.bn (.ar .sub .i64) (.vr 12) (.vr 1)) (.cn (.int .i64 1))))
    (.chk (.ld (.bn (.ia 1) (.vr 0) (.bn (.ar .add .i64) (.bn (.ar .sub .i64) (.vr 12) (.vr 1)) (.cn (.int .i64 1)))))
    (.set 11 (.ld (.bn (.ia 1) (.vr 0) (.bn (.ar .add .i64) (.bn (.ar .sub .i64) (.vr 12) (.vr 1)) (.cn (.int .i64 1)))))
    .nil))))
    .nil
  (.set 8 (.vr 8)
  (.set 9 (.vr 9)
  (.set 10 (.vr 10)
  (.set 11 (.vr 11)
  .ret)))))))))))))))))))))))))))))))))))))))
def fc66 : Fc := ⟨103, s66, [(.vr 8), (.vr 9), (.vr 10), (.vr 11)]⟩
theorem c66 : compF Try.prog 66 = some fc66 := by kernel_rfl

/-- kinora/guess.One · parameters 6 · 0:kind 1:west 2:north 3:northwest 4:northeast 5:depth 14:s 15:slope -/
def s67 : S :=
  (.set 12 (.cn (.int .i64 0))
  (.chk (.bn (.cm .lss .i64) (.vr 0) (.cn (.int .i64 0)))
  (.chk (.gd (.bn (.cm .lss .i64) (.vr 0) (.cn (.int .i64 0))) false (.bn (.cm .geq .i64) (.vr 0) (.cn (.int .i64 10))))
  (.chk (.gd (.or (.bn (.cm .lss .i64) (.vr 0) (.cn (.int .i64 0))) (.bn (.cm .geq .i64) (.vr 0) (.cn (.int .i64 10)))) false (.bn (.cm .lss .i64) (.vr 5) (.cn (.int .i64 1))))
  (.chk (.gd (.or (.or (.bn (.cm .lss .i64) (.vr 0) (.cn (.int .i64 0))) (.bn (.cm .geq .i64) (.vr 0) (.cn (.int .i64 10)))) (.bn (.cm .lss .i64) (.vr 5) (.cn (.int .i64 1)))) false (.bn (.cm .gtr .i64) (.vr 5) (.cn (.int .i64 16))))
  (.set 29 (.or (.or (.or (.bn (.cm .lss .i64) (.vr 0) (.cn (.int .i64 0))) (.bn (.cm .geq .i64) (.vr 0) (.cn (.int .i64 10)))) (.bn (.cm .lss .i64) (.vr 5) (.cn (.int .i64 1)))) (.bn (.cm .gtr .i64) (.vr 5) (.cn (.int .i64 16))))
  (.ite (.vr 29)
    (.set 12 (.cn (.int .i64 0))
    .ret)
    .nil
  (.chk (.bd 3 1 (.vr 4) (.bd 2 1 (.vr 3) (.bd 1 1 (.vr 2) (.bd 0 1 (.vr 1) (.cn (.agg #[(.int .i64 0), (.int .i64 0), (.int .i64 0), (.int .i64 0)]))))))
  (.set 34 (.bd 3 1 (.vr 4) (.bd 2 1 (.vr 3) (.bd 1 1 (.vr 2) (.bd 0 1 (.vr 1) (.cn (.agg #[(.int .i64 0), (.int .i64 0), (.int .i64 0), (.int .i64 0)]))))))
  (.set 35 (.cn (.int .i64 0))
  (.blk 0
    (.loop
      (.chk (.bn (.cm .lss .i64) (.vr 35) (.cn (.int .i64 4)))
      (.set 36 (.bn (.cm .lss .i64) (.vr 35) (.cn (.int .i64 4)))
      (.ite (.vr 36)
        .nil
        (.exit 0)
      (.blk 1
        (.chk (.bn (.ix1 4 1) (.vr 34) (.vr 35))
        (.set 14 (.bn (.ix1 4 1) (.vr 34) (.vr 35))
        (.chk (.bn (.cm .lss .i64) (.vr 14) (.cn (.int .i64 0)))
        (.chk (.gd (.bn (.cm .lss .i64) (.vr 14) (.cn (.int .i64 0))) false (.bn (.sh true .i64) (.cn (.int .i64 1)) (.vr 5)))
        (.chk (.gd (.bn (.cm .lss .i64) (.vr 14) (.cn (.int .i64 0))) false (.bn (.cm .geq .i64) (.vr 14) (.bn (.sh true .i64) (.cn (.int .i64 1)) (.vr 5))))
        (.set 45 (.or (.bn (.cm .lss .i64) (.vr 14) (.cn (.int .i64 0))) (.bn (.cm .geq .i64) (.vr 14) (.bn (.sh true .i64) (.cn (.int .i64 1)) (.vr 5))))
        (.ite (.vr 45)
          (.set 12 (.cn (.int .i64 0))
          .ret)
          .nil
        .nil)))))))
      (.chk (.bn (.ar .add .i64) (.vr 35) (.cn (.int .i64 1)))
      (.set 35 (.bn (.ar .add .i64) (.vr 35) (.cn (.int .i64 1)))
      .nil)))))))
  (.chk (.bn (.ar .add .i64) (.vr 1) (.vr 2))
  (.chk (.bn (.ar .sub .i64) (.bn (.ar .add .i64) (.vr 1) (.vr 2)) (.vr 3))
  (.set 15 (.bn (.ar .sub .i64) (.bn (.ar .add .i64) (.vr 1) (.vr 2)) (.vr 3))
  (.set 52 (.vr 0)
  (.blk 2
    (.chk (.bn (.cm .eql .i64) (.vr 52) (.cn (.int .i64 1)))
    (.set 53 (.bn (.cm .eql .i64) (.vr 52) (.cn (.int .i64 1)))
    (.ite (.vr 53)
      (.set 12 (.vr 1)
      .ret)
      (.chk (.bn (.cm .eql .i64) (.vr 52) (.cn (.int .i64 2)))
      (.set 56 (.bn (.cm .eql .i64) (.vr 52) (.cn (.int .i64 2)))
      (.ite (.vr 56)
        (.set 12 (.vr 2)
        .ret)
        (.chk (.bn (.cm .eql .i64) (.vr 52) (.cn (.int .i64 3)))
        (.set 59 (.bn (.cm .eql .i64) (.vr 52) (.cn (.int .i64 3)))
        (.ite (.vr 59)
          (.set 12 (.vr 3)
          .ret)
          (.chk (.bn (.cm .eql .i64) (.vr 52) (.cn (.int .i64 4)))
          (.set 62 (.bn (.cm .eql .i64) (.vr 52) (.cn (.int .i64 4)))
          (.ite (.vr 62)
            (.set 12 (.vr 4)
            .ret)
            (.chk (.bn (.cm .eql .i64) (.vr 52) (.cn (.int .i64 5)))
            (.set 65 (.bn (.cm .eql .i64) (.vr 52) (.cn (.int .i64 5)))
            (.ite (.vr 65)
              (.chk (.bn (.ar .add .i64) (.vr 1) (.vr 2))
              (.set 12 (.bn (.dv false .i64) (.bn (.ar .add .i64) (.vr 1) (.vr 2)) (.cn (.int .i64 2)))
              .ret))
              (.chk (.bn (.cm .eql .i64) (.vr 52) (.cn (.int .i64 6)))
              (.set 71 (.bn (.cm .eql .i64) (.vr 52) (.cn (.int .i64 6)))
              (.ite (.vr 71)
                (.op (some 77) (.buildSlice 33 3 #[(0, (.tmp 74)), (1, (.tmp 75)), (2, (.tmp 76))]) 33 [(74, (.vr 1)), (75, (.vr 2)), (76, (.vr 3))] []
                (.call (some 78) 80 [(.vr 15), (.vr 77)] []
                (.set 12 (.vr 78)
                .ret)))
                (.chk (.bn (.cm .eql .i64) (.vr 52) (.cn (.int .i64 7)))
                (.set 79 (.bn (.cm .eql .i64) (.vr 52) (.cn (.int .i64 7)))
                (.ite (.vr 79)
                  (.chk (.bn (.mn .i64) (.vr 1) (.vr 2))
                  (.chk (.bn (.mx .i64) (.vr 1) (.vr 2))
                  (.chk (.bn (.mn .i64) (.bn (.mx .i64) (.vr 1) (.vr 2)) (.vr 15))
                  (.set 12 (.bn (.mx .i64) (.bn (.mn .i64) (.vr 1) (.vr 2)) (.bn (.mn .i64) (.bn (.mx .i64) (.vr 1) (.vr 2)) (.vr 15)))
                  .ret))))
                  (.chk (.bn (.cm .eql .i64) (.vr 52) (.cn (.int .i64 8)))
                  (.set 90 (.bn (.cm .eql .i64) (.vr 52) (.cn (.int .i64 8)))
                  (.ite (.vr 90)
                    (.chk (.bn (.mx .i64) (.vr 15) (.cn (.int .i64 0)))
                    (.chk (.bn (.sh true .i64) (.cn (.int .i64 1)) (.vr 5))
                    (.set 12 (.bn (.mn .i64) (.bn (.mx .i64) (.vr 15) (.cn (.int .i64 0))) (.bn (.ar .sub .i64) (.bn (.sh true .i64) (.cn (.int .i64 1)) (.vr 5)) (.cn (.int .i64 1))))
                    .ret)))
                    (.chk (.bn (.cm .eql .i64) (.vr 52) (.cn (.int .i64 9)))
                    (.set 98 (.bn (.cm .eql .i64) (.vr 52) (.cn (.int .i64 9)))
                    (.ite (.vr 98)
                      (.chk (.bn (.ar .add .i64) (.vr 1) (.vr 2))
                      (.chk (.bn (.ar .add .i64) (.bn (.ar .add .i64) (.vr 1) (.vr 2)) (.vr 3))
                      (.chk (.bn (.ar .add .i64) (.bn (.ar .add .i64) (.bn (.ar .add .i64) (.vr 1) (.vr 2)) (.vr 3)) (.vr 4))
                      (.set 12 (.bn (.dv false .i64) (.bn (.ar .add .i64) (.bn (.ar .add .i64) (.bn (.ar .add .i64) (.bn (.ar .add .i64) (.vr 1) (.vr 2)) (.vr 3)) (.vr 4)) (.cn (.int .i64 2))) (.cn (.int .i64 4)))
                      .ret))))
                      .nil
                    .nil)))
                  .nil)))
                .nil)))
              .nil)))
            .nil)))
          .nil)))
        .nil)))
      .nil)))
    .nil)))
  (.set 12 (.cn (.int .i64 0))
  .ret)))))))))))))))))
def fc67 : Fc := ⟨109, s67, [(.vr 12)]⟩
theorem c67 : compF Try.prog 67 = some fc67 := by kernel_rfl

/-- kinora/rice.parameter · parameters 1 · 0:k -/
def s68 : S :=
  (.set 2 (.cn (.bool false))
  (.chk (.bn (.cm .leq .i64) (.cn (.int .i64 0)) (.vr 0))
  (.chk (.gd (.bn (.cm .leq .i64) (.cn (.int .i64 0)) (.vr 0)) true (.bn (.cm .leq .i64) (.vr 0) (.cn (.int .i64 25))))
  (.set 2 (.and (.bn (.cm .leq .i64) (.cn (.int .i64 0)) (.vr 0)) (.bn (.cm .leq .i64) (.vr 0) (.cn (.int .i64 25))))
  .ret))))
def fc68 : Fc := ⟨9, s68, [(.vr 2)]⟩
theorem c68 : compF Try.prog 68 = some fc68 := by kernel_rfl

/-- kinora/rice.wide · parameters 1 · 0:x -/
def s69 : S :=
  (.set 2 (.cn (.bool false))
  (.chk (.bn (.cm .leq .i64) (.cn (.int .i64 (-1073741824))) (.vr 0))
  (.chk (.gd (.bn (.cm .leq .i64) (.cn (.int .i64 (-1073741824))) (.vr 0)) true (.bn (.cm .lss .i64) (.vr 0) (.cn (.int .i64 1073741824))))
  (.set 2 (.and (.bn (.cm .leq .i64) (.cn (.int .i64 (-1073741824))) (.vr 0)) (.bn (.cm .lss .i64) (.vr 0) (.cn (.int .i64 1073741824))))
  .ret))))
def fc69 : Fc := ⟨9, s69, [(.vr 2)]⟩
theorem c69 : compF Try.prog 69 = some fc69 := by kernel_rfl

/-- kinora/rice.Fold · parameters 1 · 0:x -/
def s70 : S :=
  (.set 2 (.cn (.int .u64 0))
  (.blk 0
    (.call (some 5) 69 [(.vr 0)] []
    (.chk (.un .not (.vr 5))
    (.set 3 (.un .not (.vr 5))
    (.ite (.vr 3)
      (.set 2 (.cn (.int .u64 0))
      .ret)
      (.chk (.bn (.cm .geq .i64) (.vr 0) (.cn (.int .i64 0)))
      (.set 7 (.bn (.cm .geq .i64) (.vr 0) (.cn (.int .i64 0)))
      (.ite (.vr 7)
        (.chk (.bn (.ar .mul .i64) (.cn (.int .i64 2)) (.vr 0))
        (.set 2 (.un (.cv .u64) (.bn (.ar .mul .i64) (.cn (.int .i64 2)) (.vr 0)))
        .ret))
        .nil
      .nil)))
    .nil))))
  (.chk (.bn (.ar .mul .i64) (.cn (.int .i64 (-2))) (.vr 0))
  (.set 2 (.un (.cv .u64) (.bn (.ar .sub .i64) (.bn (.ar .mul .i64) (.cn (.int .i64 (-2))) (.vr 0)) (.cn (.int .i64 1))))
  .ret))))
def fc70 : Fc := ⟨17, s70, [(.vr 2)]⟩
theorem c70 : compF Try.prog 70 = some fc70 := by kernel_rfl

/-- (*kinora/bits.Writer).Unary · parameters 2 · 0:w 1:n -/
def s71 : S :=
  (.set 4 (.cn (.int .i64 0))
  (.chk (.bn (.cm .lss .i64) (.vr 1) (.cn (.int .i64 0)))
  (.chk (.gd (.bn (.cm .lss .i64) (.vr 1) (.cn (.int .i64 0))) false (.bn (.cm .gtr .i64) (.vr 1) (.cn (.int .i64 4096))))
  (.set 10 (.or (.bn (.cm .lss .i64) (.vr 1) (.cn (.int .i64 0))) (.bn (.cm .gtr .i64) (.vr 1) (.cn (.int .i64 4096))))
  (.ite (.vr 10)
    (.set 4 (.cn (.int .i64 1))
    .ret)
    .nil
  (.set 11 (.vr 1)
  (.set 12 (.cn (.int .i64 0))
  (.blk 0
    (.loop
      (.chk (.bn (.cm .lss .i64) (.vr 12) (.vr 11))
      (.set 13 (.bn (.cm .lss .i64) (.vr 12) (.vr 11))
      (.ite (.vr 13)
        .nil
        (.exit 0)
      (.blk 1
        (.call (some 15) 81 [(.vr 0), (.cn (.int .u8 0))] []
        .nil)
      (.chk (.bn (.ar .add .i64) (.vr 12) (.cn (.int .i64 1)))
      (.set 12 (.bn (.ar .add .i64) (.vr 12) (.cn (.int .i64 1)))
      .nil)))))))
  (.call (some 18) 81 [(.vr 0), (.cn (.int .u8 1))] []
  (.set 4 (.cn (.int .i64 0))
  .ret))))))))))
def fc71 : Fc := ⟨19, s71, [(.vr 4)]⟩
theorem c71 : compF Try.prog 71 = some fc71 := by kernel_rfl

/-- (*kinora/bits.Writer).Put · parameters 3 · 0:w 1:v 2:n 7:i -/
def s72 : S :=
  (.set 6 (.cn (.int .i64 0))
  (.chk (.bn (.cm .lss .i64) (.vr 2) (.cn (.int .i64 0)))
  (.chk (.gd (.bn (.cm .lss .i64) (.vr 2) (.cn (.int .i64 0))) false (.bn (.cm .gtr .i64) (.vr 2) (.cn (.int .i64 64))))
  (.chk (.gd (.or (.bn (.cm .lss .i64) (.vr 2) (.cn (.int .i64 0))) (.bn (.cm .gtr .i64) (.vr 2) (.cn (.int .i64 64)))) false (.bn (.sh false .u64) (.vr 1) (.vr 2)))
  (.set 19 (.or (.or (.bn (.cm .lss .i64) (.vr 2) (.cn (.int .i64 0))) (.bn (.cm .gtr .i64) (.vr 2) (.cn (.int .i64 64)))) (.bn (.cm .neq .u64) (.bn (.sh false .u64) (.vr 1) (.vr 2)) (.cn (.int .u64 0))))
  (.ite (.vr 19)
    (.set 6 (.cn (.int .i64 1))
    .ret)
    .nil
  (.chk (.bn (.ar .sub .i64) (.vr 2) (.cn (.int .i64 1)))
  (.set 7 (.bn (.ar .sub .i64) (.vr 2) (.cn (.int .i64 1)))
  (.blk 0
    (.loop
      (.chk (.bn (.cm .geq .i64) (.vr 7) (.cn (.int .i64 0)))
      (.set 23 (.bn (.cm .geq .i64) (.vr 7) (.cn (.int .i64 0)))
      (.ite (.vr 23)
        .nil
        (.exit 0)
      (.blk 1
        (.chk (.bn (.sh false .u64) (.vr 1) (.vr 7))
        (.call (some 32) 81 [(.vr 0), (.un (.cv .u8) (.bn (.bt .and .u64) (.bn (.sh false .u64) (.vr 1) (.vr 7)) (.cn (.int .u64 1))))] []
        .nil))
      (.chk (.bn (.ar .sub .i64) (.vr 7) (.cn (.int .i64 1)))
      (.set 7 (.bn (.ar .sub .i64) (.vr 7) (.cn (.int .i64 1)))
      .nil)))))))
  (.set 6 (.cn (.int .i64 0))
  .ret))))))))))
def fc72 : Fc := ⟨33, s72, [(.vr 6)]⟩
theorem c72 : compF Try.prog 72 = some fc72 := by kernel_rfl

/-- kinora/rice.one · parameters 2 · 0:r 1:k 6:q 7:low 8:u -/
def s73 : S :=
  (.set 4 (.cn (.int .i64 0))
  (.set 5 (.cn (.int .i64 0))
  (.call (some 10) 82 [(.vr 0), (.cn (.int .i64 32))] []
  (.chk (.un (.cv .u64) (.vr 10))
  (.set 6 (.un (.cv .u64) (.vr 10))
  (.call (some 13) 53 [(.vr 0)] []
  (.chk (.bn (.cm .neq .i64) (.vr 13) (.cn (.int .i64 0)))
  (.set 14 (.bn (.cm .neq .i64) (.vr 13) (.cn (.int .i64 0)))
  (.ite (.vr 14)
    (.call (some 16) 53 [(.vr 0)] []
    (.set 4 (.cn (.int .i64 0))
    (.set 5 (.vr 16)
    .ret)))
    .nil
  (.chk (.bn (.cm .lss .u64) (.vr 6) (.cn (.int .u64 32)))
  (.set 18 (.bn (.cm .lss .u64) (.vr 6) (.cn (.int .u64 32)))
  (.ite (.vr 18)
    (.call (some 21) 83 [(.vr 0), (.vr 1)] []
    (.set 7 (.vr 21)
    (.chk (.bn (.sh true .u64) (.vr 6) (.vr 1))
    (.chk (.bn (.ar .add .u64) (.bn (.sh true .u64) (.vr 6) (.vr 1)) (.vr 7))
    (.call (some 27) 84 [(.bn (.ar .add .u64) (.bn (.sh true .u64) (.vr 6) (.vr 1)) (.vr 7))] []
    (.call (some 29) 53 [(.vr 0)] []
    (.set 4 (.vr 27)
    (.set 5 (.vr 29)
    .ret))))))))
    .nil
  (.call (some 31) 83 [(.vr 0), (.cn (.int .i64 32))] []
  (.set 8 (.vr 31)
  (.call (some 33) 53 [(.vr 0)] []
  (.chk (.bn (.cm .neq .i64) (.vr 33) (.cn (.int .i64 0)))
  (.set 34 (.bn (.cm .neq .i64) (.vr 33) (.cn (.int .i64 0)))
  (.ite (.vr 34)
    (.call (some 36) 53 [(.vr 0)] []
    (.set 4 (.cn (.int .i64 0))
    (.set 5 (.vr 36)
    .ret)))
    .nil
  (.chk (.bn (.cm .geq .u64) (.vr 8) (.cn (.int .u64 2147483648)))
  (.chk (.gd (.bn (.cm .geq .u64) (.vr 8) (.cn (.int .u64 2147483648))) false (.bn (.sh false .u64) (.vr 8) (.vr 1)))
  (.set 44 (.or (.bn (.cm .geq .u64) (.vr 8) (.cn (.int .u64 2147483648))) (.bn (.cm .lss .u64) (.bn (.sh false .u64) (.vr 8) (.vr 1)) (.cn (.int .u64 32))))
  (.ite (.vr 44)
    (.set 4 (.cn (.int .i64 0))
    (.set 5 (.cn (.int .i64 2))
    .ret))
    .nil
  (.call (some 46) 84 [(.vr 8)] []
  (.set 4 (.vr 46)
  (.set 5 (.cn (.int .i64 0))
  .ret)))))))))))))))))))))))))
def fc73 : Fc := ⟨47, s73, [(.vr 4), (.vr 5)]⟩
theorem c73 : compF Try.prog 73 = some fc73 := by kernel_rfl

/-- kinora/kinoraref24.Plane · parameters 4 · 0:l 1:w 2:h 3:depth -/
def s74 : S :=
  (.set 8 (.cn (.bool false))
  (.call (some 10) 77 [(.vr 1)] []
  (.set 11 (.vr 10)
  (.ifg (.vr 11) true
    (.call (some 13) 77 [(.vr 2)] []
    .nil)
    (.set 13 (.cn undef)
    .nil)
  (.chk (.pk (.vr 11) (.vr 13) (.cn (.bool false)))
  (.set 15 (.pk (.vr 11) (.vr 13) (.cn (.bool false)))
  (.ifg (.vr 15) true
    (.call (some 17) 32 [(.vr 3)] []
    .nil)
    (.set 17 (.cn undef)
    .nil)
  (.chk (.pk (.vr 15) (.vr 17) (.cn (.bool false)))
  (.set 19 (.pk (.vr 15) (.vr 17) (.cn (.bool false)))
  (.chk (.gd (.vr 19) true (.un .ln (.vr 0)))
  (.chk (.gd (.vr 19) true (.bn (.ar .mul .i64) (.vr 1) (.vr 2)))
  (.chk (.and (.vr 19) (.bn (.cm .eql .i64) (.un .ln (.vr 0)) (.bn (.ar .mul .i64) (.vr 1) (.vr 2))))
  (.set 27 (.and (.vr 19) (.bn (.cm .eql .i64) (.un .ln (.vr 0)) (.bn (.ar .mul .i64) (.vr 1) (.vr 2))))
  (.ifg (.vr 27) true
    (.call (some 30) 65 [(.vr 0), (.vr 3)] []
    .nil)
    (.set 30 (.cn undef)
    .nil)
  (.chk (.pk (.vr 27) (.vr 30) (.cn (.bool false)))
  (.set 8 (.pk (.vr 27) (.vr 30) (.cn (.bool false)))
  .ret))))))))))))))))
def fc74 : Fc := ⟨32, s74, [(.vr 8)]⟩
theorem c74 : compF Try.prog 74 = some fc74 := by kernel_rfl

/-- (*kinora/kinoraref27.Model).seen · parameters 4 · 0:m 1:l 2:width 3:at 11:w 12:n 13:a 14:b 15:ctx 16:turned -/
def s75 : S :=
  (.set 8 (.cn (.int .i64 0))
  (.set 9 (.cn (.bool false))
  (.set 10 (.cn (.int .i64 0))
  (.draw
  (.chk (.bn (.dv true .i64) (.vr 3) (.vr 2))
  (.chk (.bn (.dv false .i64) (.vr 3) (.vr 2))
  (.call (some 26) 85 [(.vr 1), (.vr 2), (.bn (.dv true .i64) (.vr 3) (.vr 2)), (.bn (.dv false .i64) (.vr 3) (.vr 2))] []
  (.chk (.un (.ex 0) (.vr 26))
  (.chk (.un (.ex 1) (.vr 26))
  (.chk (.un (.ex 2) (.vr 26))
  (.chk (.un (.ex 3) (.vr 26))
  (.set 11 (.un (.ex 0) (.vr 26))
  (.set 12 (.un (.ex 1) (.vr 26))
  (.set 13 (.un (.ex 2) (.vr 26))
  (.set 14 (.un (.ex 3) (.vr 26))
  (.chk (.un .nck (.vr 0))
  (.chk (.un (.fa 0) (.un .nck (.vr 0)))
  (.chk (.ld (.un (.fa 0) (.un .nck (.vr 0))))
  (.set 39 (.ld (.un (.fa 0) (.un .nck (.vr 0))))
  (.call (some 40) 33 [(.vr 11), (.vr 12), (.vr 13), (.vr 14), (.vr 39)] []
  (.chk (.un (.ex 0) (.vr 40))
  (.chk (.un (.ex 1) (.vr 40))
  (.set 15 (.un (.ex 0) (.vr 40))
  (.set 16 (.un (.ex 1) (.vr 40))
  (.chk (.un .nck (.vr 0))
  (.chk (.un (.fa 0) (.un .nck (.vr 0)))
  (.chk (.ld (.un (.fa 0) (.un .nck (.vr 0))))
  (.set 54 (.ld (.un (.fa 0) (.un .nck (.vr 0))))
  (.call (some 55) 86 [(.cn (.int .i64 7)), (.vr 11), (.vr 12), (.vr 13), (.vr 14), (.vr 54)] []
  (.call (some 57) 47 [(.vr 0), (.vr 15), (.vr 55), (.vr 16)] []
  (.set 8 (.vr 15)
  (.set 9 (.vr 16)
  (.set 10 (.vr 57)
  .ret)))))))))))))))))))))))))))))))))
def fc75 : Fc := ⟨58, s75, [(.vr 8), (.vr 9), (.vr 10)]⟩
theorem c75 : compF Try.prog 75 = some fc75 := by kernel_rfl

/-- kinora/kinoraref8.RicePut · parameters 3 · 0:w 1:k 2:l 7:i 8:u 9:q -/
def s76 : S :=
  (.set 6 (.cn (.int .i64 0))
  (.call (some 11) 87 [(.vr 1)] []
  (.chk (.un .not (.vr 11))
  (.set 13 (.un .not (.vr 11))
  (.ifg (.vr 13) false
    (.call (some 15) 88 [(.vr 2)] []
    .nil)
    (.set 15 (.cn undef)
    .nil)
  (.chk (.gd (.vr 13) false (.un .not (.vr 15)))
  (.chk (.or (.vr 13) (.un .not (.vr 15)))
  (.set 17 (.or (.vr 13) (.un .not (.vr 15)))
  (.ite (.vr 17)
    (.set 6 (.cn (.int .i64 1))
    .ret)
    .nil
  (.set 7 (.cn (.int .i64 0))
  (.blk 0
    (.loop
      (.chk (.un .ln (.vr 2))
      (.chk (.bn (.cm .lss .i64) (.vr 7) (.un .ln (.vr 2)))
      (.set 21 (.bn (.cm .lss .i64) (.vr 7) (.un .ln (.vr 2)))
      (.ite (.vr 21)
        .nil
        (.exit 0)
      (.blk 1
        (.chk (.bn (.ia 1) (.vr 2) (.vr 7))
        (.chk (.ld (.bn (.ia 1) (.vr 2) (.vr 7)))
        (.set 27 (.ld (.bn (.ia 1) (.vr 2) (.vr 7)))
        (.call (some 28) 89 [(.vr 27)] []
        (.set 8 (.vr 28)
        (.chk (.un (.cv .u64) (.vr 1))
        (.chk (.bn (.sh false .u64) (.vr 8) (.un (.cv .u64) (.vr 1)))
        (.set 9 (.un (.cv .i64) (.bn (.sh false .u64) (.vr 8) (.un (.cv .u64) (.vr 1))))
        (.chk (.bn (.cm .lss .i64) (.vr 9) (.cn (.int .i64 32)))
        (.set 35 (.bn (.cm .lss .i64) (.vr 9) (.cn (.int .i64 32)))
        (.ite (.vr 35)
          (.call (some 38) 90 [(.vr 0), (.vr 9)] []
          (.chk (.un (.cv .u64) (.vr 1))
          (.chk (.bn (.sh true .u64) (.cn (.int .u64 1)) (.un (.cv .u64) (.vr 1)))
          (.chk (.bn (.bt .and .u64) (.vr 8) (.bn (.ar .sub .u64) (.bn (.sh true .u64) (.cn (.int .u64 1)) (.un (.cv .u64) (.vr 1))) (.cn (.int .u64 1))))
          (.call (some 47) 91 [(.vr 0), (.bn (.bt .and .u64) (.vr 8) (.bn (.ar .sub .u64) (.bn (.sh true .u64) (.cn (.int .u64 1)) (.un (.cv .u64) (.vr 1))) (.cn (.int .u64 1)))), (.vr 1)] []
          .nil)))))
          (.call (some 49) 90 [(.vr 0), (.cn (.int .i64 32))] []
          (.call (some 52) 91 [(.vr 0), (.vr 8), (.cn (.int .i64 32))] []
          .nil))
        .nil)))))))))))
      (.chk (.bn (.ar .add .i64) (.vr 7) (.cn (.int .i64 1)))
      (.set 7 (.bn (.ar .add .i64) (.vr 7) (.cn (.int .i64 1)))
      .nil))))))))
  (.set 6 (.cn (.int .i64 0))
  .ret))))))))))))
def fc76 : Fc := ⟨53, s76, [(.vr 6)]⟩
theorem c76 : compF Try.prog 76 = some fc76 := by kernel_rfl

/-- kinora/kinoraref24.Side · parameters 1 · 0:n -/
def s77 : S :=
  (.set 2 (.cn (.bool false))
  (.chk (.bn (.cm .geq .i64) (.vr 0) (.cn (.int .i64 1)))
  (.chk (.gd (.bn (.cm .geq .i64) (.vr 0) (.cn (.int .i64 1))) true (.bn (.cm .leq .i64) (.vr 0) (.cn (.int .i64 64))))
  (.set 2 (.and (.bn (.cm .geq .i64) (.vr 0) (.cn (.int .i64 1))) (.bn (.cm .leq .i64) (.vr 0) (.cn (.int .i64 64))))
  .ret))))
def fc77 : Fc := ⟨9, s77, [(.vr 2)]⟩
theorem c77 : compF Try.prog 77 = some fc77 := by kernel_rfl

/-- kinora/kinoraref8.RiceGet · parameters 3 · 0:r 1:k 2:n 8:out 9:i 10:q 11:u -/
def s78 : S :=
  (.set 6 (.cn (.slice none 0 0))
  (.set 7 (.cn (.int .i64 0))
  (.call (some 13) 87 [(.vr 1)] []
  (.chk (.un .not (.vr 13))
  (.set 15 (.un .not (.vr 13))
  (.chk (.gd (.vr 15) false (.bn (.cm .lss .i64) (.vr 2) (.cn (.int .i64 0))))
  (.chk (.or (.vr 15) (.bn (.cm .lss .i64) (.vr 2) (.cn (.int .i64 0))))
  (.set 19 (.or (.vr 15) (.bn (.cm .lss .i64) (.vr 2) (.cn (.int .i64 0))))
  (.chk (.gd (.vr 19) false (.bn (.cm .gtr .i64) (.vr 2) (.cn (.int .i64 4194304))))
  (.chk (.or (.vr 19) (.bn (.cm .gtr .i64) (.vr 2) (.cn (.int .i64 4194304))))
  (.set 22 (.or (.vr 19) (.bn (.cm .gtr .i64) (.vr 2) (.cn (.int .i64 4194304))))
  (.ite (.vr 22)
    (.set 6 (.cn (.slice none 0 0))
    (.set 7 (.cn (.int .i64 1))
    .ret))
    .nil
  (.chk (.un .nck (.vr 0))
  (.chk (.un (.fa 2) (.un .nck (.vr 0)))
  (.chk (.ld (.un (.fa 2) (.un .nck (.vr 0))))
  (.chk (.bn (.cm .neq .i64) (.ld (.un (.fa 2) (.un .nck (.vr 0)))) (.cn (.int .i64 0)))
  (.set 27 (.bn (.cm .neq .i64) (.ld (.un (.fa 2) (.un .nck (.vr 0)))) (.cn (.int .i64 0)))
  (.ite (.vr 27)
    (.draw
    (.chk (.un .nck (.vr 0))
    (.chk (.un (.fa 2) (.un .nck (.vr 0)))
    (.chk (.ld (.un (.fa 2) (.un .nck (.vr 0))))
    (.set 6 (.cn (.slice none 0 0))
    (.set 7 (.ld (.un (.fa 2) (.un .nck (.vr 0))))
    .ret))))))
    .nil
  (.set 8 (.cn (.slice none 0 0))
  (.set 9 (.cn (.int .i64 0))
  (.blk 0
    (.loop
      (.chk (.bn (.cm .lss .i64) (.vr 9) (.vr 2))
      (.set 34 (.bn (.cm .lss .i64) (.vr 9) (.vr 2))
      (.ite (.vr 34)
        .nil
        (.exit 0)
      (.blk 1
        (.call (some 38) 92 [(.vr 0), (.cn (.int .i64 32))] []
        (.set 10 (.vr 38)
        (.set 11 (.cn (.int .u64 0))
        (.chk (.bn (.cm .lss .i64) (.vr 10) (.cn (.int .i64 32)))
        (.set 40 (.bn (.cm .lss .i64) (.vr 10) (.cn (.int .i64 32)))
        (.ite (.vr 40)
          (.chk (.un (.cv .u64) (.vr 10))
          (.chk (.un (.cv .u64) (.vr 1))
          (.chk (.bn (.sh true .u64) (.un (.cv .u64) (.vr 10)) (.un (.cv .u64) (.vr 1)))
          (.call (some 48) 93 [(.vr 0), (.vr 1)] []
          (.chk (.bn (.bt .or .u64) (.bn (.sh true .u64) (.un (.cv .u64) (.vr 10)) (.un (.cv .u64) (.vr 1))) (.vr 48))
          (.set 11 (.bn (.bt .or .u64) (.bn (.sh true .u64) (.un (.cv .u64) (.vr 10)) (.un (.cv .u64) (.vr 1))) (.vr 48))
          .nil))))))
          (.call (some 51) 93 [(.vr 0), (.cn (.int .i64 32))] []
          (.set 11 (.vr 51)
          (.chk (.un .nck (.vr 0))
          (.chk (.un (.fa 2) (.un .nck (.vr 0)))
          (.chk (.ld (.un (.fa 2) (.un .nck (.vr 0))))
          (.chk (.bn (.cm .eql .i64) (.ld (.un (.fa 2) (.un .nck (.vr 0)))) (.cn (.int .i64 0)))
          (.chk (.gd (.bn (.cm .eql .i64) (.ld (.un (.fa 2) (.un .nck (.vr 0)))) (.cn (.int .i64 0))) true (.bn (.cm .geq .u64) (.vr 11) (.cn (.int .u64 2147483648))))
          (.chk (.gd (.gd (.bn (.cm .eql .i64) (.ld (.un (.fa 2) (.un .nck (.vr 0)))) (.cn (.int .i64 0))) true (.bn (.cm .geq .u64) (.vr 11) (.cn (.int .u64 2147483648)))) false (.un (.cv .u64) (.vr 1)))
          (.chk (.gd (.gd (.bn (.cm .eql .i64) (.ld (.un (.fa 2) (.un .nck (.vr 0)))) (.cn (.int .i64 0))) true (.bn (.cm .geq .u64) (.vr 11) (.cn (.int .u64 2147483648)))) false (.bn (.sh false .u64) (.vr 11) (.un (.cv .u64) (.vr 1))))
          (.set 67 (.and (.bn (.cm .eql .i64) (.ld (.un (.fa 2) (.un .nck (.vr 0)))) (.cn (.int .i64 0))) (.or (.bn (.cm .geq .u64) (.vr 11) (.cn (.int .u64 2147483648))) (.bn (.cm .lss .u64) (.bn (.sh false .u64) (.vr 11) (.un (.cv .u64) (.vr 1))) (.cn (.int .u64 32)))))
          (.ite (.vr 67)
            (.set 6 (.cn (.slice none 0 0))
            (.set 7 (.cn (.int .i64 2))
            .ret))
            .nil
          .nil)))))))))))
        (.chk (.un .nck (.vr 0))
        (.chk (.un (.fa 2) (.un .nck (.vr 0)))
        (.chk (.ld (.un (.fa 2) (.un .nck (.vr 0))))
        (.chk (.bn (.cm .neq .i64) (.ld (.un (.fa 2) (.un .nck (.vr 0)))) (.cn (.int .i64 0)))
        (.set 72 (.bn (.cm .neq .i64) (.ld (.un (.fa 2) (.un .nck (.vr 0)))) (.cn (.int .i64 0)))
        (.ite (.vr 72)
          (.draw
          (.chk (.un .nck (.vr 0))
          (.chk (.un (.fa 2) (.un .nck (.vr 0)))
          (.chk (.ld (.un (.fa 2) (.un .nck (.vr 0))))
          (.set 6 (.cn (.slice none 0 0))
          (.set 7 (.ld (.un (.fa 2) (.un .nck (.vr 0))))
          .ret))))))
          .nil
        (.call (some 79) 94 [(.vr 11)] []
        (.op (some 80) (.buildSlice 33 1 #[(0, (.tmp 79))]) 33 [(79, (.vr 79))] []
        (.op (some 81) (.call ⟨(.builtin .append), #[(.tmp 77), (.tmp 80)], #[33, 33]⟩) 33 [(77, (.vr 8)), (80, (.vr 80))] []
        (.set 8 (.vr 81)
        .nil))))))))))))))))
      (.chk (.bn (.ar .add .i64) (.vr 9) (.cn (.int .i64 1)))
      (.set 9 (.bn (.ar .add .i64) (.vr 9) (.cn (.int .i64 1)))
      .nil)))))))
  (.set 6 (.vr 8)
  (.set 7 (.cn (.int .i64 0))
  .ret)))))))))))))))))))))))
def fc78 : Fc := ⟨83, s78, [(.vr 6), (.vr 7)]⟩
theorem c78 : compF Try.prog 78 = some fc78 := by kernel_rfl

/-- kinora/kinoraref27.form · parameters 1 · 0:r -/
def s79 : S :=
  (.set 2 (.cn (.int .i64 0))
  (.call (some 4) 95 [(.vr 0)] []
  (.chk (.bn (.cm .neq .i64) (.vr 4) (.cn (.int .i64 0)))
  (.set 5 (.bn (.cm .neq .i64) (.vr 4) (.cn (.int .i64 0)))
  (.ite (.vr 5)
    (.call (some 7) 95 [(.vr 0)] []
    (.set 2 (.vr 7)
    .ret))
    .nil
  (.set 2 (.cn (.int .i64 2))
  .ret))))))
def fc79 : Fc := ⟨8, s79, [(.vr 2)]⟩
theorem c79 : compF Try.prog 79 = some fc79 := by kernel_rfl

/-- kinora/guess.nearest · parameters 2 · 0:target 1:choices 5:best 7:c -/
def s80 : S :=
  (.set 4 (.cn (.int .i64 0))
  (.chk (.bn (.ia 1) (.vr 1) (.cn (.int .i64 0)))
  (.chk (.ld (.bn (.ia 1) (.vr 1) (.cn (.int .i64 0))))
  (.set 5 (.ld (.bn (.ia 1) (.vr 1) (.cn (.int .i64 0))))
  (.set 11 (.vr 1)
  (.chk (.un .ln (.vr 11))
  (.set 12 (.un .ln (.vr 11))
  (.set 13 (.cn (.int .i64 0))
  (.blk 0
    (.loop
      (.chk (.bn (.cm .lss .i64) (.vr 13) (.vr 12))
      (.set 14 (.bn (.cm .lss .i64) (.vr 13) (.vr 12))
      (.ite (.vr 14)
        .nil
        (.exit 0)
      (.blk 1
        (.chk (.bn (.ia 1) (.vr 11) (.vr 13))
        (.chk (.ld (.bn (.ia 1) (.vr 11) (.vr 13)))
        (.set 7 (.ld (.bn (.ia 1) (.vr 11) (.vr 13)))
        (.call (some 19) 96 [(.vr 7), (.vr 0)] []
        (.call (some 22) 96 [(.vr 5), (.vr 0)] []
        (.chk (.bn (.cm .lss .i64) (.vr 19) (.vr 22))
        (.set 23 (.bn (.cm .lss .i64) (.vr 19) (.vr 22))
        (.ite (.vr 23)
          (.set 5 (.vr 7)
          .nil)
          .nil
        .nil))))))))
      (.chk (.bn (.ar .add .i64) (.vr 13) (.cn (.int .i64 1)))
      (.set 13 (.bn (.ar .add .i64) (.vr 13) (.cn (.int .i64 1)))
      .nil)))))))
  (.set 4 (.vr 5)
  .ret))))))))))
def fc80 : Fc := ⟨27, s80, [(.vr 4)]⟩
theorem c80 : compF Try.prog 80 = some fc80 := by kernel_rfl

/-- (*kinora/bits.Writer).bit · parameters 2 · 0:w 1:b -/
def s81 : S :=
  (.chk (.un .nck (.vr 0))
  (.chk (.un (.fa 1) (.un .nck (.vr 0)))
  (.chk (.ld (.un (.fa 1) (.un .nck (.vr 0))))
  (.chk (.bn (.dv true .i64) (.ld (.un (.fa 1) (.un .nck (.vr 0)))) (.cn (.int .i64 8)))
  (.set 9 (.bn (.cm .eql .i64) (.bn (.dv true .i64) (.ld (.un (.fa 1) (.un .nck (.vr 0)))) (.cn (.int .i64 8))) (.cn (.int .i64 0)))
  (.ite (.vr 9)
    (.chk (.un .nck (.vr 0))
    (.chk (.un (.fa 0) (.un .nck (.vr 0)))
    (.chk (.ld (.un (.fa 0) (.un .nck (.vr 0))))
    (.set 14 (.ld (.un (.fa 0) (.un .nck (.vr 0))))
    (.op (some 15) (.buildSlice 50 1 #[(0, (.const (.int .u8 0)))]) 50 [] []
    (.op (some 16) (.call ⟨(.builtin .append), #[(.tmp 14), (.tmp 15)], #[50, 50]⟩) 50 [(14, (.vr 14)), (15, (.vr 15))] []
    (.chk (.un .nck (.vr 0))
    (.chk (.un (.fa 0) (.un .nck (.vr 0)))
    (.st 1 (.un (.fa 0) (.un .nck (.vr 0))) (.vr 16) []
    .nil)))))))))
    .nil
  (.draw
  (.chk (.un .nck (.vr 0))
  (.chk (.un (.fa 0) (.un .nck (.vr 0)))
  (.chk (.ld (.un (.fa 0) (.un .nck (.vr 0))))
  (.set 22 (.ld (.un (.fa 0) (.un .nck (.vr 0))))
  (.chk (.un .nck (.vr 0))
  (.chk (.un (.fa 1) (.un .nck (.vr 0)))
  (.chk (.ld (.un (.fa 1) (.un .nck (.vr 0))))
  (.set 26 (.ld (.un (.fa 1) (.un .nck (.vr 0))))
  (.chk (.bn (.dv false .i64) (.vr 26) (.cn (.int .i64 8)))
  (.chk (.bn (.ia 1) (.vr 22) (.bn (.dv false .i64) (.vr 26) (.cn (.int .i64 8))))
  (.chk (.ld (.bn (.ia 1) (.vr 22) (.bn (.dv false .i64) (.vr 26) (.cn (.int .i64 8)))))
  (.set 29 (.ld (.bn (.ia 1) (.vr 22) (.bn (.dv false .i64) (.vr 26) (.cn (.int .i64 8)))))
  (.chk (.un .nck (.vr 0))
  (.chk (.un (.fa 1) (.un .nck (.vr 0)))
  (.chk (.ld (.un (.fa 1) (.un .nck (.vr 0))))
  (.set 34 (.ld (.un (.fa 1) (.un .nck (.vr 0))))
  (.chk (.bn (.dv true .i64) (.vr 34) (.cn (.int .i64 8)))
  (.chk (.bn (.sh true .u8) (.vr 1) (.bn (.ar .sub .i64) (.cn (.int .i64 7)) (.bn (.dv true .i64) (.vr 34) (.cn (.int .i64 8)))))
  (.chk (.bn (.bt .or .u8) (.vr 29) (.bn (.sh true .u8) (.vr 1) (.bn (.ar .sub .i64) (.cn (.int .i64 7)) (.bn (.dv true .i64) (.vr 34) (.cn (.int .i64 8))))))
  (.chk (.bn (.ia 1) (.vr 22) (.bn (.dv false .i64) (.vr 26) (.cn (.int .i64 8))))
  (.st 1 (.bn (.ia 1) (.vr 22) (.bn (.dv false .i64) (.vr 26) (.cn (.int .i64 8)))) (.bn (.bt .or .u8) (.vr 29) (.bn (.sh true .u8) (.vr 1) (.bn (.ar .sub .i64) (.cn (.int .i64 7)) (.bn (.dv true .i64) (.vr 34) (.cn (.int .i64 8)))))) []
  (.chk (.un .nck (.vr 0))
  (.chk (.un (.fa 1) (.un .nck (.vr 0)))
  (.chk (.ld (.un (.fa 1) (.un .nck (.vr 0))))
  (.set 43 (.ld (.un (.fa 1) (.un .nck (.vr 0))))
  (.chk (.bn (.ar .add .i64) (.vr 43) (.cn (.int .i64 1)))
  (.chk (.un .nck (.vr 0))
  (.chk (.un (.fa 1) (.un .nck (.vr 0)))
  (.st 1 (.un (.fa 1) (.un .nck (.vr 0))) (.bn (.ar .add .i64) (.vr 43) (.cn (.int .i64 1))) []
  .nil))))))))))))))))))))))))))))))))))))
def fc81 : Fc := ⟨47, s81, []⟩
theorem c81 : compF Try.prog 81 = some fc81 := by kernel_rfl

/-- (*kinora/bits.Reader).Unary · parameters 2 · 0:r 1:most 5:zeros 6:i -/
def s82 : S :=
  (.set 4 (.cn (.int .i64 0))
  (.chk (.un .nck (.vr 0))
  (.chk (.un (.fa 2) (.un .nck (.vr 0)))
  (.chk (.ld (.un (.fa 2) (.un .nck (.vr 0))))
  (.chk (.bn (.cm .neq .i64) (.ld (.un (.fa 2) (.un .nck (.vr 0)))) (.cn (.int .i64 0)))
  (.set 11 (.bn (.cm .neq .i64) (.ld (.un (.fa 2) (.un .nck (.vr 0)))) (.cn (.int .i64 0)))
  (.ite (.vr 11)
    (.set 4 (.cn (.int .i64 0))
    .ret)
    .nil
  (.chk (.bn (.mx .i64) (.vr 1) (.cn (.int .i64 0)))
  (.set 1 (.bn (.mx .i64) (.vr 1) (.cn (.int .i64 0)))
  (.draw
  (.chk (.un .nck (.vr 0))
  (.chk (.un (.fa 1) (.un .nck (.vr 0)))
  (.chk (.ld (.un (.fa 1) (.un .nck (.vr 0))))
  (.set 5 (.cn (.int .i64 0))
  (.set 6 (.ld (.un (.fa 1) (.un .nck (.vr 0))))
  (.blk 0
    (.loop
      (.blk 1
        (.chk (.un .nck (.vr 0))
        (.chk (.un (.fa 0) (.un .nck (.vr 0)))
        (.chk (.ld (.un (.fa 0) (.un .nck (.vr 0))))
        (.chk (.un .ln (.ld (.un (.fa 0) (.un .nck (.vr 0)))))
        (.chk (.bn (.cm .eql .i64) (.vr 6) (.bn (.ar .mul .i64) (.cn (.int .i64 8)) (.un .ln (.ld (.un (.fa 0) (.un .nck (.vr 0)))))))
        (.set 29 (.bn (.cm .eql .i64) (.vr 6) (.bn (.ar .mul .i64) (.cn (.int .i64 8)) (.un .ln (.ld (.un (.fa 0) (.un .nck (.vr 0)))))))
        (.ite (.vr 29)
          (.chk (.un .nck (.vr 0))
          (.chk (.un (.fa 2) (.un .nck (.vr 0)))
          (.st 1 (.un (.fa 2) (.un .nck (.vr 0))) (.cn (.int .i64 3)) []
          (.set 4 (.cn (.int .i64 0))
          .ret))))
          .nil
        (.call (some 35) 97 [(.vr 0), (.vr 6)] []
        (.chk (.bn (.cm .eql .u8) (.vr 35) (.cn (.int .u8 1)))
        (.set 36 (.bn (.cm .eql .u8) (.vr 35) (.cn (.int .u8 1)))
        (.ite (.vr 36)
          (.chk (.bn (.ar .add .i64) (.vr 6) (.cn (.int .i64 1)))
          (.chk (.un .nck (.vr 0))
          (.chk (.un (.fa 1) (.un .nck (.vr 0)))
          (.st 1 (.un (.fa 1) (.un .nck (.vr 0))) (.bn (.ar .add .i64) (.vr 6) (.cn (.int .i64 1))) []
          (.set 4 (.vr 5)
          .ret)))))
          .nil
        (.chk (.bn (.cm .eql .i64) (.vr 5) (.vr 1))
        (.set 45 (.bn (.cm .eql .i64) (.vr 5) (.vr 1))
        (.ite (.vr 45)
          (.chk (.un .nck (.vr 0))
          (.chk (.un (.fa 2) (.un .nck (.vr 0)))
          (.st 1 (.un (.fa 2) (.un .nck (.vr 0))) (.cn (.int .i64 2)) []
          (.set 4 (.cn (.int .i64 0))
          .ret))))
          .nil
        .nil))))))))))))))
      (.chk (.bn (.ar .add .i64) (.vr 5) (.cn (.int .i64 1)))
      (.chk (.bn (.ar .add .i64) (.vr 6) (.cn (.int .i64 1)))
      (.set 5 (.bn (.ar .add .i64) (.vr 5) (.cn (.int .i64 1)))
      (.set 6 (.bn (.ar .add .i64) (.vr 6) (.cn (.int .i64 1)))
      .nil))))))
  .nil))))))))))))))))
def fc82 : Fc := ⟨49, s82, [(.vr 4)]⟩
theorem c82 : compF Try.prog 82 = some fc82 := by kernel_rfl

/-- (*kinora/bits.Reader).Get · parameters 2 · 0:r 1:n 5:v -/
def s83 : S :=
  (.set 4 (.cn (.int .u64 0))
  (.chk (.un .nck (.vr 0))
  (.chk (.un (.fa 2) (.un .nck (.vr 0)))
  (.chk (.ld (.un (.fa 2) (.un .nck (.vr 0))))
  (.chk (.bn (.cm .neq .i64) (.ld (.un (.fa 2) (.un .nck (.vr 0)))) (.cn (.int .i64 0)))
  (.set 10 (.bn (.cm .neq .i64) (.ld (.un (.fa 2) (.un .nck (.vr 0)))) (.cn (.int .i64 0)))
  (.ite (.vr 10)
    (.set 4 (.cn (.int .u64 0))
    .ret)
    .nil
  (.chk (.bn (.cm .lss .i64) (.vr 1) (.cn (.int .i64 0)))
  (.chk (.gd (.bn (.cm .lss .i64) (.vr 1) (.cn (.int .i64 0))) false (.bn (.cm .gtr .i64) (.vr 1) (.cn (.int .i64 64))))
  (.set 16 (.or (.bn (.cm .lss .i64) (.vr 1) (.cn (.int .i64 0))) (.bn (.cm .gtr .i64) (.vr 1) (.cn (.int .i64 64))))
  (.ite (.vr 16)
    (.chk (.un .nck (.vr 0))
    (.chk (.un (.fa 2) (.un .nck (.vr 0)))
    (.st 1 (.un (.fa 2) (.un .nck (.vr 0))) (.cn (.int .i64 1)) []
    (.set 4 (.cn (.int .u64 0))
    .ret))))
    .nil
  (.call (some 22) 98 [(.vr 0)] []
  (.chk (.bn (.cm .gtr .i64) (.vr 1) (.vr 22))
  (.set 23 (.bn (.cm .gtr .i64) (.vr 1) (.vr 22))
  (.ite (.vr 23)
    (.chk (.un .nck (.vr 0))
    (.chk (.un (.fa 2) (.un .nck (.vr 0)))
    (.st 1 (.un (.fa 2) (.un .nck (.vr 0))) (.cn (.int .i64 3)) []
    (.set 4 (.cn (.int .u64 0))
    .ret))))
    .nil
  (.set 5 (.cn (.int .u64 0))
  (.set 27 (.vr 1)
  (.set 28 (.cn (.int .i64 0))
  (.blk 0
    (.loop
      (.chk (.bn (.cm .lss .i64) (.vr 28) (.vr 27))
      (.set 29 (.bn (.cm .lss .i64) (.vr 28) (.vr 27))
      (.ite (.vr 29)
        .nil
        (.exit 0)
      (.blk 1
        (.chk (.bn (.sh true .u64) (.vr 5) (.cn (.int .u64 1)))
        (.chk (.un .nck (.vr 0))
        (.chk (.un (.fa 1) (.un .nck (.vr 0)))
        (.chk (.ld (.un (.fa 1) (.un .nck (.vr 0))))
        (.set 36 (.ld (.un (.fa 1) (.un .nck (.vr 0))))
        (.call (some 37) 97 [(.vr 0), (.vr 36)] []
        (.chk (.un (.cv .u64) (.vr 37))
        (.set 5 (.bn (.bt .or .u64) (.bn (.sh true .u64) (.vr 5) (.cn (.int .u64 1))) (.un (.cv .u64) (.vr 37)))
        (.chk (.un .nck (.vr 0))
        (.chk (.un (.fa 1) (.un .nck (.vr 0)))
        (.chk (.ld (.un (.fa 1) (.un .nck (.vr 0))))
        (.set 43 (.ld (.un (.fa 1) (.un .nck (.vr 0))))
        (.chk (.bn (.ar .add .i64) (.vr 43) (.cn (.int .i64 1)))
        (.chk (.un .nck (.vr 0))
        (.chk (.un (.fa 1) (.un .nck (.vr 0)))
        (.st 1 (.un (.fa 1) (.un .nck (.vr 0))) (.bn (.ar .add .i64) (.vr 43) (.cn (.int .i64 1))) []
        .nil))))))))))))))))
      (.chk (.bn (.ar .add .i64) (.vr 28) (.cn (.int .i64 1)))
      (.set 28 (.bn (.ar .add .i64) (.vr 28) (.cn (.int .i64 1)))
      .nil)))))))
  (.set 4 (.vr 5)
  .ret))))))))))))))))))))
def fc83 : Fc := ⟨49, s83, [(.vr 4)]⟩
theorem c83 : compF Try.prog 83 = some fc83 := by kernel_rfl

/-- kinora/rice.Unfold · parameters 1 · 0:u -/
def s84 : S :=
  (.set 2 (.cn (.int .i64 0))
  (.blk 0
    (.chk (.bn (.cm .geq .u64) (.vr 0) (.cn (.int .u64 2147483648)))
    (.set 3 (.bn (.cm .geq .u64) (.vr 0) (.cn (.int .u64 2147483648)))
    (.ite (.vr 3)
      (.set 2 (.cn (.int .i64 0))
      .ret)
      (.chk (.bn (.dv true .u64) (.vr 0) (.cn (.int .u64 2)))
      (.set 6 (.bn (.cm .eql .u64) (.bn (.dv true .u64) (.vr 0) (.cn (.int .u64 2))) (.cn (.int .u64 0)))
      (.ite (.vr 6)
        (.chk (.bn (.dv false .u64) (.vr 0) (.cn (.int .u64 2)))
        (.set 2 (.un (.cv .i64) (.bn (.dv false .u64) (.vr 0) (.cn (.int .u64 2))))
        .ret))
        .nil
      .nil)))
    .nil)))
  (.chk (.bn (.dv false .u64) (.vr 0) (.cn (.int .u64 2)))
  (.set 2 (.bn (.ar .sub .i64) (.un (.neg .i64) (.un (.cv .i64) (.bn (.dv false .u64) (.vr 0) (.cn (.int .u64 2))))) (.cn (.int .i64 1)))
  .ret))))
def fc84 : Fc := ⟨18, s84, [(.vr 2)]⟩
theorem c84 : compF Try.prog 84 = some fc84 := by kernel_rfl

/-- kinora/kinoraref24.GuessNear · parameters 4 · 0:l 1:w 2:x 3:y 12:at 13:n 14:west 15:a 16:b -/
def s85 : S :=
  (.set 8 (.cn (.int .i64 0))
  (.set 9 (.cn (.int .i64 0))
  (.set 10 (.cn (.int .i64 0))
  (.set 11 (.cn (.int .i64 0))
  (.call (some 18) 77 [(.vr 1)] []
  (.chk (.un .not (.vr 18))
  (.set 20 (.un .not (.vr 18))
  (.chk (.gd (.vr 20) false (.bn (.cm .lss .i64) (.vr 2) (.cn (.int .i64 0))))
  (.chk (.or (.vr 20) (.bn (.cm .lss .i64) (.vr 2) (.cn (.int .i64 0))))
  (.set 24 (.or (.vr 20) (.bn (.cm .lss .i64) (.vr 2) (.cn (.int .i64 0))))
  (.chk (.gd (.vr 24) false (.bn (.cm .geq .i64) (.vr 2) (.vr 1)))
  (.chk (.or (.vr 24) (.bn (.cm .geq .i64) (.vr 2) (.vr 1)))
  (.set 29 (.or (.vr 24) (.bn (.cm .geq .i64) (.vr 2) (.vr 1)))
  (.chk (.gd (.vr 29) false (.bn (.cm .lss .i64) (.vr 3) (.cn (.int .i64 0))))
  (.chk (.or (.vr 29) (.bn (.cm .lss .i64) (.vr 3) (.cn (.int .i64 0))))
  (.set 33 (.or (.vr 29) (.bn (.cm .lss .i64) (.vr 3) (.cn (.int .i64 0))))
  (.chk (.gd (.vr 33) false (.bn (.cm .geq .i64) (.vr 3) (.cn (.int .i64 64))))
  (.chk (.or (.vr 33) (.bn (.cm .geq .i64) (.vr 3) (.cn (.int .i64 64))))
  (.set 37 (.or (.vr 33) (.bn (.cm .geq .i64) (.vr 3) (.cn (.int .i64 64))))
  (.chk (.gd (.vr 37) false (.un .ln (.vr 0)))
  (.chk (.gd (.vr 37) false (.bn (.ar .mul .i64) (.vr 3) (.vr 1)))
  (.chk (.gd (.vr 37) false (.bn (.ar .add .i64) (.bn (.ar .mul .i64) (.vr 3) (.vr 1)) (.vr 2)))
  (.chk (.or (.vr 37) (.bn (.cm .lss .i64) (.un .ln (.vr 0)) (.bn (.ar .add .i64) (.bn (.ar .mul .i64) (.vr 3) (.vr 1)) (.vr 2))))
  (.set 46 (.or (.vr 37) (.bn (.cm .lss .i64) (.un .ln (.vr 0)) (.bn (.ar .add .i64) (.bn (.ar .mul .i64) (.vr 3) (.vr 1)) (.vr 2))))
  (.ite (.vr 46)
    (.set 8 (.cn (.int .i64 0))
    (.set 9 (.cn (.int .i64 0))
    (.set 10 (.cn (.int .i64 0))
    (.set 11 (.cn (.int .i64 0))
    .ret))))
    .nil
  (.chk (.bn (.ar .mul .i64) (.vr 3) (.vr 1))
  (.chk (.bn (.ar .add .i64) (.bn (.ar .mul .i64) (.vr 3) (.vr 1)) (.vr 2))
  (.set 12 (.bn (.ar .add .i64) (.bn (.ar .mul .i64) (.vr 3) (.vr 1)) (.vr 2))
  (.chk (.bn (.cm .eql .i64) (.vr 3) (.cn (.int .i64 0)))
  (.set 53 (.bn (.cm .eql .i64) (.vr 3) (.cn (.int .i64 0)))
  (.ite (.vr 53)
    (.chk (.bn (.cm .eql .i64) (.vr 2) (.cn (.int .i64 0)))
    (.set 55 (.bn (.cm .eql .i64) (.vr 2) (.cn (.int .i64 0)))
    (.ite (.vr 55)
      (.set 8 (.cn (.int .i64 0))
      (.set 9 (.cn (.int .i64 0))
      (.set 10 (.cn (.int .i64 0))
      (.set 11 (.cn (.int .i64 0))
      .ret))))
      .nil
    (.draw
    (.chk (.bn (.ar .sub .i64) (.vr 12) (.cn (.int .i64 1)))
    (.chk (.bn (.ia 1) (.vr 0) (.bn (.ar .sub .i64) (.vr 12) (.cn (.int .i64 1))))
    (.chk (.ld (.bn (.ia 1) (.vr 0) (.bn (.ar .sub .i64) (.vr 12) (.cn (.int .i64 1)))))
    (.chk (.bn (.ar .sub .i64) (.vr 12) (.cn (.int .i64 1)))
    (.chk (.bn (.ia 1) (.vr 0) (.bn (.ar .sub .i64) (.vr 12) (.cn (.int .i64 1))))
    (.chk (.ld (.bn (.ia 1) (.vr 0) (.bn (.ar .sub .i64) (.vr 12) (.cn (.int .i64 1)))))
    (.chk (.bn (.ar .sub .i64) (.vr 12) (.cn (.int .i64 1)))
    (.chk (.bn (.ia 1) (.vr 0) (.bn (.ar .sub .i64) (.vr 12) (.cn (.int .i64 1))))
    (.chk (.ld (.bn (.ia 1) (.vr 0) (.bn (.ar .sub .i64) (.vr 12) (.cn (.int .i64 1)))))
    (.chk (.bn (.ar .sub .i64) (.vr 12) (.cn (.int .i64 1)))
    (.chk (.bn (.ia 1) (.vr 0) (.bn (.ar .sub .i64) (.vr 12) (.cn (.int .i64 1))))
    (.chk (.ld (.bn (.ia 1) (.vr 0) (.bn (.ar .sub .i64) (.vr 12) (.cn (.int .i64 1)))))
    (.set 8 (.ld (.bn (.ia 1) (.vr 0) (.bn (.ar .sub .i64) (.vr 12) (.cn (.int .i64 1)))))
    (.set 9 (.ld (.bn (.ia 1) (.vr 0) (.bn (.ar .sub .i64) (.vr 12) (.cn (.int .i64 1)))))
    (.set 10 (.ld (.bn (.ia 1) (.vr 0) (.bn (.ar .sub .i64) (.vr 12) (.cn (.int .i64 1)))))
    (.set 11 (.ld (.bn (.ia 1) (.vr 0) (.bn (.ar .sub .i64) (.vr 12) (.cn (.int .i64 1)))))
    .ret))))))))))))))))))))
    .nil
  (.chk (.bn (.ar .sub .i64) (.vr 12) (.vr 1))
  (.chk (.bn (.ia 1) (.vr 0) (.bn (.ar .sub .i64) (.vr 12) (.vr 1)))
  (.chk (.ld (.bn (.ia 1) (.vr 0) (.bn (.ar .sub .i64) (.vr 12) (.vr 1))))
  (.set 13 (.ld (.bn (.ia 1) (.vr 0) (.bn (.ar .sub .i64) (.vr 12) (.vr 1))))
  (.set 14 (.vr 13)
  (.set 15 (.vr 13)
  (.set 16 (.vr 13)
  (.chk (.bn (.cm .gtr .i64) (.vr 2) (.cn (.int .i64 0)))
  (.set 86 (.bn (.cm .gtr .i64) (.vr 2) (.cn (.int .i64 0)))
  (.ite (.vr 86)
    (.draw
    (.chk (.bn (.ar .sub .i64) (.vr 12) (.cn (.int .i64 1)))
    (.chk (.bn (.ia 1) (.vr 0) (.bn (.ar .sub .i64) (.vr 12) (.cn (.int .i64 1))))
    (.chk (.ld (.bn (.ia 1) (.vr 0) (.bn (.ar .sub .i64) (.vr 12) (.cn (.int .i64 1)))))
    (.chk (.bn (.ar .sub .i64) (.vr 12) (.vr 1))
    (.chk (.bn (.ia 1) (.vr 0) (.bn (.ar .sub .i64) (.bn (.ar .sub .i64) (.vr 12) (.vr 1)) (.cn (.int .i64 1))))
    (.chk (.ld (.bn (.ia 1) (.vr 0) (.bn (.ar .sub .i64) (.bn (.ar .sub .i64) (.vr 12) (.vr 1)) (.cn (.int .i64 1)))))
    (.set 14 (.ld (.bn (.ia 1) (.vr 0) (.bn (.ar .sub .i64) (.vr 12) (.cn (.int .i64 1)))))
    (.set 15 (.ld (.bn (.ia 1) (.vr 0) (.bn (.ar .sub .i64) (.bn (.ar .sub .i64) (.vr 12) (.vr 1)) (.cn (.int .i64 1)))))
    .nil)))))))))
    .nil
  (.chk (.bn (.ar .sub .i64) (.vr 1) (.cn (.int .i64 1)))
  (.chk (.bn (.cm .lss .i64) (.vr 2) (.bn (.ar .sub .i64) (.vr 1) (.cn (.int .i64 1))))
  (.set 102 (.bn (.cm .lss .i64) (.vr 2) (.bn (.ar .sub .i64) (.vr 1) (.cn (.int .i64 1))))
  (.ite (.vr 102)
    (.chk (.bn (.ar .sub .i64) (.vr 12) (.vr 1))
    (.chk (.bn (.ia 1) (.vr 0) (.bn (.ar .add .i64) (.bn (.ar .sub .i64) (.vr 12) (.vr 1)) (.cn (.int .i64 1))))
    (.chk (.ld (.bn (.ia 1) (.vr 0) (.bn (.ar .add .i64) (.bn (.ar .sub .i64) (.vr 12) (.vr 1)) (.cn (.int .i64 1)))))
    (.set 16 (.ld (.bn (.ia 1) (.vr 0) (.bn (.ar .add .i64) (.bn (.ar .sub .i64) (.vr 12) (.vr 1)) (.cn (.int .i64 1)))))
    .nil))))
    .nil
  (.set 8 (.vr 14)
  (.set 9 (.vr 13)
  (.set 10 (.vr 15)
  (.set 11 (.vr 16)
  .ret)))))))))))))))))))))))))))))))))))))))))))))))))
def fc85 : Fc := ⟨114, s85, [(.vr 8), (.vr 9), (.vr 10), (.vr 11)]⟩
theorem c85 : compF Try.prog 85 = some fc85 := by kernel_rfl

/-- kinora/kinoraref24.GuessOne · parameters 6 · 0:kind 1:w 2:n 3:a 4:b 5:depth 13:g -/
def s86 : S :=
  (.set 12 (.cn (.int .i64 0))
  (.chk (.bn (.cm .lss .i64) (.vr 0) (.cn (.int .i64 0)))
  (.set 16 (.bn (.cm .lss .i64) (.vr 0) (.cn (.int .i64 0)))
  (.chk (.gd (.vr 16) false (.bn (.cm .gtr .i64) (.vr 0) (.cn (.int .i64 9))))
  (.chk (.or (.vr 16) (.bn (.cm .gtr .i64) (.vr 0) (.cn (.int .i64 9))))
  (.set 20 (.or (.vr 16) (.bn (.cm .gtr .i64) (.vr 0) (.cn (.int .i64 9))))
  (.ifg (.vr 20) false
    (.call (some 22) 32 [(.vr 5)] []
    .nil)
    (.set 22 (.cn undef)
    .nil)
  (.chk (.gd (.vr 20) false (.un .not (.vr 22)))
  (.chk (.or (.vr 20) (.un .not (.vr 22)))
  (.set 25 (.or (.vr 20) (.un .not (.vr 22)))
  (.ifg (.vr 25) false
    (.op (some 30) (.buildSlice 33 4 #[(0, (.tmp 26)), (1, (.tmp 27)), (2, (.tmp 28)), (3, (.tmp 29))]) 33 [(26, (.vr 1)), (27, (.vr 2)), (28, (.vr 3)), (29, (.vr 4))] []
    .nil)
    (.set 30 (.cn undef)
    .nil)
  (.ifg (.vr 25) false
    (.call (some 32) 65 [(.vr 30), (.vr 5)] []
    .nil)
    (.set 32 (.cn undef)
    .nil)
  (.chk (.gd (.vr 25) false (.un .not (.vr 32)))
  (.chk (.or (.vr 25) (.un .not (.vr 32)))
  (.set 34 (.or (.vr 25) (.un .not (.vr 32)))
  (.ite (.vr 34)
    (.set 12 (.cn (.int .i64 0))
    .ret)
    .nil
  (.chk (.bn (.ar .add .i64) (.vr 1) (.vr 2))
  (.chk (.bn (.ar .sub .i64) (.bn (.ar .add .i64) (.vr 1) (.vr 2)) (.vr 3))
  (.set 13 (.bn (.ar .sub .i64) (.bn (.ar .add .i64) (.vr 1) (.vr 2)) (.vr 3))
  (.set 40 (.vr 0)
  (.blk 0
    (.chk (.bn (.cm .eql .i64) (.vr 40) (.cn (.int .i64 1)))
    (.set 41 (.bn (.cm .eql .i64) (.vr 40) (.cn (.int .i64 1)))
    (.ite (.vr 41)
      (.set 12 (.vr 1)
      .ret)
      (.chk (.bn (.cm .eql .i64) (.vr 40) (.cn (.int .i64 2)))
      (.set 44 (.bn (.cm .eql .i64) (.vr 40) (.cn (.int .i64 2)))
      (.ite (.vr 44)
        (.set 12 (.vr 2)
        .ret)
        (.chk (.bn (.cm .eql .i64) (.vr 40) (.cn (.int .i64 3)))
        (.set 47 (.bn (.cm .eql .i64) (.vr 40) (.cn (.int .i64 3)))
        (.ite (.vr 47)
          (.set 12 (.vr 3)
          .ret)
          (.chk (.bn (.cm .eql .i64) (.vr 40) (.cn (.int .i64 4)))
          (.set 50 (.bn (.cm .eql .i64) (.vr 40) (.cn (.int .i64 4)))
          (.ite (.vr 50)
            (.set 12 (.vr 4)
            .ret)
            (.chk (.bn (.cm .eql .i64) (.vr 40) (.cn (.int .i64 5)))
            (.set 53 (.bn (.cm .eql .i64) (.vr 40) (.cn (.int .i64 5)))
            (.ite (.vr 53)
              (.chk (.bn (.ar .add .i64) (.vr 1) (.vr 2))
              (.set 12 (.bn (.dv false .i64) (.bn (.ar .add .i64) (.vr 1) (.vr 2)) (.cn (.int .i64 2)))
              .ret))
              (.chk (.bn (.cm .eql .i64) (.vr 40) (.cn (.int .i64 6)))
              (.set 59 (.bn (.cm .eql .i64) (.vr 40) (.cn (.int .i64 6)))
              (.ite (.vr 59)
                (.chk (.bn (.ar .sub .i64) (.vr 1) (.vr 13))
                (.call (some 64) 99 [(.bn (.ar .sub .i64) (.vr 1) (.vr 13))] []
                (.chk (.bn (.ar .sub .i64) (.vr 2) (.vr 13))
                (.call (some 68) 99 [(.bn (.ar .sub .i64) (.vr 2) (.vr 13))] []
                (.chk (.bn (.cm .leq .i64) (.vr 64) (.vr 68))
                (.set 70 (.bn (.cm .leq .i64) (.vr 64) (.vr 68))
                (.chk (.gd (.vr 70) true (.bn (.ar .sub .i64) (.vr 1) (.vr 13)))
                (.ifg (.vr 70) true
                  (.call (some 74) 99 [(.bn (.ar .sub .i64) (.vr 1) (.vr 13))] []
                  .nil)
                  (.set 74 (.cn undef)
                  .nil)
                (.chk (.gd (.vr 70) true (.bn (.ar .sub .i64) (.vr 3) (.vr 13)))
                (.ifg (.vr 70) true
                  (.call (some 78) 99 [(.bn (.ar .sub .i64) (.vr 3) (.vr 13))] []
                  .nil)
                  (.set 78 (.cn undef)
                  .nil)
                (.chk (.gd (.vr 70) true (.bn (.cm .leq .i64) (.vr 74) (.vr 78)))
                (.chk (.and (.vr 70) (.bn (.cm .leq .i64) (.vr 74) (.vr 78)))
                (.set 80 (.and (.vr 70) (.bn (.cm .leq .i64) (.vr 74) (.vr 78)))
                (.ite (.vr 80)
                  (.set 12 (.vr 1)
                  .ret)
                  .nil
                (.chk (.bn (.ar .sub .i64) (.vr 2) (.vr 13))
                (.call (some 85) 99 [(.bn (.ar .sub .i64) (.vr 2) (.vr 13))] []
                (.chk (.bn (.ar .sub .i64) (.vr 3) (.vr 13))
                (.call (some 89) 99 [(.bn (.ar .sub .i64) (.vr 3) (.vr 13))] []
                (.chk (.bn (.cm .leq .i64) (.vr 85) (.vr 89))
                (.set 90 (.bn (.cm .leq .i64) (.vr 85) (.vr 89))
                (.ite (.vr 90)
                  (.set 12 (.vr 2)
                  .ret)
                  .nil
                (.set 12 (.vr 3)
                .ret))))))))))))))))))))))
                (.chk (.bn (.cm .eql .i64) (.vr 40) (.cn (.int .i64 7)))
                (.set 93 (.bn (.cm .eql .i64) (.vr 40) (.cn (.int .i64 7)))
                (.ite (.vr 93)
                  (.chk (.bn (.mn .i64) (.vr 1) (.vr 2))
                  (.chk (.bn (.mx .i64) (.vr 1) (.vr 2))
                  (.chk (.bn (.mn .i64) (.bn (.mx .i64) (.vr 1) (.vr 2)) (.vr 13))
                  (.set 12 (.bn (.mx .i64) (.bn (.mn .i64) (.vr 1) (.vr 2)) (.bn (.mn .i64) (.bn (.mx .i64) (.vr 1) (.vr 2)) (.vr 13)))
                  .ret))))
                  (.chk (.bn (.cm .eql .i64) (.vr 40) (.cn (.int .i64 8)))
                  (.set 104 (.bn (.cm .eql .i64) (.vr 40) (.cn (.int .i64 8)))
                  (.ite (.vr 104)
                    (.chk (.bn (.mx .i64) (.vr 13) (.cn (.int .i64 0)))
                    (.chk (.un (.cv .u64) (.vr 5))
                    (.chk (.bn (.sh true .i64) (.cn (.int .i64 1)) (.un (.cv .u64) (.vr 5)))
                    (.set 12 (.bn (.mn .i64) (.bn (.mx .i64) (.vr 13) (.cn (.int .i64 0))) (.bn (.ar .sub .i64) (.bn (.sh true .i64) (.cn (.int .i64 1)) (.un (.cv .u64) (.vr 5))) (.cn (.int .i64 1))))
                    .ret))))
                    (.chk (.bn (.cm .eql .i64) (.vr 40) (.cn (.int .i64 9)))
                    (.set 113 (.bn (.cm .eql .i64) (.vr 40) (.cn (.int .i64 9)))
                    (.ite (.vr 113)
                      (.chk (.bn (.ar .add .i64) (.vr 1) (.vr 2))
                      (.chk (.bn (.ar .add .i64) (.bn (.ar .add .i64) (.vr 1) (.vr 2)) (.vr 3))
                      (.chk (.bn (.ar .add .i64) (.bn (.ar .add .i64) (.bn (.ar .add .i64) (.vr 1) (.vr 2)) (.vr 3)) (.vr 4))
                      (.set 12 (.bn (.dv false .i64) (.bn (.ar .add .i64) (.bn (.ar .add .i64) (.bn (.ar .add .i64) (.bn (.ar .add .i64) (.vr 1) (.vr 2)) (.vr 3)) (.vr 4)) (.cn (.int .i64 2))) (.cn (.int .i64 4)))
                      .ret))))
                      .nil
                    .nil)))
                  .nil)))
                .nil)))
              .nil)))
            .nil)))
          .nil)))
        .nil)))
      .nil)))
    .nil)))
  (.set 12 (.cn (.int .i64 0))
  .ret))))))))))))))))))))))
def fc86 : Fc := ⟨124, s86, [(.vr 12)]⟩
theorem c86 : compF Try.prog 86 = some fc86 := by kernel_rfl

/-- kinora/kinoraref8.parameter · parameters 1 · 0:k -/
def s87 : S :=
  (.set 2 (.cn (.bool false))
  (.chk (.bn (.cm .geq .i64) (.vr 0) (.cn (.int .i64 0)))
  (.chk (.gd (.bn (.cm .geq .i64) (.vr 0) (.cn (.int .i64 0))) true (.bn (.cm .leq .i64) (.vr 0) (.cn (.int .i64 25))))
  (.set 2 (.and (.bn (.cm .geq .i64) (.vr 0) (.cn (.int .i64 0))) (.bn (.cm .leq .i64) (.vr 0) (.cn (.int .i64 25))))
  .ret))))
def fc87 : Fc := ⟨9, s87, [(.vr 2)]⟩
theorem c87 : compF Try.prog 87 = some fc87 := by kernel_rfl

/-- kinora/kinoraref2.AllWide · parameters 1 · 0:l 3:i -/
def s88 : S :=
  (.set 2 (.cn (.bool false))
  (.set 3 (.cn (.int .i64 0))
  (.blk 0
    (.loop
      (.chk (.un .ln (.vr 0))
      (.chk (.bn (.cm .lss .i64) (.vr 3) (.un .ln (.vr 0)))
      (.set 7 (.bn (.cm .lss .i64) (.vr 3) (.un .ln (.vr 0)))
      (.ite (.vr 7)
        .nil
        (.exit 0)
      (.blk 1
        (.chk (.bn (.ia 1) (.vr 0) (.vr 3))
        (.chk (.ld (.bn (.ia 1) (.vr 0) (.vr 3)))
        (.set 13 (.ld (.bn (.ia 1) (.vr 0) (.vr 3)))
        (.call (some 14) 100 [(.vr 13)] []
        (.chk (.un .not (.vr 14))
        (.set 15 (.un .not (.vr 14))
        (.ite (.vr 15)
          (.set 2 (.cn (.bool false))
          .ret)
          .nil
        .nil)))))))
      (.chk (.bn (.ar .add .i64) (.vr 3) (.cn (.int .i64 1)))
      (.set 3 (.bn (.ar .add .i64) (.vr 3) (.cn (.int .i64 1)))
      .nil))))))))
  (.set 2 (.cn (.bool true))
  .ret))))
def fc88 : Fc := ⟨16, s88, [(.vr 2)]⟩
theorem c88 : compF Try.prog 88 = some fc88 := by kernel_rfl

/-- kinora/kinoraref8.Fold · parameters 1 · 0:x -/
def s89 : S :=
  (.set 2 (.cn (.int .u64 0))
  (.call (some 4) 100 [(.vr 0)] []
  (.chk (.un .not (.vr 4))
  (.set 5 (.un .not (.vr 4))
  (.ite (.vr 5)
    (.set 2 (.cn (.int .u64 0))
    .ret)
    .nil
  (.call (some 7) 101 [(.vr 0)] []
  (.set 2 (.vr 7)
  .ret)))))))
def fc89 : Fc := ⟨8, s89, [(.vr 2)]⟩
theorem c89 : compF Try.prog 89 = some fc89 := by kernel_rfl

/-- (*kinora/kinoraref2.Writer).Unary · parameters 2 · 0:w 1:n 5:i -/
def s90 : S :=
  (.set 4 (.cn (.int .i64 0))
  (.chk (.bn (.cm .lss .i64) (.vr 1) (.cn (.int .i64 0)))
  (.chk (.gd (.bn (.cm .lss .i64) (.vr 1) (.cn (.int .i64 0))) false (.bn (.cm .gtr .i64) (.vr 1) (.cn (.int .i64 4096))))
  (.set 11 (.or (.bn (.cm .lss .i64) (.vr 1) (.cn (.int .i64 0))) (.bn (.cm .gtr .i64) (.vr 1) (.cn (.int .i64 4096))))
  (.ite (.vr 11)
    (.set 4 (.cn (.int .i64 1))
    .ret)
    .nil
  (.set 5 (.cn (.int .i64 0))
  (.blk 0
    (.loop
      (.chk (.bn (.cm .lss .i64) (.vr 5) (.vr 1))
      (.set 14 (.bn (.cm .lss .i64) (.vr 5) (.vr 1))
      (.ite (.vr 14)
        .nil
        (.exit 0)
      (.blk 1
        (.chk (.un .nck (.vr 0))
        (.chk (.un (.fa 0) (.un .nck (.vr 0)))
        (.chk (.ld (.un (.fa 0) (.un .nck (.vr 0))))
        (.set 21 (.ld (.un (.fa 0) (.un .nck (.vr 0))))
        (.op (some 22) (.buildSlice 50 1 #[(0, (.const (.int .u8 0)))]) 50 [] []
        (.op (some 23) (.call ⟨(.builtin .append), #[(.tmp 21), (.tmp 22)], #[50, 50]⟩) 50 [(21, (.vr 21)), (22, (.vr 22))] []
        (.chk (.un .nck (.vr 0))
        (.chk (.un (.fa 0) (.un .nck (.vr 0)))
        (.st 1 (.un (.fa 0) (.un .nck (.vr 0))) (.vr 23) []
        .nil)))))))))
      (.chk (.bn (.ar .add .i64) (.vr 5) (.cn (.int .i64 1)))
      (.set 5 (.bn (.ar .add .i64) (.vr 5) (.cn (.int .i64 1)))
      .nil)))))))
  (.chk (.un .nck (.vr 0))
  (.chk (.un (.fa 0) (.un .nck (.vr 0)))
  (.chk (.ld (.un (.fa 0) (.un .nck (.vr 0))))
  (.set 30 (.ld (.un (.fa 0) (.un .nck (.vr 0))))
  (.op (some 31) (.buildSlice 50 1 #[(0, (.const (.int .u8 1)))]) 50 [] []
  (.op (some 32) (.call ⟨(.builtin .append), #[(.tmp 30), (.tmp 31)], #[50, 50]⟩) 50 [(30, (.vr 30)), (31, (.vr 31))] []
  (.chk (.un .nck (.vr 0))
  (.chk (.un (.fa 0) (.un .nck (.vr 0)))
  (.st 1 (.un (.fa 0) (.un .nck (.vr 0))) (.vr 32) []
  (.set 4 (.cn (.int .i64 0))
  .ret)))))))))))))))))
def fc90 : Fc := ⟨35, s90, [(.vr 4)]⟩
theorem c90 : compF Try.prog 90 = some fc90 := by kernel_rfl

/-- (*kinora/kinoraref2.Writer).Put · parameters 3 · 0:w 1:v 2:n 7:i -/
def s91 : S :=
  (.set 6 (.cn (.int .i64 0))
  (.chk (.bn (.cm .lss .i64) (.vr 2) (.cn (.int .i64 0)))
  (.chk (.gd (.bn (.cm .lss .i64) (.vr 2) (.cn (.int .i64 0))) false (.bn (.cm .gtr .i64) (.vr 2) (.cn (.int .i64 64))))
  (.chk (.gd (.or (.bn (.cm .lss .i64) (.vr 2) (.cn (.int .i64 0))) (.bn (.cm .gtr .i64) (.vr 2) (.cn (.int .i64 64)))) false (.bn (.cm .lss .i64) (.vr 2) (.cn (.int .i64 64))))
  (.chk (.gd (.gd (.or (.bn (.cm .lss .i64) (.vr 2) (.cn (.int .i64 0))) (.bn (.cm .gtr .i64) (.vr 2) (.cn (.int .i64 64)))) false (.bn (.cm .lss .i64) (.vr 2) (.cn (.int .i64 64)))) true (.un (.cv .u64) (.vr 2)))
  (.chk (.gd (.gd (.or (.bn (.cm .lss .i64) (.vr 2) (.cn (.int .i64 0))) (.bn (.cm .gtr .i64) (.vr 2) (.cn (.int .i64 64)))) false (.bn (.cm .lss .i64) (.vr 2) (.cn (.int .i64 64)))) true (.bn (.sh false .u64) (.vr 1) (.un (.cv .u64) (.vr 2))))
  (.set 24 (.or (.or (.bn (.cm .lss .i64) (.vr 2) (.cn (.int .i64 0))) (.bn (.cm .gtr .i64) (.vr 2) (.cn (.int .i64 64)))) (.and (.bn (.cm .lss .i64) (.vr 2) (.cn (.int .i64 64))) (.bn (.cm .neq .u64) (.bn (.sh false .u64) (.vr 1) (.un (.cv .u64) (.vr 2))) (.cn (.int .u64 0)))))
  (.ite (.vr 24)
    (.set 6 (.cn (.int .i64 1))
    .ret)
    .nil
  (.chk (.bn (.ar .sub .i64) (.vr 2) (.cn (.int .i64 1)))
  (.set 7 (.bn (.ar .sub .i64) (.vr 2) (.cn (.int .i64 1)))
  (.blk 0
    (.loop
      (.chk (.bn (.cm .geq .i64) (.vr 7) (.cn (.int .i64 0)))
      (.set 28 (.bn (.cm .geq .i64) (.vr 7) (.cn (.int .i64 0)))
      (.ite (.vr 28)
        .nil
        (.exit 0)
      (.blk 1
        (.chk (.un .nck (.vr 0))
        (.chk (.un (.fa 0) (.un .nck (.vr 0)))
        (.chk (.ld (.un (.fa 0) (.un .nck (.vr 0))))
        (.set 35 (.ld (.un (.fa 0) (.un .nck (.vr 0))))
        (.chk (.un (.cv .u64) (.vr 7))
        (.chk (.bn (.sh false .u64) (.vr 1) (.un (.cv .u64) (.vr 7)))
        (.op (some 42) (.buildSlice 50 1 #[(0, (.tmp 41))]) 50 [(41, (.un (.cv .u8) (.bn (.bt .and .u64) (.bn (.sh false .u64) (.vr 1) (.un (.cv .u64) (.vr 7))) (.cn (.int .u64 1)))))] []
        (.op (some 43) (.call ⟨(.builtin .append), #[(.tmp 35), (.tmp 42)], #[50, 50]⟩) 50 [(35, (.vr 35)), (42, (.vr 42))] []
        (.chk (.un .nck (.vr 0))
        (.chk (.un (.fa 0) (.un .nck (.vr 0)))
        (.st 1 (.un (.fa 0) (.un .nck (.vr 0))) (.vr 43) []
        .nil)))))))))))
      (.chk (.bn (.ar .sub .i64) (.vr 7) (.cn (.int .i64 1)))
      (.set 7 (.bn (.ar .sub .i64) (.vr 7) (.cn (.int .i64 1)))
      .nil)))))))
  (.set 6 (.cn (.int .i64 0))
  .ret))))))))))))
def fc91 : Fc := ⟨46, s91, [(.vr 6)]⟩
theorem c91 : compF Try.prog 91 = some fc91 := by kernel_rfl

/-- (*kinora/kinoraref2.Reader).Unary · parameters 2 · 0:r 1:most 5:i -/
def s92 : S :=
  (.set 4 (.cn (.int .i64 0))
  (.chk (.un .nck (.vr 0))
  (.chk (.un (.fa 2) (.un .nck (.vr 0)))
  (.chk (.ld (.un (.fa 2) (.un .nck (.vr 0))))
  (.chk (.bn (.cm .neq .i64) (.ld (.un (.fa 2) (.un .nck (.vr 0)))) (.cn (.int .i64 0)))
  (.set 10 (.bn (.cm .neq .i64) (.ld (.un (.fa 2) (.un .nck (.vr 0)))) (.cn (.int .i64 0)))
  (.ite (.vr 10)
    (.set 4 (.cn (.int .i64 0))
    .ret)
    .nil
  (.chk (.bn (.mx .i64) (.vr 1) (.cn (.int .i64 0)))
  (.set 1 (.bn (.mx .i64) (.vr 1) (.cn (.int .i64 0)))
  (.set 5 (.cn (.int .i64 0))
  (.blk 0
    (.loop
      (.call (some 15) 102 [(.vr 0)] []
      (.chk (.bn (.cm .lss .i64) (.vr 5) (.vr 15))
      (.set 16 (.bn (.cm .lss .i64) (.vr 5) (.vr 15))
      (.ite (.vr 16)
        .nil
        (.exit 0)
      (.blk 1
        (.chk (.un .nck (.vr 0))
        (.chk (.un (.fa 1) (.un .nck (.vr 0)))
        (.chk (.ld (.un (.fa 1) (.un .nck (.vr 0))))
        (.set 23 (.ld (.un (.fa 1) (.un .nck (.vr 0))))
        (.chk (.bn (.ar .add .i64) (.vr 23) (.vr 5))
        (.call (some 26) 103 [(.vr 0), (.bn (.ar .add .i64) (.vr 23) (.vr 5))] []
        (.chk (.bn (.cm .eql .u64) (.vr 26) (.cn (.int .u64 1)))
        (.set 27 (.bn (.cm .eql .u64) (.vr 26) (.cn (.int .u64 1)))
        (.ite (.vr 27)
          (.chk (.un .nck (.vr 0))
          (.chk (.un (.fa 1) (.un .nck (.vr 0)))
          (.chk (.ld (.un (.fa 1) (.un .nck (.vr 0))))
          (.set 32 (.ld (.un (.fa 1) (.un .nck (.vr 0))))
          (.chk (.bn (.ar .add .i64) (.vr 32) (.vr 5))
          (.chk (.un .nck (.vr 0))
          (.chk (.un (.fa 1) (.un .nck (.vr 0)))
          (.st 1 (.un (.fa 1) (.un .nck (.vr 0))) (.bn (.ar .add .i64) (.bn (.ar .add .i64) (.vr 32) (.vr 5)) (.cn (.int .i64 1))) []
          (.set 4 (.vr 5)
          .ret)))))))))
          .nil
        (.chk (.bn (.cm .geq .i64) (.vr 5) (.vr 1))
        (.set 41 (.bn (.cm .geq .i64) (.vr 5) (.vr 1))
        (.ite (.vr 41)
          (.chk (.un .nck (.vr 0))
          (.chk (.un (.fa 2) (.un .nck (.vr 0)))
          (.st 1 (.un (.fa 2) (.un .nck (.vr 0))) (.cn (.int .i64 2)) []
          (.set 4 (.cn (.int .i64 0))
          .ret))))
          .nil
        .nil))))))))))))
      (.chk (.bn (.ar .add .i64) (.vr 5) (.cn (.int .i64 1)))
      (.set 5 (.bn (.ar .add .i64) (.vr 5) (.cn (.int .i64 1)))
      .nil))))))))
  (.chk (.un .nck (.vr 0))
  (.chk (.un (.fa 2) (.un .nck (.vr 0)))
  (.st 1 (.un (.fa 2) (.un .nck (.vr 0))) (.cn (.int .i64 3)) []
  (.set 4 (.cn (.int .i64 0))
  .ret)))))))))))))))
def fc92 : Fc := ⟨48, s92, [(.vr 4)]⟩
theorem c92 : compF Try.prog 92 = some fc92 := by kernel_rfl

/-- (*kinora/kinoraref2.Reader).Get · parameters 2 · 0:r 1:n 5:v 6:i -/
def s93 : S :=
  (.set 4 (.cn (.int .u64 0))
  (.chk (.un .nck (.vr 0))
  (.chk (.un (.fa 2) (.un .nck (.vr 0)))
  (.chk (.ld (.un (.fa 2) (.un .nck (.vr 0))))
  (.chk (.bn (.cm .neq .i64) (.ld (.un (.fa 2) (.un .nck (.vr 0)))) (.cn (.int .i64 0)))
  (.set 11 (.bn (.cm .neq .i64) (.ld (.un (.fa 2) (.un .nck (.vr 0)))) (.cn (.int .i64 0)))
  (.ite (.vr 11)
    (.set 4 (.cn (.int .u64 0))
    .ret)
    .nil
  (.chk (.bn (.cm .lss .i64) (.vr 1) (.cn (.int .i64 0)))
  (.chk (.gd (.bn (.cm .lss .i64) (.vr 1) (.cn (.int .i64 0))) false (.bn (.cm .gtr .i64) (.vr 1) (.cn (.int .i64 64))))
  (.set 17 (.or (.bn (.cm .lss .i64) (.vr 1) (.cn (.int .i64 0))) (.bn (.cm .gtr .i64) (.vr 1) (.cn (.int .i64 64))))
  (.ite (.vr 17)
    (.chk (.un .nck (.vr 0))
    (.chk (.un (.fa 2) (.un .nck (.vr 0)))
    (.st 1 (.un (.fa 2) (.un .nck (.vr 0))) (.cn (.int .i64 1)) []
    (.set 4 (.cn (.int .u64 0))
    .ret))))
    .nil
  (.call (some 23) 102 [(.vr 0)] []
  (.chk (.bn (.cm .gtr .i64) (.vr 1) (.vr 23))
  (.set 24 (.bn (.cm .gtr .i64) (.vr 1) (.vr 23))
  (.ite (.vr 24)
    (.chk (.un .nck (.vr 0))
    (.chk (.un (.fa 2) (.un .nck (.vr 0)))
    (.st 1 (.un (.fa 2) (.un .nck (.vr 0))) (.cn (.int .i64 3)) []
    (.set 4 (.cn (.int .u64 0))
    .ret))))
    .nil
  (.set 5 (.cn (.int .u64 0))
  (.set 6 (.cn (.int .i64 0))
  (.blk 0
    (.loop
      (.chk (.bn (.cm .lss .i64) (.vr 6) (.vr 1))
      (.set 30 (.bn (.cm .lss .i64) (.vr 6) (.vr 1))
      (.ite (.vr 30)
        .nil
        (.exit 0)
      (.blk 1
        (.chk (.bn (.sh true .u64) (.vr 5) (.cn (.int .u64 1)))
        (.chk (.un .nck (.vr 0))
        (.chk (.un (.fa 1) (.un .nck (.vr 0)))
        (.chk (.ld (.un (.fa 1) (.un .nck (.vr 0))))
        (.set 39 (.ld (.un (.fa 1) (.un .nck (.vr 0))))
        (.chk (.bn (.ar .add .i64) (.vr 39) (.vr 6))
        (.call (some 42) 103 [(.vr 0), (.bn (.ar .add .i64) (.vr 39) (.vr 6))] []
        (.chk (.bn (.bt .or .u64) (.bn (.sh true .u64) (.vr 5) (.cn (.int .u64 1))) (.vr 42))
        (.set 5 (.bn (.bt .or .u64) (.bn (.sh true .u64) (.vr 5) (.cn (.int .u64 1))) (.vr 42))
        .nil)))))))))
      (.chk (.bn (.ar .add .i64) (.vr 6) (.cn (.int .i64 1)))
      (.set 6 (.bn (.ar .add .i64) (.vr 6) (.cn (.int .i64 1)))
      .nil)))))))
  (.chk (.un .nck (.vr 0))
  (.chk (.un (.fa 1) (.un .nck (.vr 0)))
  (.chk (.ld (.un (.fa 1) (.un .nck (.vr 0))))
  (.set 48 (.ld (.un (.fa 1) (.un .nck (.vr 0))))
  (.chk (.bn (.ar .add .i64) (.vr 48) (.vr 1))
  (.chk (.un .nck (.vr 0))
  (.chk (.un (.fa 1) (.un .nck (.vr 0)))
  (.st 1 (.un (.fa 1) (.un .nck (.vr 0))) (.bn (.ar .add .i64) (.vr 48) (.vr 1)) []
  (.set 4 (.vr 5)
  .ret)))))))))))))))))))))))))))
def fc93 : Fc := ⟨54, s93, [(.vr 4)]⟩
theorem c93 : compF Try.prog 93 = some fc93 := by kernel_rfl

/-- kinora/kinoraref8.Unfold · parameters 1 · 0:u -/
def s94 : S :=
  (.set 2 (.cn (.int .i64 0))
  (.chk (.bn (.cm .geq .u64) (.vr 0) (.cn (.int .u64 2147483648)))
  (.set 4 (.bn (.cm .geq .u64) (.vr 0) (.cn (.int .u64 2147483648)))
  (.ite (.vr 4)
    (.set 2 (.cn (.int .i64 0))
    .ret)
    .nil
  (.call (some 6) 104 [(.vr 0)] []
  (.set 2 (.vr 6)
  .ret))))))
def fc94 : Fc := ⟨7, s94, [(.vr 2)]⟩
theorem c94 : compF Try.prog 94 = some fc94 := by kernel_rfl

/-- (*kinora/kinoraref2.Reader).Err · parameters 1 · 0:r -/
def s95 : S :=
  (.set 2 (.cn (.int .i64 0))
  (.chk (.un .nck (.vr 0))
  (.chk (.un (.fa 2) (.un .nck (.vr 0)))
  (.chk (.ld (.un (.fa 2) (.un .nck (.vr 0))))
  (.set 2 (.ld (.un (.fa 2) (.un .nck (.vr 0))))
  .ret)))))
def fc95 : Fc := ⟨7, s95, [(.vr 2)]⟩
theorem c95 : compF Try.prog 95 = some fc95 := by kernel_rfl

/-- kinora/guess.distance · parameters 2 · 0:a 1:b -/
def s96 : S :=
  (.set 4 (.cn (.int .i64 0))
  (.chk (.bn (.cm .lss .i64) (.vr 0) (.vr 1))
  (.set 7 (.bn (.cm .lss .i64) (.vr 0) (.vr 1))
  (.ite (.vr 7)
    (.chk (.bn (.ar .sub .i64) (.vr 1) (.vr 0))
    (.set 4 (.bn (.ar .sub .i64) (.vr 1) (.vr 0))
    .ret))
    .nil
  (.chk (.bn (.ar .sub .i64) (.vr 0) (.vr 1))
  (.set 4 (.bn (.ar .sub .i64) (.vr 0) (.vr 1))
  .ret))))))
def fc96 : Fc := ⟨14, s96, [(.vr 4)]⟩
theorem c96 : compF Try.prog 96 = some fc96 := by kernel_rfl

/-- (*kinora/bits.Reader).look · parameters 2 · 0:r 1:i -/
def s97 : S :=
  (.set 4 (.cn (.int .u8 0))
  (.chk (.un .nck (.vr 0))
  (.chk (.un (.fa 0) (.un .nck (.vr 0)))
  (.chk (.ld (.un (.fa 0) (.un .nck (.vr 0))))
  (.chk (.bn (.dv false .i64) (.vr 1) (.cn (.int .i64 8)))
  (.chk (.bn (.ia 1) (.ld (.un (.fa 0) (.un .nck (.vr 0)))) (.bn (.dv false .i64) (.vr 1) (.cn (.int .i64 8))))
  (.chk (.ld (.bn (.ia 1) (.ld (.un (.fa 0) (.un .nck (.vr 0)))) (.bn (.dv false .i64) (.vr 1) (.cn (.int .i64 8)))))
  (.chk (.bn (.dv true .i64) (.vr 1) (.cn (.int .i64 8)))
  (.chk (.bn (.sh false .u8) (.ld (.bn (.ia 1) (.ld (.un (.fa 0) (.un .nck (.vr 0)))) (.bn (.dv false .i64) (.vr 1) (.cn (.int .i64 8))))) (.bn (.ar .sub .i64) (.cn (.int .i64 7)) (.bn (.dv true .i64) (.vr 1) (.cn (.int .i64 8)))))
  (.set 4 (.bn (.bt .and .u8) (.bn (.sh false .u8) (.ld (.bn (.ia 1) (.ld (.un (.fa 0) (.un .nck (.vr 0)))) (.bn (.dv false .i64) (.vr 1) (.cn (.int .i64 8))))) (.bn (.ar .sub .i64) (.cn (.int .i64 7)) (.bn (.dv true .i64) (.vr 1) (.cn (.int .i64 8))))) (.cn (.int .u8 1)))
  .ret))))))))))
def fc97 : Fc := ⟨18, s97, [(.vr 4)]⟩
theorem c97 : compF Try.prog 97 = some fc97 := by kernel_rfl

/-- (*kinora/bits.Reader).Left · parameters 1 · 0:r -/
def s98 : S :=
  (.set 2 (.cn (.int .i64 0))
  (.draw
  (.chk (.un .nck (.vr 0))
  (.chk (.un (.fa 0) (.un .nck (.vr 0)))
  (.chk (.ld (.un (.fa 0) (.un .nck (.vr 0))))
  (.chk (.un .ln (.ld (.un (.fa 0) (.un .nck (.vr 0)))))
  (.chk (.un .nck (.vr 0))
  (.chk (.un (.fa 1) (.un .nck (.vr 0)))
  (.chk (.ld (.un (.fa 1) (.un .nck (.vr 0))))
  (.chk (.bn (.ar .sub .i64) (.bn (.ar .mul .i64) (.cn (.int .i64 8)) (.un .ln (.ld (.un (.fa 0) (.un .nck (.vr 0)))))) (.ld (.un (.fa 1) (.un .nck (.vr 0)))))
  (.set 2 (.bn (.ar .sub .i64) (.bn (.ar .mul .i64) (.cn (.int .i64 8)) (.un .ln (.ld (.un (.fa 0) (.un .nck (.vr 0)))))) (.ld (.un (.fa 1) (.un .nck (.vr 0)))))
  .ret)))))))))))
def fc98 : Fc := ⟨14, s98, [(.vr 2)]⟩
theorem c98 : compF Try.prog 98 = some fc98 := by kernel_rfl

/-- kinora/kinoraref24.far · parameters 1 · 0:n -/
def s99 : S :=
  (.set 2 (.cn (.int .i64 0))
  (.chk (.un (.neg .i64) (.vr 0))
  (.chk (.bn (.mx .i64) (.vr 0) (.un (.neg .i64) (.vr 0)))
  (.set 2 (.bn (.mx .i64) (.vr 0) (.un (.neg .i64) (.vr 0)))
  .ret))))
def fc99 : Fc := ⟨7, s99, [(.vr 2)]⟩
theorem c99 : compF Try.prog 99 = some fc99 := by kernel_rfl

/-- kinora/kinoraref2.Wide · parameters 1 · 0:x -/
def s100 : S :=
  (.set 2 (.cn (.bool false))
  (.chk (.bn (.cm .geq .i64) (.vr 0) (.cn (.int .i64 (-1073741824))))
  (.chk (.gd (.bn (.cm .geq .i64) (.vr 0) (.cn (.int .i64 (-1073741824)))) true (.bn (.cm .lss .i64) (.vr 0) (.cn (.int .i64 1073741824))))
  (.set 2 (.and (.bn (.cm .geq .i64) (.vr 0) (.cn (.int .i64 (-1073741824)))) (.bn (.cm .lss .i64) (.vr 0) (.cn (.int .i64 1073741824))))
  .ret))))
def fc100 : Fc := ⟨9, s100, [(.vr 2)]⟩
theorem c100 : compF Try.prog 100 = some fc100 := by kernel_rfl

/-- kinora/kinoraref2.Zig · parameters 1 · 0:n 3:u -/
def s101 : S :=
  (.set 2 (.cn (.int .u64 0))
  (.chk (.un (.cv .u64) (.vr 0))
  (.set 3 (.bn (.sh true .u64) (.un (.cv .u64) (.vr 0)) (.cn (.int .u64 1)))
  (.chk (.bn (.cm .lss .i64) (.vr 0) (.cn (.int .i64 0)))
  (.set 8 (.bn (.cm .lss .i64) (.vr 0) (.cn (.int .i64 0)))
  (.ite (.vr 8)
    (.chk (.un (.cpl .u64) (.vr 3))
    (.set 3 (.un (.cpl .u64) (.vr 3))
    .nil))
    .nil
  (.set 2 (.vr 3)
  .ret)))))))
def fc101 : Fc := ⟨12, s101, [(.vr 2)]⟩
theorem c101 : compF Try.prog 101 = some fc101 := by kernel_rfl

/-- (*kinora/kinoraref2.Reader).Left · parameters 1 · 0:r -/
def s102 : S :=
  (.set 2 (.cn (.int .i64 0))
  (.draw
  (.chk (.un .nck (.vr 0))
  (.chk (.un (.fa 0) (.un .nck (.vr 0)))
  (.chk (.ld (.un (.fa 0) (.un .nck (.vr 0))))
  (.chk (.un .ln (.ld (.un (.fa 0) (.un .nck (.vr 0)))))
  (.chk (.un .nck (.vr 0))
  (.chk (.un (.fa 1) (.un .nck (.vr 0)))
  (.chk (.ld (.un (.fa 1) (.un .nck (.vr 0))))
  (.chk (.bn (.ar .sub .i64) (.bn (.ar .mul .i64) (.cn (.int .i64 8)) (.un .ln (.ld (.un (.fa 0) (.un .nck (.vr 0)))))) (.ld (.un (.fa 1) (.un .nck (.vr 0)))))
  (.set 2 (.bn (.ar .sub .i64) (.bn (.ar .mul .i64) (.cn (.int .i64 8)) (.un .ln (.ld (.un (.fa 0) (.un .nck (.vr 0)))))) (.ld (.un (.fa 1) (.un .nck (.vr 0)))))
  .ret)))))))))))
def fc102 : Fc := ⟨14, s102, [(.vr 2)]⟩
theorem c102 : compF Try.prog 102 = some fc102 := by kernel_rfl

/-- (*kinora/kinoraref2.Reader).bit · parameters 2 · 0:r 1:at -/
def s103 : S :=
  (.set 4 (.cn (.int .u64 0))
  (.chk (.un .nck (.vr 0))
  (.chk (.un (.fa 0) (.un .nck (.vr 0)))
  (.chk (.ld (.un (.fa 0) (.un .nck (.vr 0))))
  (.chk (.bn (.dv false .i64) (.vr 1) (.cn (.int .i64 8)))
  (.chk (.bn (.ia 1) (.ld (.un (.fa 0) (.un .nck (.vr 0)))) (.bn (.dv false .i64) (.vr 1) (.cn (.int .i64 8))))
  (.chk (.ld (.bn (.ia 1) (.ld (.un (.fa 0) (.un .nck (.vr 0)))) (.bn (.dv false .i64) (.vr 1) (.cn (.int .i64 8)))))
  (.chk (.bn (.dv true .i64) (.vr 1) (.cn (.int .i64 8)))
  (.chk (.bn (.sh false .u8) (.ld (.bn (.ia 1) (.ld (.un (.fa 0) (.un .nck (.vr 0)))) (.bn (.dv false .i64) (.vr 1) (.cn (.int .i64 8))))) (.un (.cv .u64) (.bn (.ar .sub .i64) (.cn (.int .i64 7)) (.bn (.dv true .i64) (.vr 1) (.cn (.int .i64 8))))))
  (.set 4 (.un (.cv .u64) (.bn (.bt .and .u8) (.bn (.sh false .u8) (.ld (.bn (.ia 1) (.ld (.un (.fa 0) (.un .nck (.vr 0)))) (.bn (.dv false .i64) (.vr 1) (.cn (.int .i64 8))))) (.un (.cv .u64) (.bn (.ar .sub .i64) (.cn (.int .i64 7)) (.bn (.dv true .i64) (.vr 1) (.cn (.int .i64 8)))))) (.cn (.int .u8 1))))
  .ret))))))))))
def fc103 : Fc := ⟨20, s103, [(.vr 4)]⟩
theorem c103 : compF Try.prog 103 = some fc103 := by kernel_rfl

/-- kinora/kinoraref2.Zag · parameters 1 · 0:u 3:n -/
def s104 : S :=
  (.set 2 (.cn (.int .i64 0))
  (.chk (.bn (.sh false .u64) (.vr 0) (.cn (.int .u64 1)))
  (.set 3 (.un (.cv .i64) (.bn (.sh false .u64) (.vr 0) (.cn (.int .u64 1))))
  (.chk (.bn (.bt .and .u64) (.vr 0) (.cn (.int .u64 1)))
  (.set 9 (.bn (.cm .eql .u64) (.bn (.bt .and .u64) (.vr 0) (.cn (.int .u64 1))) (.cn (.int .u64 1)))
  (.ite (.vr 9)
    (.chk (.un (.cpl .i64) (.vr 3))
    (.set 3 (.un (.cpl .i64) (.vr 3))
    .nil))
    .nil
  (.set 2 (.vr 3)
  .ret)))))))
def fc104 : Fc := ⟨13, s104, [(.vr 2)]⟩
theorem c104 : compF Try.prog 104 = some fc104 := by kernel_rfl

end Go.Proofs.Ytcljnpodfhgjkaa.VG
