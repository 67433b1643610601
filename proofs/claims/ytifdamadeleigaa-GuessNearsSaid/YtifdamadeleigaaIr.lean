/-
  The translations of the functions, printed by program (wip/vg/Print.lean); each is checked against the program by the kernel.
-/
import Derived.Test.YtifdamadeleigaaChecked
import Derived.Test.YtifdamadeleigaaVgH
namespace Go.Proofs.Ytifdamadeleigaa.VG
open Go
set_option maxRecDepth 100000

/-- kinora/kinoralaw23.GuessNears · parameters 8 · 0:t 1:l 2:w 3:x 4:y 5:kind 6:four 7:depth 14:four 17:k 18:a 19:b 20:d 21:p 22:i 23:j 24:n 25:q -/
def s3 : S :=
  (.op (some 14) (.box 23 (.tmp 6)) 0 [(6, (.vr 6))] []
  (.set 16 (.cn (.bool false))
  (.chk (.un .ln (.vr 1))
  (.set 28 (.bn (.cm .gtr .i64) (.un .ln (.vr 1)) (.cn (.int .i64 4200)))
  (.ite (.vr 28)
    (.set 16 (.cn (.bool true))
    .ret)
    .nil
  (.call (some 30) 8 [(.vr 0)] []
  (.set 17 (.vr 30)
  (.call (some 32) 9 [(.vr 17), (.cn (.int .i64 20))] []
  (.chk (.bn (.ar .add .i64) (.cn (.int .i64 1)) (.vr 32))
  (.call (some 35) 9 [(.vr 17), (.cn (.int .i64 20))] []
  (.chk (.bn (.ar .add .i64) (.cn (.int .i64 1)) (.vr 35))
  (.call (some 38) 10 [(.vr 17)] []
  (.set 18 (.bn (.ar .add .i64) (.cn (.int .i64 1)) (.vr 32))
  (.set 19 (.bn (.ar .add .i64) (.cn (.int .i64 1)) (.vr 35))
  (.set 20 (.vr 38)
  (.call (some 43) 11 [(.vr 17), (.vr 18), (.vr 19), (.vr 20)] []
  (.set 21 (.vr 43)
  (.chk (.bn (.ar .sub .i64) (.vr 18) (.cn (.int .i64 1)))
  (.call (some 47) 12 [(.vr 3), (.cn (.int .i64 0)), (.bn (.ar .sub .i64) (.vr 18) (.cn (.int .i64 1)))] []
  (.chk (.bn (.ar .sub .i64) (.vr 19) (.cn (.int .i64 1)))
  (.call (some 51) 12 [(.vr 4), (.cn (.int .i64 0)), (.bn (.ar .sub .i64) (.vr 19) (.cn (.int .i64 1)))] []
  (.set 22 (.vr 47)
  (.set 23 (.vr 51)
  (.sq
    (.draw
    (.chk (.bn (.aa 4 1) (.vr 14) (.cn (.int .i64 0)))
    (.chk (.ld (.bn (.aa 4 1) (.vr 14) (.cn (.int .i64 0))))
    (.set 53 (.ld (.bn (.aa 4 1) (.vr 14) (.cn (.int .i64 0))))
    (.chk (.bn (.aa 4 1) (.vr 14) (.cn (.int .i64 1)))
    (.chk (.ld (.bn (.aa 4 1) (.vr 14) (.cn (.int .i64 1))))
    (.set 57 (.ld (.bn (.aa 4 1) (.vr 14) (.cn (.int .i64 1))))
    (.chk (.bn (.aa 4 1) (.vr 14) (.cn (.int .i64 2)))
    (.chk (.ld (.bn (.aa 4 1) (.vr 14) (.cn (.int .i64 2))))
    (.set 61 (.ld (.bn (.aa 4 1) (.vr 14) (.cn (.int .i64 2))))
    (.chk (.bn (.aa 4 1) (.vr 14) (.cn (.int .i64 3)))
    (.chk (.ld (.bn (.aa 4 1) (.vr 14) (.cn (.int .i64 3))))
    (.set 65 (.ld (.bn (.aa 4 1) (.vr 14) (.cn (.int .i64 3))))
    (.alt
      (.call (some 55) 13 [(.vr 53), (.vr 20)] [⟨13, (.bn (.aa 4 1) (.vr 14) (.cn (.int .i64 3))), 1, none⟩, ⟨9, (.bn (.aa 4 1) (.vr 14) (.cn (.int .i64 2))), 1, none⟩, ⟨5, (.bn (.aa 4 1) (.vr 14) (.cn (.int .i64 1))), 1, none⟩]
      (.alt
        (.call (some 59) 13 [(.vr 57), (.vr 20)] [⟨13, (.bn (.aa 4 1) (.vr 14) (.cn (.int .i64 3))), 1, none⟩, ⟨9, (.bn (.aa 4 1) (.vr 14) (.cn (.int .i64 2))), 1, none⟩]
        (.alt
          (.call (some 63) 13 [(.vr 61), (.vr 20)] [⟨13, (.bn (.aa 4 1) (.vr 14) (.cn (.int .i64 3))), 1, none⟩]
          (.alt
            (.call (some 67) 13 [(.vr 65), (.vr 20)] []
            (.chk (.bd 3 1 (.vr 67) (.bd 2 1 (.vr 63) (.bd 1 1 (.vr 59) (.bd 0 1 (.vr 55) (.cn (.agg #[(.int .i64 0), (.int .i64 0), (.int .i64 0), (.int .i64 0)]))))))
            (.op (some 24) (.alloc 23) 0 [] []
            (.st 4 (.vr 24) (.bd 3 1 (.vr 67) (.bd 2 1 (.vr 63) (.bd 1 1 (.vr 59) (.bd 0 1 (.vr 55) (.cn (.agg #[(.int .i64 0), (.int .i64 0), (.int .i64 0), (.int .i64 0)])))))) []
            .nil))))
            (.op (some 24) (.alloc 23) 0 [] [⟨13, (.bn (.aa 4 1) (.vr 14) (.cn (.int .i64 3))), 1, none⟩]
            (.call (some 67) 13 [(.vr 65), (.vr 20)] []
            (.chk (.bd 3 1 (.vr 67) (.bd 2 1 (.vr 63) (.bd 1 1 (.vr 59) (.bd 0 1 (.vr 55) (.cn (.agg #[(.int .i64 0), (.int .i64 0), (.int .i64 0), (.int .i64 0)]))))))
            (.st 4 (.vr 24) (.bd 3 1 (.vr 67) (.bd 2 1 (.vr 63) (.bd 1 1 (.vr 59) (.bd 0 1 (.vr 55) (.cn (.agg #[(.int .i64 0), (.int .i64 0), (.int .i64 0), (.int .i64 0)])))))) []
            .nil))))))
          (.op (some 24) (.alloc 23) 0 [] [⟨13, (.bn (.aa 4 1) (.vr 14) (.cn (.int .i64 3))), 1, none⟩, ⟨9, (.bn (.aa 4 1) (.vr 14) (.cn (.int .i64 2))), 1, none⟩]
          (.call (some 63) 13 [(.vr 61), (.vr 20)] [⟨13, (.bn (.aa 4 1) (.vr 14) (.cn (.int .i64 3))), 1, none⟩]
          (.call (some 67) 13 [(.vr 65), (.vr 20)] []
          (.chk (.bd 3 1 (.vr 67) (.bd 2 1 (.vr 63) (.bd 1 1 (.vr 59) (.bd 0 1 (.vr 55) (.cn (.agg #[(.int .i64 0), (.int .i64 0), (.int .i64 0), (.int .i64 0)]))))))
          (.st 4 (.vr 24) (.bd 3 1 (.vr 67) (.bd 2 1 (.vr 63) (.bd 1 1 (.vr 59) (.bd 0 1 (.vr 55) (.cn (.agg #[(.int .i64 0), (.int .i64 0), (.int .i64 0), (.int .i64 0)])))))) []
          .nil)))))))
        (.op (some 24) (.alloc 23) 0 [] [⟨13, (.bn (.aa 4 1) (.vr 14) (.cn (.int .i64 3))), 1, none⟩, ⟨9, (.bn (.aa 4 1) (.vr 14) (.cn (.int .i64 2))), 1, none⟩, ⟨5, (.bn (.aa 4 1) (.vr 14) (.cn (.int .i64 1))), 1, none⟩]
        (.call (some 59) 13 [(.vr 57), (.vr 20)] [⟨13, (.bn (.aa 4 1) (.vr 14) (.cn (.int .i64 3))), 1, none⟩, ⟨9, (.bn (.aa 4 1) (.vr 14) (.cn (.int .i64 2))), 1, none⟩]
        (.call (some 63) 13 [(.vr 61), (.vr 20)] [⟨13, (.bn (.aa 4 1) (.vr 14) (.cn (.int .i64 3))), 1, none⟩]
        (.call (some 67) 13 [(.vr 65), (.vr 20)] []
        (.chk (.bd 3 1 (.vr 67) (.bd 2 1 (.vr 63) (.bd 1 1 (.vr 59) (.bd 0 1 (.vr 55) (.cn (.agg #[(.int .i64 0), (.int .i64 0), (.int .i64 0), (.int .i64 0)]))))))
        (.st 4 (.vr 24) (.bd 3 1 (.vr 67) (.bd 2 1 (.vr 63) (.bd 1 1 (.vr 59) (.bd 0 1 (.vr 55) (.cn (.agg #[(.int .i64 0), (.int .i64 0), (.int .i64 0), (.int .i64 0)])))))) []
        .nil))))))))
      (.op (some 24) (.alloc 23) 0 [] [⟨13, (.bn (.aa 4 1) (.vr 14) (.cn (.int .i64 3))), 1, none⟩, ⟨9, (.bn (.aa 4 1) (.vr 14) (.cn (.int .i64 2))), 1, none⟩, ⟨5, (.bn (.aa 4 1) (.vr 14) (.cn (.int .i64 1))), 1, none⟩, ⟨1, (.bn (.aa 4 1) (.vr 14) (.cn (.int .i64 0))), 1, none⟩]
      (.call (some 55) 13 [(.vr 53), (.vr 20)] [⟨13, (.bn (.aa 4 1) (.vr 14) (.cn (.int .i64 3))), 1, none⟩, ⟨9, (.bn (.aa 4 1) (.vr 14) (.cn (.int .i64 2))), 1, none⟩, ⟨5, (.bn (.aa 4 1) (.vr 14) (.cn (.int .i64 1))), 1, none⟩]
      (.call (some 59) 13 [(.vr 57), (.vr 20)] [⟨13, (.bn (.aa 4 1) (.vr 14) (.cn (.int .i64 3))), 1, none⟩, ⟨9, (.bn (.aa 4 1) (.vr 14) (.cn (.int .i64 2))), 1, none⟩]
      (.call (some 63) 13 [(.vr 61), (.vr 20)] [⟨13, (.bn (.aa 4 1) (.vr 14) (.cn (.int .i64 3))), 1, none⟩]
      (.call (some 67) 13 [(.vr 65), (.vr 20)] []
      (.chk (.bd 3 1 (.vr 67) (.bd 2 1 (.vr 63) (.bd 1 1 (.vr 59) (.bd 0 1 (.vr 55) (.cn (.agg #[(.int .i64 0), (.int .i64 0), (.int .i64 0), (.int .i64 0)]))))))
      (.st 4 (.vr 24) (.bd 3 1 (.vr 67) (.bd 2 1 (.vr 63) (.bd 1 1 (.vr 59) (.bd 0 1 (.vr 55) (.cn (.agg #[(.int .i64 0), (.int .i64 0), (.int .i64 0), (.int .i64 0)])))))) []
      .nil)))))))))))))))))))))
  (.set 25 (.cn (.int .i64 (-1)))
  (.blk 0
    (.loop
      (.chk (.bn (.cm .leq .i64) (.vr 25) (.cn (.int .i64 10)))
      (.set 70 (.bn (.cm .leq .i64) (.vr 25) (.cn (.int .i64 10)))
      (.ite (.vr 70)
        .nil
        (.exit 0)
      (.blk 1
        (.draw
        (.chk (.bn (.aa 4 1) (.vr 24) (.cn (.int .i64 0)))
        (.chk (.ld (.bn (.aa 4 1) (.vr 24) (.cn (.int .i64 0))))
        (.set 75 (.ld (.bn (.aa 4 1) (.vr 24) (.cn (.int .i64 0))))
        (.chk (.bn (.aa 4 1) (.vr 24) (.cn (.int .i64 1)))
        (.chk (.ld (.bn (.aa 4 1) (.vr 24) (.cn (.int .i64 1))))
        (.set 77 (.ld (.bn (.aa 4 1) (.vr 24) (.cn (.int .i64 1))))
        (.chk (.bn (.aa 4 1) (.vr 24) (.cn (.int .i64 2)))
        (.chk (.ld (.bn (.aa 4 1) (.vr 24) (.cn (.int .i64 2))))
        (.set 79 (.ld (.bn (.aa 4 1) (.vr 24) (.cn (.int .i64 2))))
        (.chk (.bn (.aa 4 1) (.vr 24) (.cn (.int .i64 3)))
        (.chk (.ld (.bn (.aa 4 1) (.vr 24) (.cn (.int .i64 3))))
        (.set 81 (.ld (.bn (.aa 4 1) (.vr 24) (.cn (.int .i64 3))))
        (.chk (.bn (.aa 4 1) (.vr 24) (.cn (.int .i64 0)))
        (.chk (.ld (.bn (.aa 4 1) (.vr 24) (.cn (.int .i64 0))))
        (.set 86 (.ld (.bn (.aa 4 1) (.vr 24) (.cn (.int .i64 0))))
        (.chk (.bn (.aa 4 1) (.vr 24) (.cn (.int .i64 1)))
        (.chk (.ld (.bn (.aa 4 1) (.vr 24) (.cn (.int .i64 1))))
        (.set 88 (.ld (.bn (.aa 4 1) (.vr 24) (.cn (.int .i64 1))))
        (.chk (.bn (.aa 4 1) (.vr 24) (.cn (.int .i64 2)))
        (.chk (.ld (.bn (.aa 4 1) (.vr 24) (.cn (.int .i64 2))))
        (.set 90 (.ld (.bn (.aa 4 1) (.vr 24) (.cn (.int .i64 2))))
        (.chk (.bn (.aa 4 1) (.vr 24) (.cn (.int .i64 3)))
        (.chk (.ld (.bn (.aa 4 1) (.vr 24) (.cn (.int .i64 3))))
        (.set 92 (.ld (.bn (.aa 4 1) (.vr 24) (.cn (.int .i64 3))))
        (.call (some 83) 14 [(.vr 25), (.vr 75), (.vr 77), (.vr 79), (.vr 81), (.vr 20)] [⟨19, (.bn (.aa 4 1) (.vr 24) (.cn (.int .i64 3))), 1, none⟩, ⟨17, (.bn (.aa 4 1) (.vr 24) (.cn (.int .i64 2))), 1, none⟩, ⟨15, (.bn (.aa 4 1) (.vr 24) (.cn (.int .i64 1))), 1, none⟩, ⟨13, (.bn (.aa 4 1) (.vr 24) (.cn (.int .i64 0))), 1, none⟩]
        (.call (some 94) 15 [(.vr 25), (.vr 86), (.vr 88), (.vr 90), (.vr 92), (.vr 20)] []
        (.chk (.bn (.cm .neq .i64) (.vr 83) (.vr 94))
        (.set 95 (.bn (.cm .neq .i64) (.vr 83) (.vr 94))
        (.ite (.vr 95)
          (.set 16 (.cn (.bool false))
          .ret)
          .nil
        .nil))))))))))))))))))))))))))))))
      (.chk (.bn (.ar .add .i64) (.vr 25) (.cn (.int .i64 1)))
      (.set 25 (.bn (.ar .add .i64) (.vr 25) (.cn (.int .i64 1)))
      .nil)))))))
  (.draw
  (.call (some 100) 16 [(.vr 21), (.vr 18), (.vr 22), (.vr 23)] []
  (.set 101 (.vr 100)
  (.chk (.gd (.vr 101) true (.bn (.ar .mul .i64) (.vr 23) (.vr 18)))
  (.chk (.gd (.vr 101) true (.bn (.ar .add .i64) (.bn (.ar .mul .i64) (.vr 23) (.vr 18)) (.vr 22)))
  (.chk (.gd (.vr 101) true (.sl 1 true (.vr 21) (.cn (.int .i64 0)) (.bn (.ar .add .i64) (.bn (.ar .mul .i64) (.vr 23) (.vr 18)) (.vr 22))))
  (.ifg (.vr 101) true
    (.call (some 112) 16 [(.sl 1 true (.vr 21) (.cn (.int .i64 0)) (.bn (.ar .add .i64) (.bn (.ar .mul .i64) (.vr 23) (.vr 18)) (.vr 22))), (.vr 18), (.vr 22), (.vr 23)] []
    .nil)
    (.set 112 (.cn undef)
    .nil)
  (.chk (.pk (.vr 101) (.vr 112) (.cn (.bool false)))
  (.set 114 (.pk (.vr 101) (.vr 112) (.cn (.bool false)))
  (.ifg (.vr 114) true
    (.call (some 119) 16 [(.vr 1), (.vr 2), (.vr 3), (.vr 4)] []
    .nil)
    (.set 119 (.cn undef)
    .nil)
  (.chk (.pk (.vr 114) (.vr 119) (.cn (.bool false)))
  (.set 121 (.pk (.vr 114) (.vr 119) (.cn (.bool false)))
  (.chk (.gd (.vr 121) true (.bn (.bt .and .i64) (.vr 2) (.cn (.int .i64 63))))
  (.chk (.gd (.vr 121) true (.bn (.bt .and .i64) (.vr 3) (.cn (.int .i64 63))))
  (.chk (.gd (.vr 121) true (.bn (.bt .and .i64) (.vr 4) (.cn (.int .i64 63))))
  (.ifg (.vr 121) true
    (.call (some 130) 16 [(.vr 1), (.bn (.ar .add .i64) (.cn (.int .i64 1)) (.bn (.bt .and .i64) (.vr 2) (.cn (.int .i64 63)))), (.bn (.bt .and .i64) (.vr 3) (.cn (.int .i64 63))), (.bn (.bt .and .i64) (.vr 4) (.cn (.int .i64 63)))] []
    .nil)
    (.set 130 (.cn undef)
    .nil)
  (.chk (.pk (.vr 121) (.vr 130) (.cn (.bool false)))
  (.set 132 (.pk (.vr 121) (.vr 130) (.cn (.bool false)))
  (.chk (.gd (.vr 132) true (.bn (.aa 4 1) (.vr 14) (.cn (.int .i64 0))))
  (.chk (.gd (.vr 132) true (.ld (.bn (.aa 4 1) (.vr 14) (.cn (.int .i64 0)))))
  (.set 135 (.gd (.vr 132) true (.ld (.bn (.aa 4 1) (.vr 14) (.cn (.int .i64 0)))))
  (.chk (.gd (.vr 132) true (.bn (.aa 4 1) (.vr 14) (.cn (.int .i64 1))))
  (.chk (.gd (.vr 132) true (.ld (.bn (.aa 4 1) (.vr 14) (.cn (.int .i64 1)))))
  (.set 137 (.gd (.vr 132) true (.ld (.bn (.aa 4 1) (.vr 14) (.cn (.int .i64 1)))))
  (.chk (.gd (.vr 132) true (.bn (.aa 4 1) (.vr 14) (.cn (.int .i64 2))))
  (.chk (.gd (.vr 132) true (.ld (.bn (.aa 4 1) (.vr 14) (.cn (.int .i64 2)))))
  (.set 139 (.gd (.vr 132) true (.ld (.bn (.aa 4 1) (.vr 14) (.cn (.int .i64 2)))))
  (.chk (.gd (.vr 132) true (.bn (.aa 4 1) (.vr 14) (.cn (.int .i64 3))))
  (.chk (.gd (.vr 132) true (.ld (.bn (.aa 4 1) (.vr 14) (.cn (.int .i64 3)))))
  (.set 141 (.gd (.vr 132) true (.ld (.bn (.aa 4 1) (.vr 14) (.cn (.int .i64 3)))))
  (.chk (.gd (.vr 132) true (.bn (.aa 4 1) (.vr 14) (.cn (.int .i64 0))))
  (.chk (.gd (.vr 132) true (.ld (.bn (.aa 4 1) (.vr 14) (.cn (.int .i64 0)))))
  (.set 146 (.gd (.vr 132) true (.ld (.bn (.aa 4 1) (.vr 14) (.cn (.int .i64 0)))))
  (.chk (.gd (.vr 132) true (.bn (.aa 4 1) (.vr 14) (.cn (.int .i64 1))))
  (.chk (.gd (.vr 132) true (.ld (.bn (.aa 4 1) (.vr 14) (.cn (.int .i64 1)))))
  (.set 148 (.gd (.vr 132) true (.ld (.bn (.aa 4 1) (.vr 14) (.cn (.int .i64 1)))))
  (.chk (.gd (.vr 132) true (.bn (.aa 4 1) (.vr 14) (.cn (.int .i64 2))))
  (.chk (.gd (.vr 132) true (.ld (.bn (.aa 4 1) (.vr 14) (.cn (.int .i64 2)))))
  (.set 150 (.gd (.vr 132) true (.ld (.bn (.aa 4 1) (.vr 14) (.cn (.int .i64 2)))))
  (.chk (.gd (.vr 132) true (.bn (.aa 4 1) (.vr 14) (.cn (.int .i64 3))))
  (.chk (.gd (.vr 132) true (.ld (.bn (.aa 4 1) (.vr 14) (.cn (.int .i64 3)))))
  (.set 152 (.gd (.vr 132) true (.ld (.bn (.aa 4 1) (.vr 14) (.cn (.int .i64 3)))))
  (.ifg (.vr 132) true
    (.call (some 143) 14 [(.vr 5), (.vr 135), (.vr 137), (.vr 139), (.vr 141), (.vr 7)] [⟨56, (.bn (.aa 4 1) (.vr 14) (.cn (.int .i64 3))), 1, (some ((.vr 132), true))⟩, ⟨54, (.bn (.aa 4 1) (.vr 14) (.cn (.int .i64 2))), 1, (some ((.vr 132), true))⟩, ⟨52, (.bn (.aa 4 1) (.vr 14) (.cn (.int .i64 1))), 1, (some ((.vr 132), true))⟩, ⟨50, (.bn (.aa 4 1) (.vr 14) (.cn (.int .i64 0))), 1, (some ((.vr 132), true))⟩]
    .nil)
    (.set 143 (.cn undef)
    .nil)
  (.ifg (.vr 132) true
    (.call (some 154) 15 [(.vr 5), (.vr 146), (.vr 148), (.vr 150), (.vr 152), (.vr 7)] []
    .nil)
    (.set 154 (.cn undef)
    .nil)
  (.chk (.gd (.vr 132) true (.bn (.cm .eql .i64) (.vr 143) (.vr 154)))
  (.chk (.and (.vr 132) (.bn (.cm .eql .i64) (.vr 143) (.vr 154)))
  (.set 157 (.and (.vr 132) (.bn (.cm .eql .i64) (.vr 143) (.vr 154)))
  (.ifg (.vr 157) true
    (.call (some 158) 17 [] []
    .nil)
    (.set 158 (.cn undef)
    .nil)
  (.chk (.pk (.vr 157) (.vr 158) (.cn (.bool false)))
  (.set 16 (.pk (.vr 157) (.vr 158) (.cn (.bool false)))
  .ret))))))))))))))))))))))))))))))))))))))))))))))))))))))))))))))))))))))))))))
def fc3 : Fc := ⟨160, s3, [(.vr 16)]⟩
theorem c3 : compF Try.prog 3 = some fc3 := by kernel_rfl

/-- kinora/kinoralaw23.GuessWithin · parameters 6 · 0:kind 1:w 2:n 3:a 4:b 5:depth 13:d 14:k 15:x 16:v -/
def s4 : S :=
  (.set 12 (.cn (.bool false))
  (.call (some 18) 12 [(.vr 5), (.cn (.int .i64 1)), (.cn (.int .i64 16))] []
  (.call (some 20) 12 [(.vr 0), (.cn (.int .i64 1)), (.cn (.int .i64 9))] []
  (.set 13 (.vr 18)
  (.set 14 (.vr 20)
  (.call (some 24) 13 [(.vr 1), (.vr 13)] []
  (.call (some 27) 13 [(.vr 2), (.vr 13)] []
  (.call (some 30) 13 [(.vr 3), (.vr 13)] []
  (.call (some 33) 13 [(.vr 4), (.vr 13)] []
  (.call (some 35) 14 [(.vr 14), (.vr 24), (.vr 27), (.vr 30), (.vr 33), (.vr 13)] []
  (.set 15 (.vr 35)
  (.call (some 38) 13 [(.vr 1), (.vr 13)] []
  (.set 16 (.vr 38)
  (.chk (.bn (.cm .geq .i64) (.vr 15) (.cn (.int .i64 0)))
  (.set 41 (.bn (.cm .geq .i64) (.vr 15) (.cn (.int .i64 0)))
  (.chk (.gd (.vr 41) true (.un (.cv .u64) (.vr 13)))
  (.chk (.gd (.vr 41) true (.bn (.sh true .i64) (.cn (.int .i64 1)) (.un (.cv .u64) (.vr 13))))
  (.chk (.gd (.vr 41) true (.bn (.cm .lss .i64) (.vr 15) (.bn (.sh true .i64) (.cn (.int .i64 1)) (.un (.cv .u64) (.vr 13)))))
  (.chk (.and (.vr 41) (.bn (.cm .lss .i64) (.vr 15) (.bn (.sh true .i64) (.cn (.int .i64 1)) (.un (.cv .u64) (.vr 13)))))
  (.set 48 (.and (.vr 41) (.bn (.cm .lss .i64) (.vr 15) (.bn (.sh true .i64) (.cn (.int .i64 1)) (.un (.cv .u64) (.vr 13)))))
  (.ifg (.vr 48) true
    (.call (some 55) 14 [(.vr 14), (.vr 16), (.vr 16), (.vr 16), (.vr 16), (.vr 13)] []
    .nil)
    (.set 55 (.cn undef)
    .nil)
  (.chk (.gd (.vr 48) true (.bn (.cm .eql .i64) (.vr 55) (.vr 16)))
  (.chk (.and (.vr 48) (.bn (.cm .eql .i64) (.vr 55) (.vr 16)))
  (.set 59 (.and (.vr 48) (.bn (.cm .eql .i64) (.vr 55) (.vr 16)))
  (.ifg (.vr 59) true
    (.call (some 65) 14 [(.cn (.int .i64 0)), (.vr 16), (.vr 16), (.vr 16), (.vr 16), (.vr 13)] []
    .nil)
    (.set 65 (.cn undef)
    .nil)
  (.chk (.gd (.vr 59) true (.bn (.cm .eql .i64) (.vr 65) (.cn (.int .i64 0))))
  (.chk (.and (.vr 59) (.bn (.cm .eql .i64) (.vr 65) (.cn (.int .i64 0))))
  (.set 68 (.and (.vr 59) (.bn (.cm .eql .i64) (.vr 65) (.cn (.int .i64 0))))
  (.ifg (.vr 68) true
    (.call (some 69) 17 [] []
    .nil)
    (.set 69 (.cn undef)
    .nil)
  (.chk (.pk (.vr 68) (.vr 69) (.cn (.bool false)))
  (.set 12 (.pk (.vr 68) (.vr 69) (.cn (.bool false)))
  .ret)))))))))))))))))))))))))))))))
def fc4 : Fc := ⟨71, s4, [(.vr 12)]⟩
theorem c4 : compF Try.prog 4 = some fc4 := by kernel_rfl

/-- kinora/kinoralaw23.GuessBack · parameters 1 · 0:t 3:x 4:a 5:b 6:d 7:p 8:k 9:l 10:e 11:q 12:f 13:m 14:g 15:r 16:h -/
def s5 : S :=
  (.set 2 (.cn (.bool false))
  (.call (some 18) 8 [(.vr 0)] []
  (.set 3 (.vr 18)
  (.call (some 20) 9 [(.vr 3), (.cn (.int .i64 24))] []
  (.chk (.bn (.ar .add .i64) (.cn (.int .i64 1)) (.vr 20))
  (.call (some 23) 9 [(.vr 3), (.cn (.int .i64 24))] []
  (.chk (.bn (.ar .add .i64) (.cn (.int .i64 1)) (.vr 23))
  (.call (some 26) 10 [(.vr 3)] []
  (.set 4 (.bn (.ar .add .i64) (.cn (.int .i64 1)) (.vr 20))
  (.set 5 (.bn (.ar .add .i64) (.cn (.int .i64 1)) (.vr 23))
  (.set 6 (.vr 26)
  (.call (some 31) 11 [(.vr 3), (.vr 4), (.vr 5), (.vr 6)] []
  (.set 7 (.vr 31)
  (.call (some 34) 18 [(.vr 3), (.vr 5)] []
  (.set 8 (.vr 34)
  (.call (some 41) 19 [(.vr 7), (.vr 4), (.vr 5), (.vr 6), (.vr 8)] []
  (.chk (.un (.ex 0) (.vr 41))
  (.chk (.un (.ex 1) (.vr 41))
  (.set 9 (.un (.ex 0) (.vr 41))
  (.set 10 (.un (.ex 1) (.vr 41))
  (.call (some 50) 20 [(.vr 9), (.vr 4), (.vr 5), (.vr 6), (.vr 8)] []
  (.chk (.un (.ex 0) (.vr 50))
  (.chk (.un (.ex 1) (.vr 50))
  (.set 11 (.un (.ex 0) (.vr 50))
  (.set 12 (.un (.ex 1) (.vr 50))
  (.call (some 59) 20 [(.vr 7), (.vr 4), (.vr 5), (.vr 6), (.vr 8)] []
  (.chk (.un (.ex 0) (.vr 59))
  (.chk (.un (.ex 1) (.vr 59))
  (.set 13 (.un (.ex 0) (.vr 59))
  (.set 14 (.un (.ex 1) (.vr 59))
  (.call (some 68) 19 [(.vr 13), (.vr 4), (.vr 5), (.vr 6), (.vr 8)] []
  (.chk (.un (.ex 0) (.vr 68))
  (.chk (.un (.ex 1) (.vr 68))
  (.set 15 (.un (.ex 0) (.vr 68))
  (.set 16 (.un (.ex 1) (.vr 68))
  (.chk (.bn (.cm .eql .i64) (.vr 10) (.cn (.int .i64 0)))
  (.set 73 (.bn (.cm .eql .i64) (.vr 10) (.cn (.int .i64 0)))
  (.chk (.gd (.vr 73) true (.bn (.cm .eql .i64) (.vr 12) (.cn (.int .i64 0))))
  (.chk (.and (.vr 73) (.bn (.cm .eql .i64) (.vr 12) (.cn (.int .i64 0))))
  (.set 77 (.and (.vr 73) (.bn (.cm .eql .i64) (.vr 12) (.cn (.int .i64 0))))
  (.chk (.gd (.vr 77) true (.bn (.cm .eql .i64) (.vr 14) (.cn (.int .i64 0))))
  (.chk (.and (.vr 77) (.bn (.cm .eql .i64) (.vr 14) (.cn (.int .i64 0))))
  (.set 81 (.and (.vr 77) (.bn (.cm .eql .i64) (.vr 14) (.cn (.int .i64 0))))
  (.chk (.gd (.vr 81) true (.bn (.cm .eql .i64) (.vr 16) (.cn (.int .i64 0))))
  (.chk (.and (.vr 81) (.bn (.cm .eql .i64) (.vr 16) (.cn (.int .i64 0))))
  (.set 85 (.and (.vr 81) (.bn (.cm .eql .i64) (.vr 16) (.cn (.int .i64 0))))
  (.ifg (.vr 85) true
    (.call (some 88) 21 [(.vr 11), (.vr 7)] []
    .nil)
    (.set 88 (.cn undef)
    .nil)
  (.chk (.pk (.vr 85) (.vr 88) (.cn (.bool false)))
  (.set 90 (.pk (.vr 85) (.vr 88) (.cn (.bool false)))
  (.ifg (.vr 90) true
    (.call (some 93) 21 [(.vr 15), (.vr 7)] []
    .nil)
    (.set 93 (.cn undef)
    .nil)
  (.chk (.pk (.vr 90) (.vr 93) (.cn (.bool false)))
  (.set 95 (.pk (.vr 90) (.vr 93) (.cn (.bool false)))
  (.ifg (.vr 95) true
    (.call (some 96) 17 [] []
    .nil)
    (.set 96 (.cn undef)
    .nil)
  (.chk (.pk (.vr 95) (.vr 96) (.cn (.bool false)))
  (.set 2 (.pk (.vr 95) (.vr 96) (.cn (.bool false)))
  .ret)))))))))))))))))))))))))))))))))))))))))))))))))))))))
def fc5 : Fc := ⟨98, s5, [(.vr 2)]⟩
theorem c5 : compF Try.prog 5 = some fc5 := by kernel_rfl

/-- kinora/kinoralaw23.GuessLeast · parameters 2 · 0:t 1:kind 5:x 6:a 7:b 8:d 9:p 10:k 11:o 12:i 13:l 14:e 15:m 16:f 17:y -/
def s6 : S :=
  (.set 4 (.cn (.bool false))
  (.call (some 19) 8 [(.vr 0)] []
  (.set 5 (.vr 19)
  (.call (some 21) 9 [(.vr 5), (.cn (.int .i64 20))] []
  (.chk (.bn (.ar .add .i64) (.cn (.int .i64 1)) (.vr 21))
  (.call (some 24) 9 [(.vr 5), (.cn (.int .i64 20))] []
  (.chk (.bn (.ar .add .i64) (.cn (.int .i64 1)) (.vr 24))
  (.call (some 27) 10 [(.vr 5)] []
  (.set 6 (.bn (.ar .add .i64) (.cn (.int .i64 1)) (.vr 21))
  (.set 7 (.bn (.ar .add .i64) (.cn (.int .i64 1)) (.vr 24))
  (.set 8 (.vr 27)
  (.call (some 32) 11 [(.vr 5), (.vr 6), (.vr 7), (.vr 8)] []
  (.set 9 (.vr 32)
  (.call (some 37) 22 [(.vr 9), (.vr 6), (.vr 7), (.vr 8)] []
  (.call (some 40) 18 [(.vr 5), (.vr 7)] []
  (.set 10 (.vr 37)
  (.set 11 (.vr 40)
  (.set 12 (.cn (.int .i64 0))
  (.blk 0
    (.loop
      (.chk (.un .ln (.vr 11))
      (.chk (.bn (.cm .lss .i64) (.vr 12) (.un .ln (.vr 11)))
      (.set 44 (.bn (.cm .lss .i64) (.vr 12) (.un .ln (.vr 11)))
      (.ite (.vr 44)
        .nil
        (.exit 0)
      (.blk 1
        (.call (some 48) 9 [(.vr 5), (.cn (.int .i64 2))] []
        (.chk (.bn (.cm .eql .i64) (.vr 48) (.cn (.int .i64 0)))
        (.set 49 (.bn (.cm .eql .i64) (.vr 48) (.cn (.int .i64 0)))
        (.ite (.vr 49)
          (.call (some 53) 12 [(.vr 1), (.cn (.int .i64 0)), (.cn (.int .i64 9))] []
          (.chk (.bn (.ia 1) (.vr 11) (.vr 12))
          (.st 1 (.bn (.ia 1) (.vr 11) (.vr 12)) (.vr 53) []
          .nil)))
          .nil
        .nil))))
      (.chk (.bn (.ar .add .i64) (.vr 12) (.cn (.int .i64 1)))
      (.set 12 (.bn (.ar .add .i64) (.vr 12) (.cn (.int .i64 1)))
      .nil))))))))
  (.call (some 61) 19 [(.vr 9), (.vr 6), (.vr 7), (.vr 8), (.vr 10)] []
  (.chk (.un (.ex 0) (.vr 61))
  (.chk (.un (.ex 1) (.vr 61))
  (.set 13 (.un (.ex 0) (.vr 61))
  (.set 14 (.un (.ex 1) (.vr 61))
  (.call (some 70) 19 [(.vr 9), (.vr 6), (.vr 7), (.vr 8), (.vr 11)] []
  (.chk (.un (.ex 0) (.vr 70))
  (.chk (.un (.ex 1) (.vr 70))
  (.set 15 (.un (.ex 0) (.vr 70))
  (.set 16 (.un (.ex 1) (.vr 70))
  (.chk (.bn (.cm .neq .i64) (.vr 14) (.cn (.int .i64 0)))
  (.chk (.gd (.bn (.cm .neq .i64) (.vr 14) (.cn (.int .i64 0))) false (.bn (.cm .neq .i64) (.vr 16) (.cn (.int .i64 0))))
  (.chk (.gd (.or (.bn (.cm .neq .i64) (.vr 14) (.cn (.int .i64 0))) (.bn (.cm .neq .i64) (.vr 16) (.cn (.int .i64 0)))) false (.un .ln (.vr 13)))
  (.chk (.gd (.or (.bn (.cm .neq .i64) (.vr 14) (.cn (.int .i64 0))) (.bn (.cm .neq .i64) (.vr 16) (.cn (.int .i64 0)))) false (.bn (.ar .mul .i64) (.vr 6) (.vr 7)))
  (.chk (.gd (.or (.or (.bn (.cm .neq .i64) (.vr 14) (.cn (.int .i64 0))) (.bn (.cm .neq .i64) (.vr 16) (.cn (.int .i64 0)))) (.bn (.cm .neq .i64) (.un .ln (.vr 13)) (.bn (.ar .mul .i64) (.vr 6) (.vr 7)))) false (.un .ln (.vr 15)))
  (.chk (.gd (.or (.or (.bn (.cm .neq .i64) (.vr 14) (.cn (.int .i64 0))) (.bn (.cm .neq .i64) (.vr 16) (.cn (.int .i64 0)))) (.bn (.cm .neq .i64) (.un .ln (.vr 13)) (.bn (.ar .mul .i64) (.vr 6) (.vr 7)))) false (.bn (.ar .mul .i64) (.vr 6) (.vr 7)))
  (.set 94 (.or (.or (.or (.bn (.cm .neq .i64) (.vr 14) (.cn (.int .i64 0))) (.bn (.cm .neq .i64) (.vr 16) (.cn (.int .i64 0)))) (.bn (.cm .neq .i64) (.un .ln (.vr 13)) (.bn (.ar .mul .i64) (.vr 6) (.vr 7)))) (.bn (.cm .neq .i64) (.un .ln (.vr 15)) (.bn (.ar .mul .i64) (.vr 6) (.vr 7))))
  (.ite (.vr 94)
    (.set 4 (.cn (.bool false))
    .ret)
    .nil
  (.set 17 (.cn (.int .i64 0))
  (.blk 2
    (.loop
      (.chk (.bn (.cm .lss .i64) (.vr 17) (.vr 7))
      (.set 97 (.bn (.cm .lss .i64) (.vr 17) (.vr 7))
      (.ite (.vr 97)
        .nil
        (.exit 2)
      (.blk 3
        (.draw
        (.chk (.bn (.ar .mul .i64) (.vr 17) (.vr 6))
        (.chk (.bn (.ar .add .i64) (.vr 17) (.cn (.int .i64 1)))
        (.chk (.bn (.ar .mul .i64) (.bn (.ar .add .i64) (.vr 17) (.cn (.int .i64 1))) (.vr 6))
        (.chk (.sl 1 true (.vr 13) (.bn (.ar .mul .i64) (.vr 17) (.vr 6)) (.bn (.ar .mul .i64) (.bn (.ar .add .i64) (.vr 17) (.cn (.int .i64 1))) (.vr 6)))
        (.chk (.bn (.ar .mul .i64) (.vr 17) (.vr 6))
        (.chk (.bn (.ar .add .i64) (.vr 17) (.cn (.int .i64 1)))
        (.chk (.bn (.ar .mul .i64) (.bn (.ar .add .i64) (.vr 17) (.cn (.int .i64 1))) (.vr 6))
        (.chk (.sl 1 true (.vr 15) (.bn (.ar .mul .i64) (.vr 17) (.vr 6)) (.bn (.ar .mul .i64) (.bn (.ar .add .i64) (.vr 17) (.cn (.int .i64 1))) (.vr 6)))
        (.call (some 110) 23 [(.sl 1 true (.vr 13) (.bn (.ar .mul .i64) (.vr 17) (.vr 6)) (.bn (.ar .mul .i64) (.bn (.ar .add .i64) (.vr 17) (.cn (.int .i64 1))) (.vr 6))), (.vr 8)] []
        (.call (some 121) 23 [(.sl 1 true (.vr 15) (.bn (.ar .mul .i64) (.vr 17) (.vr 6)) (.bn (.ar .mul .i64) (.bn (.ar .add .i64) (.vr 17) (.cn (.int .i64 1))) (.vr 6))), (.vr 8)] []
        (.chk (.bn (.cm .gtr .i64) (.vr 110) (.vr 121))
        (.set 122 (.bn (.cm .gtr .i64) (.vr 110) (.vr 121))
        (.ite (.vr 122)
          (.set 4 (.cn (.bool false))
          .ret)
          .nil
        .nil))))))))))))))
      (.chk (.bn (.ar .add .i64) (.vr 17) (.cn (.int .i64 1)))
      (.set 17 (.bn (.ar .add .i64) (.vr 17) (.cn (.int .i64 1)))
      .nil)))))))
  (.call (some 123) 17 [] []
  (.set 4 (.vr 123)
  .ret)))))))))))))))))))))))))))))))))))))))))
def fc6 : Fc := ⟨124, s6, [(.vr 4)]⟩
theorem c6 : compF Try.prog 6 = some fc6 := by kernel_rfl

/-- kinora/kinoralaw23.GuessTells · parameters 6 · 0:t 1:l 2:w 3:h 4:depth 5:k 13:x 14:a 15:b 16:d 17:p 18:q -/
def s7 : S :=
  (.set 12 (.cn (.bool false))
  (.chk (.un .ln (.vr 1))
  (.chk (.gd (.bn (.cm .gtr .i64) (.un .ln (.vr 1)) (.cn (.int .i64 4200))) false (.un .ln (.vr 5)))
  (.set 26 (.or (.bn (.cm .gtr .i64) (.un .ln (.vr 1)) (.cn (.int .i64 4200))) (.bn (.cm .gtr .i64) (.un .ln (.vr 5)) (.cn (.int .i64 100))))
  (.ite (.vr 26)
    (.set 12 (.cn (.bool true))
    .ret)
    .nil
  (.call (some 28) 8 [(.vr 0)] []
  (.set 13 (.vr 28)
  (.call (some 30) 9 [(.vr 13), (.cn (.int .i64 20))] []
  (.chk (.bn (.ar .add .i64) (.cn (.int .i64 1)) (.vr 30))
  (.call (some 33) 9 [(.vr 13), (.cn (.int .i64 20))] []
  (.chk (.bn (.ar .add .i64) (.cn (.int .i64 1)) (.vr 33))
  (.call (some 36) 10 [(.vr 13)] []
  (.set 14 (.bn (.ar .add .i64) (.cn (.int .i64 1)) (.vr 30))
  (.set 15 (.bn (.ar .add .i64) (.cn (.int .i64 1)) (.vr 33))
  (.set 16 (.vr 36)
  (.call (some 41) 11 [(.vr 13), (.vr 14), (.vr 15), (.vr 16)] []
  (.set 17 (.vr 41)
  (.call (some 44) 18 [(.vr 13), (.vr 15)] []
  (.set 18 (.vr 44)
  (.call (some 50) 24 [(.vr 17), (.vr 14), (.vr 15), (.vr 16), (.vr 18)] []
  (.set 51 (.vr 50)
  (.ifg (.vr 51) true
    (.call (some 57) 24 [(.vr 17), (.vr 14), (.vr 15), (.vr 16), (.vr 5)] []
    .nil)
    (.set 57 (.cn undef)
    .nil)
  (.chk (.pk (.vr 51) (.vr 57) (.cn (.bool false)))
  (.set 59 (.pk (.vr 51) (.vr 57) (.cn (.bool false)))
  (.ifg (.vr 59) true
    (.call (some 65) 24 [(.vr 1), (.vr 2), (.vr 3), (.vr 4), (.vr 5)] []
    .nil)
    (.set 65 (.cn undef)
    .nil)
  (.chk (.pk (.vr 59) (.vr 65) (.cn (.bool false)))
  (.set 67 (.pk (.vr 59) (.vr 65) (.cn (.bool false)))
  (.ifg (.vr 67) true
    (.call (some 73) 24 [(.vr 17), (.vr 15), (.vr 14), (.vr 16), (.vr 18)] []
    .nil)
    (.set 73 (.cn undef)
    .nil)
  (.chk (.pk (.vr 67) (.vr 73) (.cn (.bool false)))
  (.set 75 (.pk (.vr 67) (.vr 73) (.cn (.bool false)))
  (.ifg (.vr 75) true
    (.call (some 80) 22 [(.vr 17), (.vr 14), (.vr 15), (.vr 16)] []
    .nil)
    (.set 80 (.cn undef)
    .nil)
  (.ifg (.vr 75) true
    (.call (some 85) 25 [(.vr 17), (.vr 14), (.vr 15), (.vr 16)] []
    .nil)
    (.set 85 (.cn undef)
    .nil)
  (.ifg (.vr 75) true
    (.call (some 86) 21 [(.vr 80), (.vr 85)] []
    .nil)
    (.set 86 (.cn undef)
    .nil)
  (.chk (.pk (.vr 75) (.vr 86) (.cn (.bool false)))
  (.set 88 (.pk (.vr 75) (.vr 86) (.cn (.bool false)))
  (.ifg (.vr 88) true
    (.call (some 93) 22 [(.vr 1), (.vr 2), (.vr 3), (.vr 4)] []
    .nil)
    (.set 93 (.cn undef)
    .nil)
  (.ifg (.vr 88) true
    (.call (some 98) 25 [(.vr 1), (.vr 2), (.vr 3), (.vr 4)] []
    .nil)
    (.set 98 (.cn undef)
    .nil)
  (.ifg (.vr 88) true
    (.call (some 99) 21 [(.vr 93), (.vr 98)] []
    .nil)
    (.set 99 (.cn undef)
    .nil)
  (.chk (.pk (.vr 88) (.vr 99) (.cn (.bool false)))
  (.set 101 (.pk (.vr 88) (.vr 99) (.cn (.bool false)))
  (.ifg (.vr 101) true
    (.call (some 104) 23 [(.vr 1), (.vr 4)] []
    .nil)
    (.set 104 (.cn undef)
    .nil)
  (.ifg (.vr 101) true
    (.call (some 107) 26 [(.vr 1), (.vr 4)] []
    .nil)
    (.set 107 (.cn undef)
    .nil)
  (.chk (.gd (.vr 101) true (.bn (.cm .eql .i64) (.vr 104) (.vr 107)))
  (.chk (.and (.vr 101) (.bn (.cm .eql .i64) (.vr 104) (.vr 107)))
  (.set 110 (.and (.vr 101) (.bn (.cm .eql .i64) (.vr 104) (.vr 107)))
  (.ifg (.vr 110) true
    (.call (some 113) 23 [(.vr 1), (.vr 16)] []
    .nil)
    (.set 113 (.cn undef)
    .nil)
  (.ifg (.vr 110) true
    (.call (some 116) 26 [(.vr 1), (.vr 16)] []
    .nil)
    (.set 116 (.cn undef)
    .nil)
  (.chk (.gd (.vr 110) true (.bn (.cm .eql .i64) (.vr 113) (.vr 116)))
  (.chk (.and (.vr 110) (.bn (.cm .eql .i64) (.vr 113) (.vr 116)))
  (.set 119 (.and (.vr 110) (.bn (.cm .eql .i64) (.vr 113) (.vr 116)))
  (.ifg (.vr 119) true
    (.call (some 120) 17 [] []
    .nil)
    (.set 120 (.cn undef)
    .nil)
  (.chk (.pk (.vr 119) (.vr 120) (.cn (.bool false)))
  (.set 12 (.pk (.vr 119) (.vr 120) (.cn (.bool false)))
  .ret)))))))))))))))))))))))))))))))))))))))))))))))))))))
def fc7 : Fc := ⟨122, s7, [(.vr 12)]⟩
theorem c7 : compF Try.prog 7 = some fc7 := by kernel_rfl

/-- kinora/kinorakeep2.New · parameters 1 · 0:l -/
def s8 : S :=
  (.set 2 (.cn (.pointer none))
  (.chk (.bd 0 1 (.vr 0) (.cn (.agg #[(.slice none 0 0), (.int .i64 0)])))
  (.op (some 5) (.box 49 (.tmp 4)) 24 [(4, (.bd 0 1 (.vr 0) (.cn (.agg #[(.slice none 0 0), (.int .i64 0)]))))] []
  (.set 2 (.vr 5)
  .ret))))
def fc8 : Fc := ⟨6, s8, [(.vr 2)]⟩
theorem c8 : compF Try.prog 8 = some fc8 := by kernel_rfl

/-- (*kinora/kinorakeep2.Tape).Next · parameters 2 · 0:t 1:n -/
def s9 : S :=
  (.set 4 (.cn (.int .i64 0))
  (.draw
  (.chk (.un .nck (.vr 0))
  (.chk (.un (.fa 1) (.un .nck (.vr 0)))
  (.chk (.ld (.un (.fa 1) (.un .nck (.vr 0))))
  (.chk (.un .nck (.vr 0))
  (.chk (.un (.fa 0) (.un .nck (.vr 0)))
  (.chk (.ld (.un (.fa 0) (.un .nck (.vr 0))))
  (.chk (.un .ln (.ld (.un (.fa 0) (.un .nck (.vr 0)))))
  (.chk (.bn (.cm .geq .i64) (.ld (.un (.fa 1) (.un .nck (.vr 0)))) (.un .ln (.ld (.un (.fa 0) (.un .nck (.vr 0))))))
  (.chk (.gd (.bn (.cm .geq .i64) (.ld (.un (.fa 1) (.un .nck (.vr 0)))) (.un .ln (.ld (.un (.fa 0) (.un .nck (.vr 0)))))) false (.bn (.cm .lss .i64) (.vr 1) (.cn (.int .i64 1))))
  (.set 18 (.or (.bn (.cm .geq .i64) (.ld (.un (.fa 1) (.un .nck (.vr 0)))) (.un .ln (.ld (.un (.fa 0) (.un .nck (.vr 0)))))) (.bn (.cm .lss .i64) (.vr 1) (.cn (.int .i64 1))))
  (.ite (.vr 18)
    (.set 4 (.cn (.int .i64 0))
    .ret)
    .nil
  (.chk (.un .nck (.vr 0))
  (.chk (.un (.fa 1) (.un .nck (.vr 0)))
  (.chk (.ld (.un (.fa 1) (.un .nck (.vr 0))))
  (.set 22 (.ld (.un (.fa 1) (.un .nck (.vr 0))))
  (.chk (.bn (.ar .add .i64) (.vr 22) (.cn (.int .i64 1)))
  (.chk (.un .nck (.vr 0))
  (.chk (.un (.fa 1) (.un .nck (.vr 0)))
  (.st 1 (.un (.fa 1) (.un .nck (.vr 0))) (.bn (.ar .add .i64) (.vr 22) (.cn (.int .i64 1))) []
  (.draw
  (.chk (.un .nck (.vr 0))
  (.chk (.un (.fa 0) (.un .nck (.vr 0)))
  (.chk (.ld (.un (.fa 0) (.un .nck (.vr 0))))
  (.set 29 (.ld (.un (.fa 0) (.un .nck (.vr 0))))
  (.chk (.un .nck (.vr 0))
  (.chk (.un (.fa 1) (.un .nck (.vr 0)))
  (.chk (.ld (.un (.fa 1) (.un .nck (.vr 0))))
  (.set 33 (.ld (.un (.fa 1) (.un .nck (.vr 0))))
  (.chk (.bn (.ar .sub .i64) (.vr 33) (.cn (.int .i64 1)))
  (.chk (.bn (.ia 1) (.vr 29) (.bn (.ar .sub .i64) (.vr 33) (.cn (.int .i64 1))))
  (.chk (.ld (.bn (.ia 1) (.vr 29) (.bn (.ar .sub .i64) (.vr 33) (.cn (.int .i64 1)))))
  (.set 36 (.ld (.bn (.ia 1) (.vr 29) (.bn (.ar .sub .i64) (.vr 33) (.cn (.int .i64 1)))))
  (.call (some 37) 12 [(.vr 36), (.cn (.int .i64 0)), (.cn (.int .i64 1073741824))] []
  (.chk (.bn (.dv true .i64) (.vr 37) (.vr 1))
  (.set 4 (.bn (.dv true .i64) (.vr 37) (.vr 1))
  .ret)))))))))))))))))))))))))))))))))))))
def fc9 : Fc := ⟨40, s9, [(.vr 4)]⟩
theorem c9 : compF Try.prog 9 = some fc9 := by kernel_rfl

/-- (*kinora/kinorakeep2.Tape).Depth · parameters 1 · 0:t -/
def s10 : S :=
  (.set 2 (.cn (.int .i64 0))
  (.op (some 3) (.buildSlice 22 10 #[(0, (.const (.int .i64 8))), (1, (.const (.int .i64 1))), (2, (.const (.int .i64 2))), (3, (.const (.int .i64 4))), (4, (.const (.int .i64 8))), (5, (.const (.int .i64 10))), (6, (.const (.int .i64 12))), (7, (.const (.int .i64 16))), (8, (.const (.int .i64 5))), (9, (.const (.int .i64 8)))]) 22 [] []
  (.call (some 5) 9 [(.vr 0), (.cn (.int .i64 10))] []
  (.chk (.bn (.ia 1) (.vr 3) (.vr 5))
  (.chk (.ld (.bn (.ia 1) (.vr 3) (.vr 5)))
  (.set 7 (.ld (.bn (.ia 1) (.vr 3) (.vr 5)))
  (.set 2 (.vr 7)
  .ret)))))))
def fc10 : Fc := ⟨8, s10, [(.vr 2)]⟩
theorem c10 : compF Try.prog 10 = some fc10 := by kernel_rfl

/-- (*kinora/kinorakeep2.Tape).Plane · parameters 4 · 0:t 1:w 2:h 3:depth 9:kind 10:seed 11:r 12:most 13:l 14:at 15:x 16:y 17:v -/
def s11 : S :=
  (.set 8 (.cn (.slice none 0 0))
  (.call (some 19) 9 [(.vr 0), (.cn (.int .i64 7))] []
  (.call (some 21) 9 [(.vr 0), (.cn (.int .i64 1048576))] []
  (.set 9 (.vr 19)
  (.set 10 (.vr 21)
  (.chk (.bd 0 1 (.vr 10) (.cn (.agg #[(.int .i64 0)])))
  (.op (some 24) (.box 52 (.tmp 23)) 50 [(23, (.bd 0 1 (.vr 10) (.cn (.agg #[(.int .i64 0)]))))] []
  (.set 11 (.vr 24)
  (.chk (.un (.cv .u64) (.vr 3))
  (.chk (.bn (.sh true .i64) (.cn (.int .i64 1)) (.un (.cv .u64) (.vr 3)))
  (.set 12 (.bn (.sh true .i64) (.cn (.int .i64 1)) (.un (.cv .u64) (.vr 3)))
  (.set 13 (.cn (.slice none 0 0))
  (.set 14 (.cn (.int .i64 0))
  (.blk 0
    (.loop
      (.chk (.bn (.ar .mul .i64) (.vr 1) (.vr 2))
      (.chk (.bn (.cm .lss .i64) (.vr 14) (.bn (.ar .mul .i64) (.vr 1) (.vr 2)))
      (.set 32 (.bn (.cm .lss .i64) (.vr 14) (.bn (.ar .mul .i64) (.vr 1) (.vr 2)))
      (.ite (.vr 32)
        .nil
        (.exit 0)
      (.blk 1
        (.draw
        (.chk (.bn (.dv true .i64) (.vr 14) (.vr 1))
        (.chk (.bn (.dv false .i64) (.vr 14) (.vr 1))
        (.set 15 (.bn (.dv true .i64) (.vr 14) (.vr 1))
        (.set 16 (.bn (.dv false .i64) (.vr 14) (.vr 1))
        (.set 17 (.cn (.int .i64 0))
        (.set 41 (.vr 9)
        (.blk 2
          (.chk (.bn (.cm .eql .i64) (.vr 41) (.cn (.int .i64 0)))
          (.set 50 (.bn (.cm .eql .i64) (.vr 41) (.cn (.int .i64 0)))
          (.ite (.vr 50)
            (.set 17 (.vr 10)
            .nil)
            (.chk (.bn (.cm .eql .i64) (.vr 41) (.cn (.int .i64 1)))
            (.set 53 (.bn (.cm .eql .i64) (.vr 41) (.cn (.int .i64 1)))
            (.ite (.vr 53)
              (.call (some 56) 27 [(.vr 11), (.cn (.int .i64 65536))] []
              (.set 17 (.vr 56)
              .nil))
              (.chk (.bn (.cm .eql .i64) (.vr 41) (.cn (.int .i64 2)))
              (.set 57 (.bn (.cm .eql .i64) (.vr 41) (.cn (.int .i64 2)))
              (.ite (.vr 57)
                (.chk (.bn (.ar .mul .i64) (.cn (.int .i64 3)) (.vr 15))
                (.chk (.bn (.ar .add .i64) (.vr 10) (.bn (.ar .mul .i64) (.cn (.int .i64 3)) (.vr 15)))
                (.chk (.bn (.ar .mul .i64) (.cn (.int .i64 2)) (.vr 16))
                (.call (some 67) 27 [(.vr 11), (.cn (.int .i64 3))] []
                (.chk (.bn (.ar .add .i64) (.bn (.ar .add .i64) (.bn (.ar .add .i64) (.vr 10) (.bn (.ar .mul .i64) (.cn (.int .i64 3)) (.vr 15))) (.bn (.ar .mul .i64) (.cn (.int .i64 2)) (.vr 16))) (.vr 67))
                (.set 17 (.bn (.ar .add .i64) (.bn (.ar .add .i64) (.bn (.ar .add .i64) (.vr 10) (.bn (.ar .mul .i64) (.cn (.int .i64 3)) (.vr 15))) (.bn (.ar .mul .i64) (.cn (.int .i64 2)) (.vr 16))) (.vr 67))
                .nil))))))
                (.chk (.bn (.cm .eql .i64) (.vr 41) (.cn (.int .i64 3)))
                (.set 69 (.bn (.cm .eql .i64) (.vr 41) (.cn (.int .i64 3)))
                (.ite (.vr 69)
                  (.call (some 73) 27 [(.vr 11), (.cn (.int .i64 5))] []
                  (.chk (.bn (.ar .mul .i64) (.vr 73) (.cn (.int .i64 7)))
                  (.chk (.bn (.ar .add .i64) (.vr 10) (.bn (.ar .mul .i64) (.vr 73) (.cn (.int .i64 7))))
                  (.set 17 (.bn (.ar .add .i64) (.vr 10) (.bn (.ar .mul .i64) (.vr 73) (.cn (.int .i64 7))))
                  .nil))))
                  (.chk (.bn (.cm .eql .i64) (.vr 41) (.cn (.int .i64 4)))
                  (.set 76 (.bn (.cm .eql .i64) (.vr 41) (.cn (.int .i64 4)))
                  (.ite (.vr 76)
                    (.chk (.bn (.dv false .i64) (.vr 15) (.cn (.int .i64 3)))
                    (.chk (.bn (.ar .add .i64) (.vr 10) (.bn (.ar .mul .i64) (.bn (.dv false .i64) (.vr 15) (.cn (.int .i64 3))) (.cn (.int .i64 11))))
                    (.chk (.bn (.dv false .i64) (.vr 16) (.cn (.int .i64 4)))
                    (.set 17 (.bn (.ar .add .i64) (.bn (.ar .add .i64) (.vr 10) (.bn (.ar .mul .i64) (.bn (.dv false .i64) (.vr 15) (.cn (.int .i64 3))) (.cn (.int .i64 11)))) (.bn (.dv false .i64) (.vr 16) (.cn (.int .i64 4))))
                    .nil))))
                    (.chk (.bn (.cm .eql .i64) (.vr 41) (.cn (.int .i64 5)))
                    (.set 86 (.bn (.cm .eql .i64) (.vr 41) (.cn (.int .i64 5)))
                    (.ite (.vr 86)
                      (.chk (.bn (.ar .mul .i64) (.vr 15) (.vr 15))
                      (.chk (.bn (.ar .add .i64) (.vr 10) (.bn (.ar .mul .i64) (.vr 15) (.vr 15)))
                      (.chk (.bn (.ar .mul .i64) (.vr 16) (.vr 16))
                      (.set 17 (.bn (.ar .add .i64) (.bn (.ar .add .i64) (.vr 10) (.bn (.ar .mul .i64) (.vr 15) (.vr 15))) (.bn (.dv false .i64) (.bn (.ar .mul .i64) (.vr 16) (.vr 16)) (.cn (.int .i64 2))))
                      .nil))))
                      (.chk (.bn (.ar .mul .i64) (.cn (.int .i64 3)) (.vr 16))
                      (.chk (.bn (.ar .add .i64) (.vr 15) (.bn (.ar .mul .i64) (.cn (.int .i64 3)) (.vr 16)))
                      (.chk (.bn (.ar .add .i64) (.vr 10) (.bn (.ar .mul .i64) (.bn (.dv true .i64) (.bn (.ar .add .i64) (.vr 15) (.bn (.ar .mul .i64) (.cn (.int .i64 3)) (.vr 16))) (.cn (.int .i64 5))) (.cn (.int .i64 9))))
                      (.set 17 (.bn (.ar .add .i64) (.vr 10) (.bn (.ar .mul .i64) (.bn (.dv true .i64) (.bn (.ar .add .i64) (.vr 15) (.bn (.ar .mul .i64) (.cn (.int .i64 3)) (.vr 16))) (.cn (.int .i64 5))) (.cn (.int .i64 9))))
                      .nil))))
                    .nil)))
                  .nil)))
                .nil)))
              .nil)))
            .nil)))
          .nil)))
        (.chk (.bn (.dv true .i64) (.vr 17) (.vr 12))
        (.op (some 102) (.buildSlice 22 1 #[(0, (.tmp 101))]) 22 [(101, (.bn (.dv true .i64) (.vr 17) (.vr 12)))] []
        (.op (some 103) (.call ⟨(.builtin .append), #[(.tmp 98), (.tmp 102)], #[22, 22]⟩) 22 [(98, (.vr 13)), (102, (.vr 102))] []
        (.set 13 (.vr 103)
        .nil))))))))))))
      (.chk (.bn (.ar .add .i64) (.vr 14) (.cn (.int .i64 1)))
      (.set 14 (.bn (.ar .add .i64) (.vr 14) (.cn (.int .i64 1)))
      .nil))))))))
  (.set 8 (.vr 13)
  .ret)))))))))))))))
def fc11 : Fc := ⟨105, s11, [(.vr 8)]⟩
theorem c11 : compF Try.prog 11 = some fc11 := by kernel_rfl

/-- kinora/kinorakeep2.Within · parameters 3 · 0:n 1:lo 2:hi -/
def s12 : S :=
  (.set 6 (.cn (.int .i64 0))
  (.chk (.bn (.cm .geq .i64) (.vr 0) (.vr 1))
  (.chk (.gd (.bn (.cm .geq .i64) (.vr 0) (.vr 1)) true (.bn (.cm .leq .i64) (.vr 0) (.vr 2)))
  (.set 14 (.and (.bn (.cm .geq .i64) (.vr 0) (.vr 1)) (.bn (.cm .leq .i64) (.vr 0) (.vr 2)))
  (.ite (.vr 14)
    (.set 6 (.vr 0)
    .ret)
    .nil
  (.chk (.bn (.ar .sub .i64) (.vr 2) (.vr 1))
  (.chk (.bn (.dv true .i64) (.vr 0) (.bn (.ar .add .i64) (.bn (.ar .sub .i64) (.vr 2) (.vr 1)) (.cn (.int .i64 1))))
  (.set 0 (.bn (.dv true .i64) (.vr 0) (.bn (.ar .add .i64) (.bn (.ar .sub .i64) (.vr 2) (.vr 1)) (.cn (.int .i64 1))))
  (.chk (.bn (.cm .lss .i64) (.vr 0) (.cn (.int .i64 0)))
  (.set 23 (.bn (.cm .lss .i64) (.vr 0) (.cn (.int .i64 0)))
  (.ite (.vr 23)
    (.chk (.bn (.ar .add .i64) (.vr 0) (.vr 2))
    (.chk (.bn (.ar .sub .i64) (.bn (.ar .add .i64) (.vr 0) (.vr 2)) (.vr 1))
    (.set 0 (.bn (.ar .add .i64) (.bn (.ar .sub .i64) (.bn (.ar .add .i64) (.vr 0) (.vr 2)) (.vr 1)) (.cn (.int .i64 1)))
    .nil)))
    .nil
  (.chk (.bn (.ar .add .i64) (.vr 1) (.vr 0))
  (.set 6 (.bn (.ar .add .i64) (.vr 1) (.vr 0))
  .ret)))))))))))))
def fc12 : Fc := ⟨33, s12, [(.vr 6)]⟩
theorem c12 : compF Try.prog 12 = some fc12 := by kernel_rfl

/-- kinora/kinoraref24.Wrap · parameters 2 · 0:v 1:depth -/
def s13 : S :=
  (.set 4 (.cn (.int .i64 0))
  (.call (some 6) 28 [(.vr 1)] []
  (.chk (.un .not (.vr 6))
  (.set 7 (.un .not (.vr 6))
  (.ite (.vr 7)
    (.set 4 (.cn (.int .i64 0))
    .ret)
    .nil
  (.chk (.un (.cv .u64) (.vr 1))
  (.chk (.bn (.sh true .i64) (.cn (.int .i64 1)) (.un (.cv .u64) (.vr 1)))
  (.chk (.bn (.bt .and .i64) (.vr 0) (.bn (.ar .sub .i64) (.bn (.sh true .i64) (.cn (.int .i64 1)) (.un (.cv .u64) (.vr 1))) (.cn (.int .i64 1))))
  (.set 4 (.bn (.bt .and .i64) (.vr 0) (.bn (.ar .sub .i64) (.bn (.sh true .i64) (.cn (.int .i64 1)) (.un (.cv .u64) (.vr 1))) (.cn (.int .i64 1))))
  .ret)))))))))
def fc13 : Fc := ⟨14, s13, [(.vr 4)]⟩
theorem c13 : compF Try.prog 13 = some fc13 := by kernel_rfl

/-- kinora/guess.One · parameters 6 · 0:kind 1:west 2:north 3:northwest 4:northeast 5:depth 14:s 15:slope -/
def s14 : S :=
  (.set 12 (.cn (.int .i64 0))
  (.chk (.bn (.cm .lss .i64) (.vr 0) (.cn (.int .i64 0)))
  (.chk (.gd (.bn (.cm .lss .i64) (.vr 0) (.cn (.int .i64 0))) false (.bn (.cm .geq .i64) (.vr 0) (.cn (.int .i64 10))))
  (.chk (.gd (.or (.bn (.cm .lss .i64) (.vr 0) (.cn (.int .i64 0))) (.bn (.cm .geq .i64) (.vr 0) (.cn (.int .i64 10)))) false (.bn (.cm .lss .i64) (.vr 5) (.cn (.int .i64 1))))
  (.chk (.gd (.or (.or (.bn (.cm .lss .i64) (.vr 0) (.cn (.int .i64 0))) (.bn (.cm .geq .i64) (.vr 0) (.cn (.int .i64 10)))) (.bn (.cm .lss .i64) (.vr 5) (.cn (.int .i64 1)))) false (.bn (.cm .gtr .i64) (.vr 5) (.cn (.int .i64 16))))
  (.set 29 (.or (.or (.or (.bn (.cm .lss .i64) (.vr 0) (.cn (.int .i64 0))) (.bn (.cm .geq .i64) (.vr 0) (.cn (.int .i64 10)))) (.bn (.cm .lss .i64) (.vr 5) (.cn (.int .i64 1)))) (.bn (.cm .gtr .i64) (.vr 5) (.cn (.int .i64 16))))
  (.ite (.vr 29)
    (.set 12 (.cn (.int .i64 0))
    .ret)
    .nil
  (.chk (.bd 3 1 (.vr 4) (.bd 2 1 (.vr 3) (.bd 1 1 (.vr 2) (.bd 0 1 (.vr 1) (.cn (.agg #[(.int .i64 0), (.int .i64 0), (.int .i64 0), (.int .i64 0)]))))))
  (.set 34 (.bd 3 1 (.vr 4) (.bd 2 1 (.vr 3) (.bd 1 1 (.vr 2) (.bd 0 1 (.vr 1) (.cn (.agg #[(.int .i64 0), (.int .i64 0), (.int .i64 0), (.int .i64 0)]))))))
  (.set 35 (.cn (.int .i64 0))
  (.blk 0
    (.loop
      (.chk (.bn (.cm .lss .i64) (.vr 35) (.cn (.int .i64 4)))
      (.set 36 (.bn (.cm .lss .i64) (.vr 35) (.cn (.int .i64 4)))
      (.ite (.vr 36)
        .nil
        (.exit 0)
      (.blk 1
        (.chk (.bn (.ix1 4 1) (.vr 34) (.vr 35))
        (.set 14 (.bn (.ix1 4 1) (.vr 34) (.vr 35))
        (.chk (.bn (.cm .lss .i64) (.vr 14) (.cn (.int .i64 0)))
        (.chk (.gd (.bn (.cm .lss .i64) (.vr 14) (.cn (.int .i64 0))) false (.bn (.sh true .i64) (.cn (.int .i64 1)) (.vr 5)))
        (.chk (.gd (.bn (.cm .lss .i64) (.vr 14) (.cn (.int .i64 0))) false (.bn (.cm .geq .i64) (.vr 14) (.bn (.sh true .i64) (.cn (.int .i64 1)) (.vr 5))))
        (.set 45 (.or (.bn (.cm .lss .i64) (.vr 14) (.cn (.int .i64 0))) (.bn (.cm .geq .i64) (.vr 14) (.bn (.sh true .i64) (.cn (.int .i64 1)) (.vr 5))))
        (.ite (.vr 45)
          (.set 12 (.cn (.int .i64 0))
          .ret)
          .nil
        .nil)))))))
      (.chk (.bn (.ar .add .i64) (.vr 35) (.cn (.int .i64 1)))
      (.set 35 (.bn (.ar .add .i64) (.vr 35) (.cn (.int .i64 1)))
      .nil)))))))
  (.chk (.bn (.ar .add .i64) (.vr 1) (.vr 2))
  (.chk (.bn (.ar .sub .i64) (.bn (.ar .add .i64) (.vr 1) (.vr 2)) (.vr 3))
  (.set 15 (.bn (.ar .sub .i64) (.bn (.ar .add .i64) (.vr 1) (.vr 2)) (.vr 3))
  (.set 52 (.vr 0)
  (.blk 2
    (.chk (.bn (.cm .eql .i64) (.vr 52) (.cn (.int .i64 1)))
    (.set 53 (.bn (.cm .eql .i64) (.vr 52) (.cn (.int .i64 1)))
    (.ite (.vr 53)
      (.set 12 (.vr 1)
      .ret)
      (.chk (.bn (.cm .eql .i64) (.vr 52) (.cn (.int .i64 2)))
      (.set 56 (.bn (.cm .eql .i64) (.vr 52) (.cn (.int .i64 2)))
      (.ite (.vr 56)
        (.set 12 (.vr 2)
        .ret)
        (.chk (.bn (.cm .eql .i64) (.vr 52) (.cn (.int .i64 3)))
        (.set 59 (.bn (.cm .eql .i64) (.vr 52) (.cn (.int .i64 3)))
        (.ite (.vr 59)
          (.set 12 (.vr 3)
          .ret)
          (.chk (.bn (.cm .eql .i64) (.vr 52) (.cn (.int .i64 4)))
          (.set 62 (.bn (.cm .eql .i64) (.vr 52) (.cn (.int .i64 4)))
          (.ite (.vr 62)
            (.set 12 (.vr 4)
            .ret)
            (.chk (.bn (.cm .eql .i64) (.vr 52) (.cn (.int .i64 5)))
            (.set 65 (.bn (.cm .eql .i64) (.vr 52) (.cn (.int .i64 5)))
            (.ite (.vr 65)
              (.chk (.bn (.ar .add .i64) (.vr 1) (.vr 2))
              (.set 12 (.bn (.dv false .i64) (.bn (.ar .add .i64) (.vr 1) (.vr 2)) (.cn (.int .i64 2)))
              .ret))
              (.chk (.bn (.cm .eql .i64) (.vr 52) (.cn (.int .i64 6)))
              (.set 71 (.bn (.cm .eql .i64) (.vr 52) (.cn (.int .i64 6)))
              (.ite (.vr 71)
                (.op (some 77) (.buildSlice 22 3 #[(0, (.tmp 74)), (1, (.tmp 75)), (2, (.tmp 76))]) 22 [(74, (.vr 1)), (75, (.vr 2)), (76, (.vr 3))] []
                (.call (some 78) 29 [(.vr 15), (.vr 77)] []
                (.set 12 (.vr 78)
                .ret)))
                (.chk (.bn (.cm .eql .i64) (.vr 52) (.cn (.int .i64 7)))
                (.set 79 (.bn (.cm .eql .i64) (.vr 52) (.cn (.int .i64 7)))
                (.ite (.vr 79)
                  (.chk (.bn (.mn .i64) (.vr 1) (.vr 2))
                  (.chk (.bn (.mx .i64) (.vr 1) (.vr 2))
                  (.chk (.bn (.mn .i64) (.bn (.mx .i64) (.vr 1) (.vr 2)) (.vr 15))
                  (.set 12 (.bn (.mx .i64) (.bn (.mn .i64) (.vr 1) (.vr 2)) (.bn (.mn .i64) (.bn (.mx .i64) (.vr 1) (.vr 2)) (.vr 15)))
                  .ret))))
                  (.chk (.bn (.cm .eql .i64) (.vr 52) (.cn (.int .i64 8)))
                  (.set 90 (.bn (.cm .eql .i64) (.vr 52) (.cn (.int .i64 8)))
                  (.ite (.vr 90)
                    (.chk (.bn (.mx .i64) (.vr 15) (.cn (.int .i64 0)))
                    (.chk (.bn (.sh true .i64) (.cn (.int .i64 1)) (.vr 5))
                    (.set 12 (.bn (.mn .i64) (.bn (.mx .i64) (.vr 15) (.cn (.int .i64 0))) (.bn (.ar .sub .i64) (.bn (.sh true .i64) (.cn (.int .i64 1)) (.vr 5)) (.cn (.int .i64 1))))
                    .ret)))
                    (.chk (.bn (.cm .eql .i64) (.vr 52) (.cn (.int .i64 9)))
                    (.set 98 (.bn (.cm .eql .i64) (.vr 52) (.cn (.int .i64 9)))
                    (.ite (.vr 98)
                      (.chk (.bn (.ar .add .i64) (.vr 1) (.vr 2))
                      (.chk (.bn (.ar .add .i64) (.bn (.ar .add .i64) (.vr 1) (.vr 2)) (.vr 3))
                      (.chk (.bn (.ar .add .i64) (.bn (.ar .add .i64) (.bn (.ar .add .i64) (.vr 1) (.vr 2)) (.vr 3)) (.vr 4))
                      (.set 12 (.bn (.dv false .i64) (.bn (.ar .add .i64) (.bn (.ar .add .i64) (.bn (.ar .add .i64) (.bn (.ar .add .i64) (.vr 1) (.vr 2)) (.vr 3)) (.vr 4)) (.cn (.int .i64 2))) (.cn (.int .i64 4)))
                      .ret))))
                      .nil
                    .nil)))
                  .nil)))
                .nil)))
              .nil)))
            .nil)))
          .nil)))
        .nil)))
      .nil)))
    .nil)))
  (.set 12 (.cn (.int .i64 0))
  .ret)))))))))))))))))
def fc14 : Fc := ⟨109, s14, [(.vr 12)]⟩
theorem c14 : compF Try.prog 14 = some fc14 := by kernel_rfl

/-- kinora/kinoraref24.GuessOne · parameters 6 · 0:kind 1:w 2:n 3:a 4:b 5:depth 13:g -/
def s15 : S :=
  (.set 12 (.cn (.int .i64 0))
  (.chk (.bn (.cm .lss .i64) (.vr 0) (.cn (.int .i64 0)))
  (.set 16 (.bn (.cm .lss .i64) (.vr 0) (.cn (.int .i64 0)))
  (.chk (.gd (.vr 16) false (.bn (.cm .gtr .i64) (.vr 0) (.cn (.int .i64 9))))
  (.chk (.or (.vr 16) (.bn (.cm .gtr .i64) (.vr 0) (.cn (.int .i64 9))))
  (.set 20 (.or (.vr 16) (.bn (.cm .gtr .i64) (.vr 0) (.cn (.int .i64 9))))
  (.ifg (.vr 20) false
    (.call (some 22) 28 [(.vr 5)] []
    .nil)
    (.set 22 (.cn undef)
    .nil)
  (.chk (.gd (.vr 20) false (.un .not (.vr 22)))
  (.chk (.or (.vr 20) (.un .not (.vr 22)))
  (.set 25 (.or (.vr 20) (.un .not (.vr 22)))
  (.ifg (.vr 25) false
    (.op (some 30) (.buildSlice 22 4 #[(0, (.tmp 26)), (1, (.tmp 27)), (2, (.tmp 28)), (3, (.tmp 29))]) 22 [(26, (.vr 1)), (27, (.vr 2)), (28, (.vr 3)), (29, (.vr 4))] []
    .nil)
    (.set 30 (.cn undef)
    .nil)
  (.ifg (.vr 25) false
    (.call (some 32) 30 [(.vr 30), (.vr 5)] []
    .nil)
    (.set 32 (.cn undef)
    .nil)
  (.chk (.gd (.vr 25) false (.un .not (.vr 32)))
  (.chk (.or (.vr 25) (.un .not (.vr 32)))
  (.set 34 (.or (.vr 25) (.un .not (.vr 32)))
  (.ite (.vr 34)
    (.set 12 (.cn (.int .i64 0))
    .ret)
    .nil
  (.chk (.bn (.ar .add .i64) (.vr 1) (.vr 2))
  (.chk (.bn (.ar .sub .i64) (.bn (.ar .add .i64) (.vr 1) (.vr 2)) (.vr 3))
  (.set 13 (.bn (.ar .sub .i64) (.bn (.ar .add .i64) (.vr 1) (.vr 2)) (.vr 3))
  (.set 40 (.vr 0)
  (.blk 0
    (.chk (.bn (.cm .eql .i64) (.vr 40) (.cn (.int .i64 1)))
    (.set 41 (.bn (.cm .eql .i64) (.vr 40) (.cn (.int .i64 1)))
    (.ite (.vr 41)
      (.set 12 (.vr 1)
      .ret)
      (.chk (.bn (.cm .eql .i64) (.vr 40) (.cn (.int .i64 2)))
      (.set 44 (.bn (.cm .eql .i64) (.vr 40) (.cn (.int .i64 2)))
      (.ite (.vr 44)
        (.set 12 (.vr 2)
        .ret)
        (.chk (.bn (.cm .eql .i64) (.vr 40) (.cn (.int .i64 3)))
        (.set 47 (.bn (.cm .eql .i64) (.vr 40) (.cn (.int .i64 3)))
        (.ite (.vr 47)
          (.set 12 (.vr 3)
          .ret)
          (.chk (.bn (.cm .eql .i64) (.vr 40) (.cn (.int .i64 4)))
          (.set 50 (.bn (.cm .eql .i64) (.vr 40) (.cn (.int .i64 4)))
          (.ite (.vr 50)
            (.set 12 (.vr 4)
            .ret)
            (.chk (.bn (.cm .eql .i64) (.vr 40) (.cn (.int .i64 5)))
            (.set 53 (.bn (.cm .eql .i64) (.vr 40) (.cn (.int .i64 5)))
            (.ite (.vr 53)
              (.chk (.bn (.ar .add .i64) (.vr 1) (.vr 2))
              (.set 12 (.bn (.dv false .i64) (.bn (.ar .add .i64) (.vr 1) (.vr 2)) (.cn (.int .i64 2)))
              .ret))
              (.chk (.bn (.cm .eql .i64) (.vr 40) (.cn (.int .i64 6)))
              (.set 59 (.bn (.cm .eql .i64) (.vr 40) (.cn (.int .i64 6)))
              (.ite (.vr 59)
                (.chk (.bn (.ar .sub .i64) (.vr 1) (.vr 13))
                (.call (some 64) 31 [(.bn (.ar .sub .i64) (.vr 1) (.vr 13))] []
                (.chk (.bn (.ar .sub .i64) (.vr 2) (.vr 13))
                (.call (some 68) 31 [(.bn (.ar .sub .i64) (.vr 2) (.vr 13))] []
                (.chk (.bn (.cm .leq .i64) (.vr 64) (.vr 68))
                (.set 70 (.bn (.cm .leq .i64) (.vr 64) (.vr 68))
                (.chk (.gd (.vr 70) true (.bn (.ar .sub .i64) (.vr 1) (.vr 13)))
                (.ifg (.vr 70) true
                  (.call (some 74) 31 [(.bn (.ar .sub .i64) (.vr 1) (.vr 13))] []
                  .nil)
                  (.set 74 (.cn undef)
                  .nil)
                (.chk (.gd (.vr 70) true (.bn (.ar .sub .i64) (.vr 3) (.vr 13)))
                (.ifg (.vr 70) true
                  (.call (some 78) 31 [(.bn (.ar .sub .i64) (.vr 3) (.vr 13))] []
                  .nil)
                  (.set 78 (.cn undef)
                  .nil)
                (.chk (.gd (.vr 70) true (.bn (.cm .leq .i64) (.vr 74) (.vr 78)))
                (.chk (.and (.vr 70) (.bn (.cm .leq .i64) (.vr 74) (.vr 78)))
                (.set 80 (.and (.vr 70) (.bn (.cm .leq .i64) (.vr 74) (.vr 78)))
                (.ite (.vr 80)
                  (.set 12 (.vr 1)
                  .ret)
                  .nil
                (.chk (.bn (.ar .sub .i64) (.vr 2) (.vr 13))
                (.call (some 85) 31 [(.bn (.ar .sub .i64) (.vr 2) (.vr 13))] []
                (.chk (.bn (.ar .sub .i64) (.vr 3) (.vr 13))
                (.call (some 89) 31 [(.bn (.ar .sub .i64) (.vr 3) (.vr 13))] []
                (.chk (.bn (.cm .leq .i64) (.vr 85) (.vr 89))
                (.set 90 (.bn (.cm .leq .i64) (.vr 85) (.vr 89))
                (.ite (.vr 90)
                  (.set 12 (.vr 2)
                  .ret)
                  .nil
                (.set 12 (.vr 3)
                .ret))))))))))))))))))))))
                (.chk (.bn (.cm .eql .i64) (.vr 40) (.cn (.int .i64 7)))
                (.set 93 (.bn (.cm .eql .i64) (.vr 40) (.cn (.int .i64 7)))
                (.ite (.vr 93)
                  (.chk (.bn (.mn .i64) (.vr 1) (.vr 2))
                  (.chk (.bn (.mx .i64) (.vr 1) (.vr 2))
                  (.chk (.bn (.mn .i64) (.bn (.mx .i64) (.vr 1) (.vr 2)) (.vr 13))
                  (.set 12 (.bn (.mx .i64) (.bn (.mn .i64) (.vr 1) (.vr 2)) (.bn (.mn .i64) (.bn (.mx .i64) (.vr 1) (.vr 2)) (.vr 13)))
                  .ret))))
                  (.chk (.bn (.cm .eql .i64) (.vr 40) (.cn (.int .i64 8)))
                  (.set 104 (.bn (.cm .eql .i64) (.vr 40) (.cn (.int .i64 8)))
                  (.ite (.vr 104)
                    (.chk (.bn (.mx .i64) (.vr 13) (.cn (.int .i64 0)))
                    (.chk (.un (.cv .u64) (.vr 5))
                    (.chk (.bn (.sh true .i64) (.cn (.int .i64 1)) (.un (.cv .u64) (.vr 5)))
                    (.set 12 (.bn (.mn .i64) (.bn (.mx .i64) (.vr 13) (.cn (.int .i64 0))) (.bn (.ar .sub .i64) (.bn (.sh true .i64) (.cn (.int .i64 1)) (.un (.cv .u64) (.vr 5))) (.cn (.int .i64 1))))
                    .ret))))
                    (.chk (.bn (.cm .eql .i64) (.vr 40) (.cn (.int .i64 9)))
                    (.set 113 (.bn (.cm .eql .i64) (.vr 40) (.cn (.int .i64 9)))
                    (.ite (.vr 113)
                      (.chk (.bn (.ar .add .i64) (.vr 1) (.vr 2))
                      (.chk (.bn (.ar .add .i64) (.bn (.ar .add .i64) (.vr 1) (.vr 2)) (.vr 3))
                      (.chk (.bn (.ar .add .i64) (.bn (.ar .add .i64) (.bn (.ar .add .i64) (.vr 1) (.vr 2)) (.vr 3)) (.vr 4))
                      (.set 12 (.bn (.dv false .i64) (.bn (.ar .add .i64) (.bn (.ar .add .i64) (.bn (.ar .add .i64) (.bn (.ar .add .i64) (.vr 1) (.vr 2)) (.vr 3)) (.vr 4)) (.cn (.int .i64 2))) (.cn (.int .i64 4)))
                      .ret))))
                      .nil
                    .nil)))
                  .nil)))
                .nil)))
              .nil)))
            .nil)))
          .nil)))
        .nil)))
      .nil)))
    .nil)))
  (.set 12 (.cn (.int .i64 0))
  .ret))))))))))))))))))))))
def fc15 : Fc := ⟨124, s15, [(.vr 12)]⟩
theorem c15 : compF Try.prog 15 = some fc15 := by kernel_rfl

/-- kinora/kinoralaw23.near · parameters 4 · 0:l 1:w 2:x 3:y 9:a 10:b 11:c 12:d 13:e 14:f 15:g 16:h -/
def s16 : S :=
  (.set 8 (.cn (.bool false))
  (.call (some 22) 32 [(.vr 0), (.vr 1), (.vr 2), (.vr 3)] []
  (.chk (.un (.ex 0) (.vr 22))
  (.chk (.un (.ex 1) (.vr 22))
  (.chk (.un (.ex 2) (.vr 22))
  (.chk (.un (.ex 3) (.vr 22))
  (.set 9 (.un (.ex 0) (.vr 22))
  (.set 10 (.un (.ex 1) (.vr 22))
  (.set 11 (.un (.ex 2) (.vr 22))
  (.set 12 (.un (.ex 3) (.vr 22))
  (.call (some 32) 33 [(.vr 0), (.vr 1), (.vr 2), (.vr 3)] []
  (.chk (.un (.ex 0) (.vr 32))
  (.chk (.un (.ex 1) (.vr 32))
  (.chk (.un (.ex 2) (.vr 32))
  (.chk (.un (.ex 3) (.vr 32))
  (.set 13 (.un (.ex 0) (.vr 32))
  (.set 14 (.un (.ex 1) (.vr 32))
  (.set 15 (.un (.ex 2) (.vr 32))
  (.set 16 (.un (.ex 3) (.vr 32))
  (.chk (.bn (.cm .eql .i64) (.vr 9) (.vr 13))
  (.chk (.gd (.bn (.cm .eql .i64) (.vr 9) (.vr 13)) true (.bn (.cm .eql .i64) (.vr 10) (.vr 14)))
  (.chk (.gd (.and (.bn (.cm .eql .i64) (.vr 9) (.vr 13)) (.bn (.cm .eql .i64) (.vr 10) (.vr 14))) true (.bn (.cm .eql .i64) (.vr 11) (.vr 15)))
  (.chk (.gd (.and (.and (.bn (.cm .eql .i64) (.vr 9) (.vr 13)) (.bn (.cm .eql .i64) (.vr 10) (.vr 14))) (.bn (.cm .eql .i64) (.vr 11) (.vr 15))) true (.bn (.cm .eql .i64) (.vr 12) (.vr 16)))
  (.set 8 (.and (.and (.and (.bn (.cm .eql .i64) (.vr 9) (.vr 13)) (.bn (.cm .eql .i64) (.vr 10) (.vr 14))) (.bn (.cm .eql .i64) (.vr 11) (.vr 15))) (.bn (.cm .eql .i64) (.vr 12) (.vr 16)))
  .ret))))))))))))))))))))))))
def fc16 : Fc := ⟨55, s16, [(.vr 8)]⟩
theorem c16 : compF Try.prog 16 = some fc16 := by kernel_rfl

/-- kinora/kinoralaw23.known · parameters 0 · 1:a 2:e 3:w 4:n 5:x 6:y -/
def s17 : S :=
  (.set 0 (.cn (.bool false))
  (.op (some 8) (.buildSlice 22 4 #[(0, (.const (.int .i64 1))), (1, (.const (.int .i64 2))), (2, (.const (.int .i64 3))), (3, (.const (.int .i64 4)))]) 22 [] []
  (.op (some 9) (.buildSlice 22 2 #[(0, (.const (.int .i64 1))), (1, (.const (.int .i64 2)))]) 22 [] []
  (.call (some 10) 19 [(.vr 8), (.cn (.int .i64 2)), (.cn (.int .i64 2)), (.cn (.int .i64 4)), (.vr 9)] []
  (.chk (.un (.ex 0) (.vr 10))
  (.chk (.un (.ex 1) (.vr 10))
  (.set 1 (.un (.ex 0) (.vr 10))
  (.set 2 (.un (.ex 1) (.vr 10))
  (.op (some 14) (.buildSlice 22 3 #[(0, (.const (.int .i64 1))), (1, (.const (.int .i64 2))), (2, (.const (.int .i64 3)))]) 22 [] []
  (.call (some 15) 32 [(.vr 14), (.cn (.int .i64 2)), (.cn (.int .i64 1)), (.cn (.int .i64 1))] []
  (.chk (.un (.ex 0) (.vr 15))
  (.chk (.un (.ex 1) (.vr 15))
  (.chk (.un (.ex 2) (.vr 15))
  (.chk (.un (.ex 3) (.vr 15))
  (.set 3 (.un (.ex 0) (.vr 15))
  (.set 4 (.un (.ex 1) (.vr 15))
  (.set 5 (.un (.ex 2) (.vr 15))
  (.set 6 (.un (.ex 3) (.vr 15))
  (.chk (.bn (.cm .eql .i64) (.vr 2) (.cn (.int .i64 0)))
  (.set 22 (.bn (.cm .eql .i64) (.vr 2) (.cn (.int .i64 0)))
  (.ifg (.vr 22) true
    (.op (some 24) (.buildSlice 22 4 #[(0, (.const (.int .i64 1))), (1, (.const (.int .i64 1))), (2, (.const (.int .i64 2))), (3, (.const (.int .i64 2)))]) 22 [] []
    .nil)
    (.set 24 (.cn undef)
    .nil)
  (.ifg (.vr 22) true
    (.call (some 25) 21 [(.vr 1), (.vr 24)] []
    .nil)
    (.set 25 (.cn undef)
    .nil)
  (.chk (.pk (.vr 22) (.vr 25) (.cn (.bool false)))
  (.set 27 (.pk (.vr 22) (.vr 25) (.cn (.bool false)))
  (.chk (.gd (.vr 27) true (.bn (.cm .eql .i64) (.vr 3) (.cn (.int .i64 3))))
  (.chk (.and (.vr 27) (.bn (.cm .eql .i64) (.vr 3) (.cn (.int .i64 3))))
  (.set 31 (.and (.vr 27) (.bn (.cm .eql .i64) (.vr 3) (.cn (.int .i64 3))))
  (.chk (.gd (.vr 31) true (.bn (.cm .eql .i64) (.vr 4) (.cn (.int .i64 2))))
  (.chk (.and (.vr 31) (.bn (.cm .eql .i64) (.vr 4) (.cn (.int .i64 2))))
  (.set 35 (.and (.vr 31) (.bn (.cm .eql .i64) (.vr 4) (.cn (.int .i64 2))))
  (.chk (.gd (.vr 35) true (.bn (.cm .eql .i64) (.vr 5) (.cn (.int .i64 1))))
  (.chk (.and (.vr 35) (.bn (.cm .eql .i64) (.vr 5) (.cn (.int .i64 1))))
  (.set 39 (.and (.vr 35) (.bn (.cm .eql .i64) (.vr 5) (.cn (.int .i64 1))))
  (.chk (.gd (.vr 39) true (.bn (.cm .eql .i64) (.vr 6) (.cn (.int .i64 2))))
  (.chk (.and (.vr 39) (.bn (.cm .eql .i64) (.vr 6) (.cn (.int .i64 2))))
  (.set 43 (.and (.vr 39) (.bn (.cm .eql .i64) (.vr 6) (.cn (.int .i64 2))))
  (.ifg (.vr 43) true
    (.call (some 44) 14 [(.cn (.int .i64 7)), (.cn (.int .i64 3)), (.cn (.int .i64 2)), (.cn (.int .i64 1)), (.cn (.int .i64 2)), (.cn (.int .i64 4))] []
    .nil)
    (.set 44 (.cn undef)
    .nil)
  (.chk (.gd (.vr 43) true (.bn (.cm .eql .i64) (.vr 44) (.cn (.int .i64 3))))
  (.chk (.and (.vr 43) (.bn (.cm .eql .i64) (.vr 44) (.cn (.int .i64 3))))
  (.set 47 (.and (.vr 43) (.bn (.cm .eql .i64) (.vr 44) (.cn (.int .i64 3))))
  (.ifg (.vr 47) true
    (.call (some 48) 14 [(.cn (.int .i64 8)), (.cn (.int .i64 15)), (.cn (.int .i64 15)), (.cn (.int .i64 0)), (.cn (.int .i64 0)), (.cn (.int .i64 4))] []
    .nil)
    (.set 48 (.cn undef)
    .nil)
  (.chk (.gd (.vr 47) true (.bn (.cm .eql .i64) (.vr 48) (.cn (.int .i64 15))))
  (.chk (.and (.vr 47) (.bn (.cm .eql .i64) (.vr 48) (.cn (.int .i64 15))))
  (.set 51 (.and (.vr 47) (.bn (.cm .eql .i64) (.vr 48) (.cn (.int .i64 15))))
  (.ifg (.vr 51) true
    (.op (some 52) (.buildSlice 22 2 #[(0, (.const (.int .i64 15))), (1, (.const (.int .i64 1)))]) 22 [] []
    .nil)
    (.set 52 (.cn undef)
    .nil)
  (.ifg (.vr 51) true
    (.call (some 53) 23 [(.vr 52), (.cn (.int .i64 4))] []
    .nil)
    (.set 53 (.cn undef)
    .nil)
  (.chk (.gd (.vr 51) true (.bn (.cm .eql .i64) (.vr 53) (.cn (.int .i64 2))))
  (.chk (.and (.vr 51) (.bn (.cm .eql .i64) (.vr 53) (.cn (.int .i64 2))))
  (.set 0 (.and (.vr 51) (.bn (.cm .eql .i64) (.vr 53) (.cn (.int .i64 2))))
  .ret)))))))))))))))))))))))))))))))))))))))))))))))))
def fc17 : Fc := ⟨56, s17, [(.vr 0)]⟩
theorem c17 : compF Try.prog 17 = some fc17 := by kernel_rfl

/-- kinora/kinoralaw23.kinds · parameters 2 · 0:t 1:h 5:l 6:i -/
def s18 : S :=
  (.set 4 (.cn (.slice none 0 0))
  (.set 5 (.cn (.slice none 0 0))
  (.set 6 (.cn (.int .i64 0))
  (.blk 0
    (.loop
      (.chk (.bn (.cm .lss .i64) (.vr 6) (.vr 1))
      (.set 9 (.bn (.cm .lss .i64) (.vr 6) (.vr 1))
      (.ite (.vr 9)
        .nil
        (.exit 0)
      (.blk 1
        (.call (some 14) 9 [(.vr 0), (.cn (.int .i64 10))] []
        (.op (some 15) (.buildSlice 22 1 #[(0, (.tmp 14))]) 22 [(14, (.vr 14))] []
        (.op (some 16) (.call ⟨(.builtin .append), #[(.tmp 12), (.tmp 15)], #[22, 22]⟩) 22 [(12, (.vr 5)), (15, (.vr 15))] []
        (.set 5 (.vr 16)
        .nil))))
      (.chk (.bn (.ar .add .i64) (.vr 6) (.cn (.int .i64 1)))
      (.set 6 (.bn (.ar .add .i64) (.vr 6) (.cn (.int .i64 1)))
      .nil)))))))
  (.set 4 (.vr 5)
  .ret)))))
def fc18 : Fc := ⟨18, s18, [(.vr 4)]⟩
theorem c18 : compF Try.prog 18 = some fc18 := by kernel_rfl

/-- kinora/guess.Fore · parameters 5 · 0:l 1:w 2:h 3:depth 4:kinds 12:rest 13:y 14:kind -/
def s19 : S :=
  (.set 10 (.cn (.slice none 0 0))
  (.set 11 (.cn (.int .i64 0))
  (.call (some 19) 34 [(.vr 0), (.vr 1), (.vr 2), (.vr 3)] []
  (.chk (.un .not (.vr 19))
  (.set 21 (.un .not (.vr 19))
  (.ifg (.vr 21) false
    (.call (some 24) 35 [(.vr 4), (.vr 2)] []
    .nil)
    (.set 24 (.cn undef)
    .nil)
  (.chk (.gd (.vr 21) false (.un .not (.vr 24)))
  (.chk (.or (.vr 21) (.un .not (.vr 24)))
  (.set 26 (.or (.vr 21) (.un .not (.vr 24)))
  (.ite (.vr 26)
    (.set 10 (.cn (.slice none 0 0))
    (.set 11 (.cn (.int .i64 1))
    .ret))
    .nil
  (.chk (.un .ln (.vr 0))
  (.op (some 29) (.makeSlice 22 (.const (.int .i64 0)) (.tmp 28)) 22 [(28, (.un .ln (.vr 0)))] []
  (.set 12 (.vr 29)
  (.set 30 (.vr 4)
  (.chk (.un .ln (.vr 30))
  (.set 31 (.un .ln (.vr 30))
  (.set 32 (.cn (.int .i64 0))
  (.blk 0
    (.loop
      (.chk (.bn (.cm .lss .i64) (.vr 32) (.vr 31))
      (.set 33 (.bn (.cm .lss .i64) (.vr 32) (.vr 31))
      (.ite (.vr 33)
        .nil
        (.exit 0)
      (.blk 1
        (.chk (.bn (.ia 1) (.vr 30) (.vr 32))
        (.chk (.ld (.bn (.ia 1) (.vr 30) (.vr 32)))
        (.set 13 (.vr 32)
        (.set 14 (.ld (.bn (.ia 1) (.vr 30) (.vr 32)))
        (.call (some 43) 36 [(.vr 0), (.vr 1), (.vr 13), (.vr 3), (.vr 14)] []
        (.op (some 44) (.call ⟨(.builtin .append), #[(.tmp 37), (.tmp 43)], #[22, 22]⟩) 22 [(37, (.vr 12)), (43, (.vr 43))] []
        (.set 12 (.vr 44)
        .nil)))))))
      (.chk (.bn (.ar .add .i64) (.vr 32) (.cn (.int .i64 1)))
      (.set 32 (.bn (.ar .add .i64) (.vr 32) (.cn (.int .i64 1)))
      .nil)))))))
  (.set 10 (.vr 12)
  (.set 11 (.cn (.int .i64 0))
  .ret))))))))))))))))))))
def fc19 : Fc := ⟨47, s19, [(.vr 10), (.vr 11)]⟩
theorem c19 : compF Try.prog 19 = some fc19 := by kernel_rfl

/-- kinora/guess.Back · parameters 5 · 0:l 1:w 2:h 3:depth 4:kinds 12:plane 13:i 14:x 15:y 16:west 17:north 18:northwest 19:northeast 20:guess -/
def s20 : S :=
  (.set 10 (.cn (.slice none 0 0))
  (.set 11 (.cn (.int .i64 0))
  (.call (some 25) 34 [(.vr 0), (.vr 1), (.vr 2), (.vr 3)] []
  (.chk (.un .not (.vr 25))
  (.set 27 (.un .not (.vr 25))
  (.ifg (.vr 27) false
    (.call (some 30) 35 [(.vr 4), (.vr 2)] []
    .nil)
    (.set 30 (.cn undef)
    .nil)
  (.chk (.gd (.vr 27) false (.un .not (.vr 30)))
  (.chk (.or (.vr 27) (.un .not (.vr 30)))
  (.set 32 (.or (.vr 27) (.un .not (.vr 30)))
  (.ite (.vr 32)
    (.set 10 (.cn (.slice none 0 0))
    (.set 11 (.cn (.int .i64 1))
    .ret))
    .nil
  (.chk (.un .ln (.vr 0))
  (.op (some 35) (.makeSlice 22 (.tmp 34) (.tmp 34)) 22 [(34, (.un .ln (.vr 0))), (34, (.un .ln (.vr 0)))] []
  (.set 12 (.vr 35)
  (.chk (.un .ln (.vr 12))
  (.set 37 (.un .ln (.vr 12))
  (.set 38 (.cn (.int .i64 0))
  (.blk 0
    (.loop
      (.chk (.bn (.cm .lss .i64) (.vr 38) (.vr 37))
      (.set 39 (.bn (.cm .lss .i64) (.vr 38) (.vr 37))
      (.ite (.vr 39)
        .nil
        (.exit 0)
      (.blk 1
        (.set 13 (.vr 38)
        (.draw
        (.chk (.bn (.dv true .i64) (.vr 13) (.vr 1))
        (.chk (.bn (.dv false .i64) (.vr 13) (.vr 1))
        (.set 14 (.bn (.dv true .i64) (.vr 13) (.vr 1))
        (.set 15 (.bn (.dv false .i64) (.vr 13) (.vr 1))
        (.call (some 52) 32 [(.vr 12), (.vr 1), (.vr 14), (.vr 15)] []
        (.chk (.un (.ex 0) (.vr 52))
        (.chk (.un (.ex 1) (.vr 52))
        (.chk (.un (.ex 2) (.vr 52))
        (.chk (.un (.ex 3) (.vr 52))
        (.set 16 (.un (.ex 0) (.vr 52))
        (.set 17 (.un (.ex 1) (.vr 52))
        (.set 18 (.un (.ex 2) (.vr 52))
        (.set 19 (.un (.ex 3) (.vr 52))
        (.chk (.bn (.ia 1) (.vr 4) (.vr 15))
        (.chk (.ld (.bn (.ia 1) (.vr 4) (.vr 15)))
        (.set 60 (.ld (.bn (.ia 1) (.vr 4) (.vr 15)))
        (.call (some 66) 14 [(.vr 60), (.vr 16), (.vr 17), (.vr 18), (.vr 19), (.vr 3)] []
        (.set 20 (.vr 66)
        (.chk (.bn (.ia 1) (.vr 0) (.vr 13))
        (.chk (.ld (.bn (.ia 1) (.vr 0) (.vr 13)))
        (.set 72 (.ld (.bn (.ia 1) (.vr 0) (.vr 13)))
        (.chk (.bn (.ar .add .i64) (.vr 72) (.vr 20))
        (.call (some 76) 37 [(.bn (.ar .add .i64) (.vr 72) (.vr 20)), (.vr 3)] []
        (.chk (.bn (.ia 1) (.vr 12) (.vr 13))
        (.st 1 (.bn (.ia 1) (.vr 12) (.vr 13)) (.vr 76) []
        .nil)))))))))))))))))))))))))))
      (.chk (.bn (.ar .add .i64) (.vr 38) (.cn (.int .i64 1)))
      (.set 38 (.bn (.ar .add .i64) (.vr 38) (.cn (.int .i64 1)))
      .nil)))))))
  (.set 10 (.vr 12)
  (.set 11 (.cn (.int .i64 0))
  .ret)))))))))))))))))))
def fc20 : Fc := ⟨80, s20, [(.vr 10), (.vr 11)]⟩
theorem c20 : compF Try.prog 20 = some fc20 := by kernel_rfl

/-- kinora/kinoraref24.Ints · parameters 2 · 0:a 1:b 5:i -/
def s21 : S :=
  (.set 4 (.cn (.bool false))
  (.chk (.un .ln (.vr 0))
  (.chk (.un .ln (.vr 1))
  (.set 10 (.bn (.cm .neq .i64) (.un .ln (.vr 0)) (.un .ln (.vr 1)))
  (.ite (.vr 10)
    (.set 4 (.cn (.bool false))
    .ret)
    .nil
  (.set 5 (.cn (.int .i64 0))
  (.blk 0
    (.loop
      (.chk (.un .ln (.vr 0))
      (.chk (.bn (.cm .lss .i64) (.vr 5) (.un .ln (.vr 0)))
      (.set 14 (.bn (.cm .lss .i64) (.vr 5) (.un .ln (.vr 0)))
      (.ite (.vr 14)
        .nil
        (.exit 0)
      (.blk 1
        (.draw
        (.chk (.bn (.ia 1) (.vr 0) (.vr 5))
        (.chk (.ld (.bn (.ia 1) (.vr 0) (.vr 5)))
        (.chk (.bn (.ia 1) (.vr 1) (.vr 5))
        (.chk (.ld (.bn (.ia 1) (.vr 1) (.vr 5)))
        (.chk (.bn (.cm .neq .i64) (.ld (.bn (.ia 1) (.vr 0) (.vr 5))) (.ld (.bn (.ia 1) (.vr 1) (.vr 5))))
        (.set 25 (.bn (.cm .neq .i64) (.ld (.bn (.ia 1) (.vr 0) (.vr 5))) (.ld (.bn (.ia 1) (.vr 1) (.vr 5))))
        (.ite (.vr 25)
          (.set 4 (.cn (.bool false))
          .ret)
          .nil
        .nil))))))))
      (.chk (.bn (.ar .add .i64) (.vr 5) (.cn (.int .i64 1)))
      (.set 5 (.bn (.ar .add .i64) (.vr 5) (.cn (.int .i64 1)))
      .nil))))))))
  (.set 4 (.cn (.bool true))
  .ret))))))))
def fc21 : Fc := ⟨26, s21, [(.vr 4)]⟩
theorem c21 : compF Try.prog 21 = some fc21 := by kernel_rfl

/-- kinora/guess.Best · parameters 4 · 0:l 1:w 2:h 3:depth 9:kinds 10:y 11:least 12:kind 13:weight -/
def s22 : S :=
  (.set 8 (.cn (.slice none 0 0))
  (.call (some 18) 34 [(.vr 0), (.vr 1), (.vr 2), (.vr 3)] []
  (.chk (.un .not (.vr 18))
  (.set 19 (.un .not (.vr 18))
  (.ite (.vr 19)
    (.set 8 (.cn (.slice none 0 0))
    .ret)
    .nil
  (.op (some 21) (.makeSlice 22 (.tmp 20) (.tmp 20)) 22 [(20, (.vr 2)), (20, (.vr 2))] []
  (.set 9 (.vr 21)
  (.chk (.un .ln (.vr 9))
  (.set 23 (.un .ln (.vr 9))
  (.set 24 (.cn (.int .i64 0))
  (.blk 0
    (.loop
      (.chk (.bn (.cm .lss .i64) (.vr 24) (.vr 23))
      (.set 25 (.bn (.cm .lss .i64) (.vr 24) (.vr 23))
      (.ite (.vr 25)
        .nil
        (.exit 0)
      (.blk 1
        (.set 10 (.vr 24)
        (.call (some 31) 36 [(.vr 0), (.vr 1), (.vr 10), (.vr 3), (.cn (.int .i64 0))] []
        (.call (some 33) 23 [(.vr 31), (.vr 3)] []
        (.set 11 (.vr 33)
        (.set 12 (.cn (.int .i64 1))
        (.blk 2
          (.loop
            (.chk (.bn (.cm .lss .i64) (.vr 12) (.cn (.int .i64 10)))
            (.set 35 (.bn (.cm .lss .i64) (.vr 12) (.cn (.int .i64 10)))
            (.ite (.vr 35)
              .nil
              (.exit 2)
            (.blk 3
              (.call (some 43) 36 [(.vr 0), (.vr 1), (.vr 10), (.vr 3), (.vr 12)] []
              (.call (some 45) 23 [(.vr 43), (.vr 3)] []
              (.set 13 (.vr 45)
              (.chk (.bn (.cm .lss .i64) (.vr 13) (.vr 11))
              (.set 48 (.bn (.cm .lss .i64) (.vr 13) (.vr 11))
              (.ite (.vr 48)
                (.chk (.bn (.ia 1) (.vr 9) (.vr 10))
                (.st 1 (.bn (.ia 1) (.vr 9) (.vr 10)) (.vr 12) []
                (.set 11 (.vr 13)
                .nil)))
                .nil
              .nil))))))
            (.chk (.bn (.ar .add .i64) (.vr 12) (.cn (.int .i64 1)))
            (.set 12 (.bn (.ar .add .i64) (.vr 12) (.cn (.int .i64 1)))
            .nil)))))))
        .nil))))))
      (.chk (.bn (.ar .add .i64) (.vr 24) (.cn (.int .i64 1)))
      (.set 24 (.bn (.ar .add .i64) (.vr 24) (.cn (.int .i64 1)))
      .nil)))))))
  (.set 8 (.vr 9)
  .ret))))))))))))
def fc22 : Fc := ⟨56, s22, [(.vr 8)]⟩
theorem c22 : compF Try.prog 22 = some fc22 := by kernel_rfl

/-- kinora/guess.Weight · parameters 2 · 0:l 1:depth 5:sum 7:v -/
def s23 : S :=
  (.set 4 (.cn (.int .i64 0))
  (.set 5 (.cn (.int .i64 0))
  (.set 8 (.vr 0)
  (.chk (.un .ln (.vr 8))
  (.set 9 (.un .ln (.vr 8))
  (.set 10 (.cn (.int .i64 0))
  (.blk 0
    (.loop
      (.chk (.bn (.cm .lss .i64) (.vr 10) (.vr 9))
      (.set 11 (.bn (.cm .lss .i64) (.vr 10) (.vr 9))
      (.ite (.vr 11)
        .nil
        (.exit 0)
      (.blk 1
        (.chk (.bn (.ia 1) (.vr 8) (.vr 10))
        (.chk (.ld (.bn (.ia 1) (.vr 8) (.vr 10)))
        (.set 7 (.ld (.bn (.ia 1) (.vr 8) (.vr 10)))
        (.call (some 17) 39 [(.vr 7), (.vr 1)] []
        (.call (some 18) 38 [(.vr 17), (.cn (.int .i64 0))] []
        (.chk (.bn (.ar .add .i64) (.vr 5) (.vr 18))
        (.set 5 (.bn (.ar .add .i64) (.vr 5) (.vr 18))
        .nil)))))))
      (.chk (.bn (.ar .add .i64) (.vr 10) (.cn (.int .i64 1)))
      (.set 10 (.bn (.ar .add .i64) (.vr 10) (.cn (.int .i64 1)))
      .nil)))))))
  (.set 4 (.vr 5)
  .ret))))))))
def fc23 : Fc := ⟨22, s23, [(.vr 4)]⟩
theorem c23 : compF Try.prog 23 = some fc23 := by kernel_rfl

/-- kinora/kinoralaw23.same · parameters 5 · 0:l 1:w 2:h 3:depth 4:k 11:a 12:e 13:b 14:f 15:c 16:g 17:d 18:i -/
def s24 : S :=
  (.set 10 (.cn (.bool false))
  (.call (some 25) 19 [(.vr 0), (.vr 1), (.vr 2), (.vr 3), (.vr 4)] []
  (.chk (.un (.ex 0) (.vr 25))
  (.chk (.un (.ex 1) (.vr 25))
  (.set 11 (.un (.ex 0) (.vr 25))
  (.set 12 (.un (.ex 1) (.vr 25))
  (.call (some 34) 40 [(.vr 0), (.vr 1), (.vr 2), (.vr 3), (.vr 4)] []
  (.chk (.un (.ex 0) (.vr 34))
  (.chk (.un (.ex 1) (.vr 34))
  (.set 13 (.un (.ex 0) (.vr 34))
  (.set 14 (.un (.ex 1) (.vr 34))
  (.call (some 43) 20 [(.vr 0), (.vr 1), (.vr 2), (.vr 3), (.vr 4)] []
  (.chk (.un (.ex 0) (.vr 43))
  (.chk (.un (.ex 1) (.vr 43))
  (.set 15 (.un (.ex 0) (.vr 43))
  (.set 16 (.un (.ex 1) (.vr 43))
  (.call (some 52) 41 [(.vr 0), (.vr 1), (.vr 2), (.vr 3), (.vr 4)] []
  (.chk (.un (.ex 0) (.vr 52))
  (.chk (.un (.ex 1) (.vr 52))
  (.set 17 (.un (.ex 0) (.vr 52))
  (.set 18 (.un (.ex 1) (.vr 52))
  (.call (some 57) 21 [(.vr 11), (.vr 13)] []
  (.set 58 (.vr 57)
  (.chk (.gd (.vr 58) true (.bn (.cm .eql .i64) (.vr 12) (.vr 14)))
  (.chk (.and (.vr 58) (.bn (.cm .eql .i64) (.vr 12) (.vr 14)))
  (.set 63 (.and (.vr 58) (.bn (.cm .eql .i64) (.vr 12) (.vr 14)))
  (.ifg (.vr 63) true
    (.call (some 66) 21 [(.vr 15), (.vr 17)] []
    .nil)
    (.set 66 (.cn undef)
    .nil)
  (.chk (.pk (.vr 63) (.vr 66) (.cn (.bool false)))
  (.set 68 (.pk (.vr 63) (.vr 66) (.cn (.bool false)))
  (.chk (.gd (.vr 68) true (.bn (.cm .eql .i64) (.vr 16) (.vr 18)))
  (.chk (.and (.vr 68) (.bn (.cm .eql .i64) (.vr 16) (.vr 18)))
  (.set 10 (.and (.vr 68) (.bn (.cm .eql .i64) (.vr 16) (.vr 18)))
  .ret))))))))))))))))))))))))))))))))
def fc24 : Fc := ⟨73, s24, [(.vr 10)]⟩
theorem c24 : compF Try.prog 24 = some fc24 := by kernel_rfl

/-- kinora/kinoraref24.GuessBest · parameters 4 · 0:l 1:w 2:h 3:depth 9:best 10:least 11:kind 12:kinds 13:y 14:rest 16:y 17:n -/
def s25 : S :=
  (.set 8 (.cn (.slice none 0 0))
  (.call (some 22) 42 [(.vr 0), (.vr 1), (.vr 2), (.vr 3)] []
  (.chk (.un .not (.vr 22))
  (.set 23 (.un .not (.vr 22))
  (.ite (.vr 23)
    (.set 8 (.cn (.slice none 0 0))
    .ret)
    .nil
  (.sq
    (.draw
    (.alt
      (.op (some 25) (.makeSlice 22 (.tmp 24) (.tmp 24)) 22 [(24, (.vr 2)), (24, (.vr 2))] []
      (.set 9 (.vr 25)
      (.op (some 27) (.makeSlice 22 (.tmp 26) (.tmp 26)) 22 [(26, (.vr 2)), (26, (.vr 2))] []
      (.set 10 (.vr 27)
      .nil))))
      (.op (some 27) (.makeSlice 22 (.tmp 26) (.tmp 26)) 22 [(26, (.vr 2)), (26, (.vr 2))] []
      (.op (some 25) (.makeSlice 22 (.tmp 24) (.tmp 24)) 22 [(24, (.vr 2)), (24, (.vr 2))] []
      (.set 9 (.vr 25)
      (.set 10 (.vr 27)
      .nil))))))
  (.set 11 (.cn (.int .i64 0))
  (.blk 0
    (.loop
      (.chk (.bn (.cm .leq .i64) (.vr 11) (.cn (.int .i64 9)))
      (.set 29 (.bn (.cm .leq .i64) (.vr 11) (.cn (.int .i64 9)))
      (.ite (.vr 29)
        .nil
        (.exit 0)
      (.blk 1
        (.op (some 33) (.makeSlice 22 (.tmp 32) (.tmp 32)) 22 [(32, (.vr 2)), (32, (.vr 2))] []
        (.set 12 (.vr 33)
        (.set 13 (.cn (.int .i64 0))
        (.blk 2
          (.loop
            (.chk (.bn (.cm .lss .i64) (.vr 13) (.vr 2))
            (.set 36 (.bn (.cm .lss .i64) (.vr 13) (.vr 2))
            (.ite (.vr 36)
              .nil
              (.exit 2)
            (.blk 3
              (.chk (.bn (.ia 1) (.vr 12) (.vr 13))
              (.st 1 (.bn (.ia 1) (.vr 12) (.vr 13)) (.vr 11) []
              .nil))
            (.chk (.bn (.ar .add .i64) (.vr 13) (.cn (.int .i64 1)))
            (.set 13 (.bn (.ar .add .i64) (.vr 13) (.cn (.int .i64 1)))
            .nil)))))))
        (.call (some 49) 40 [(.vr 0), (.vr 1), (.vr 2), (.vr 3), (.vr 12)] []
        (.chk (.un (.ex 0) (.vr 49))
        (.chk (.un (.ex 1) (.vr 49))
        (.set 14 (.un (.ex 0) (.vr 49))
        (.set 16 (.cn (.int .i64 0))
        (.blk 4
          (.loop
            (.chk (.bn (.cm .lss .i64) (.vr 16) (.vr 2))
            (.set 54 (.bn (.cm .lss .i64) (.vr 16) (.vr 2))
            (.ite (.vr 54)
              .nil
              (.exit 4)
            (.blk 5
              (.chk (.bn (.ar .mul .i64) (.vr 16) (.vr 1))
              (.chk (.bn (.ar .add .i64) (.vr 16) (.cn (.int .i64 1)))
              (.chk (.bn (.ar .mul .i64) (.bn (.ar .add .i64) (.vr 16) (.cn (.int .i64 1))) (.vr 1))
              (.chk (.sl 1 true (.vr 14) (.bn (.ar .mul .i64) (.vr 16) (.vr 1)) (.bn (.ar .mul .i64) (.bn (.ar .add .i64) (.vr 16) (.cn (.int .i64 1))) (.vr 1)))
              (.call (some 67) 26 [(.sl 1 true (.vr 14) (.bn (.ar .mul .i64) (.vr 16) (.vr 1)) (.bn (.ar .mul .i64) (.bn (.ar .add .i64) (.vr 16) (.cn (.int .i64 1))) (.vr 1))), (.vr 3)] []
              (.set 17 (.vr 67)
              (.chk (.bn (.cm .eql .i64) (.vr 11) (.cn (.int .i64 0)))
              (.chk (.gd (.bn (.cm .eql .i64) (.vr 11) (.cn (.int .i64 0))) false (.bn (.ia 1) (.vr 10) (.vr 16)))
              (.chk (.gd (.bn (.cm .eql .i64) (.vr 11) (.cn (.int .i64 0))) false (.ld (.bn (.ia 1) (.vr 10) (.vr 16))))
              (.chk (.gd (.bn (.cm .eql .i64) (.vr 11) (.cn (.int .i64 0))) false (.bn (.cm .lss .i64) (.vr 17) (.ld (.bn (.ia 1) (.vr 10) (.vr 16)))))
              (.set 77 (.or (.bn (.cm .eql .i64) (.vr 11) (.cn (.int .i64 0))) (.bn (.cm .lss .i64) (.vr 17) (.ld (.bn (.ia 1) (.vr 10) (.vr 16)))))
              (.ite (.vr 77)
                (.chk (.bn (.ia 1) (.vr 9) (.vr 16))
                (.st 1 (.bn (.ia 1) (.vr 9) (.vr 16)) (.vr 11) []
                (.chk (.bn (.ia 1) (.vr 10) (.vr 16))
                (.st 1 (.bn (.ia 1) (.vr 10) (.vr 16)) (.vr 17) []
                .nil))))
                .nil
              .nil))))))))))))
            (.chk (.bn (.ar .add .i64) (.vr 16) (.cn (.int .i64 1)))
            (.set 16 (.bn (.ar .add .i64) (.vr 16) (.cn (.int .i64 1)))
            .nil)))))))
        .nil))))))))))
      (.chk (.bn (.ar .add .i64) (.vr 11) (.cn (.int .i64 1)))
      (.set 11 (.bn (.ar .add .i64) (.vr 11) (.cn (.int .i64 1)))
      .nil)))))))
  (.set 8 (.vr 9)
  .ret)))))))))
def fc25 : Fc := ⟨87, s25, [(.vr 8)]⟩
theorem c25 : compF Try.prog 25 = some fc25 := by kernel_rfl

/-- kinora/kinoraref24.GuessWeight · parameters 2 · 0:l 1:depth 5:n 6:i -/
def s26 : S :=
  (.set 4 (.cn (.int .i64 0))
  (.set 5 (.cn (.int .i64 0))
  (.set 6 (.cn (.int .i64 0))
  (.blk 0
    (.loop
      (.chk (.un .ln (.vr 0))
      (.chk (.bn (.cm .lss .i64) (.vr 6) (.un .ln (.vr 0)))
      (.set 10 (.bn (.cm .lss .i64) (.vr 6) (.un .ln (.vr 0)))
      (.ite (.vr 10)
        .nil
        (.exit 0)
      (.blk 1
        (.chk (.bn (.ia 1) (.vr 0) (.vr 6))
        (.chk (.ld (.bn (.ia 1) (.vr 0) (.vr 6)))
        (.set 17 (.ld (.bn (.ia 1) (.vr 0) (.vr 6)))
        (.call (some 19) 43 [(.vr 17), (.vr 1)] []
        (.call (some 20) 31 [(.vr 19)] []
        (.chk (.bn (.ar .add .i64) (.vr 5) (.vr 20))
        (.set 5 (.bn (.ar .add .i64) (.vr 5) (.vr 20))
        .nil)))))))
      (.chk (.bn (.ar .add .i64) (.vr 6) (.cn (.int .i64 1)))
      (.set 6 (.bn (.ar .add .i64) (.vr 6) (.cn (.int .i64 1)))
      .nil))))))))
  (.set 4 (.vr 5)
  .ret)))))
def fc26 : Fc := ⟨23, s26, [(.vr 4)]⟩
theorem c26 : compF Try.prog 26 = some fc26 := by kernel_rfl

/-- (*kinora/kinorakeep2.row).next · parameters 2 · 0:r 1:n -/
def s27 : S :=
  (.set 4 (.cn (.int .i64 0))
  (.chk (.un .nck (.vr 0))
  (.chk (.un (.fa 0) (.un .nck (.vr 0)))
  (.chk (.ld (.un (.fa 0) (.un .nck (.vr 0))))
  (.set 9 (.ld (.un (.fa 0) (.un .nck (.vr 0))))
  (.chk (.bn (.ar .mul .i64) (.vr 9) (.cn (.int .i64 1103515245)))
  (.chk (.un .nck (.vr 0))
  (.chk (.un (.fa 0) (.un .nck (.vr 0)))
  (.st 1 (.un (.fa 0) (.un .nck (.vr 0))) (.bn (.bt .and .i64) (.bn (.ar .add .i64) (.bn (.ar .mul .i64) (.vr 9) (.cn (.int .i64 1103515245))) (.cn (.int .i64 12345))) (.cn (.int .i64 2147483647))) []
  (.chk (.un .nck (.vr 0))
  (.chk (.un (.fa 0) (.un .nck (.vr 0)))
  (.chk (.ld (.un (.fa 0) (.un .nck (.vr 0))))
  (.chk (.bn (.sh false .i64) (.ld (.un (.fa 0) (.un .nck (.vr 0)))) (.cn (.int .u64 8)))
  (.chk (.bn (.dv true .i64) (.bn (.sh false .i64) (.ld (.un (.fa 0) (.un .nck (.vr 0)))) (.cn (.int .u64 8))) (.vr 1))
  (.set 4 (.bn (.dv true .i64) (.bn (.sh false .i64) (.ld (.un (.fa 0) (.un .nck (.vr 0)))) (.cn (.int .u64 8))) (.vr 1))
  .ret)))))))))))))))
def fc27 : Fc := ⟨22, s27, [(.vr 4)]⟩
theorem c27 : compF Try.prog 27 = some fc27 := by kernel_rfl

/-- kinora/kinoraref24.Depth · parameters 1 · 0:n -/
def s28 : S :=
  (.set 2 (.cn (.bool false))
  (.chk (.bn (.cm .geq .i64) (.vr 0) (.cn (.int .i64 1)))
  (.chk (.gd (.bn (.cm .geq .i64) (.vr 0) (.cn (.int .i64 1))) true (.bn (.cm .leq .i64) (.vr 0) (.cn (.int .i64 16))))
  (.set 2 (.and (.bn (.cm .geq .i64) (.vr 0) (.cn (.int .i64 1))) (.bn (.cm .leq .i64) (.vr 0) (.cn (.int .i64 16))))
  .ret))))
def fc28 : Fc := ⟨9, s28, [(.vr 2)]⟩
theorem c28 : compF Try.prog 28 = some fc28 := by kernel_rfl

/-- kinora/guess.nearest · parameters 2 · 0:target 1:choices 5:best 7:c -/
def s29 : S :=
  (.set 4 (.cn (.int .i64 0))
  (.chk (.bn (.ia 1) (.vr 1) (.cn (.int .i64 0)))
  (.chk (.ld (.bn (.ia 1) (.vr 1) (.cn (.int .i64 0))))
  (.set 5 (.ld (.bn (.ia 1) (.vr 1) (.cn (.int .i64 0))))
  (.set 11 (.vr 1)
  (.chk (.un .ln (.vr 11))
  (.set 12 (.un .ln (.vr 11))
  (.set 13 (.cn (.int .i64 0))
  (.blk 0
    (.loop
      (.chk (.bn (.cm .lss .i64) (.vr 13) (.vr 12))
      (.set 14 (.bn (.cm .lss .i64) (.vr 13) (.vr 12))
      (.ite (.vr 14)
        .nil
        (.exit 0)
      (.blk 1
        (.chk (.bn (.ia 1) (.vr 11) (.vr 13))
        (.chk (.ld (.bn (.ia 1) (.vr 11) (.vr 13)))
        (.set 7 (.ld (.bn (.ia 1) (.vr 11) (.vr 13)))
        (.call (some 19) 38 [(.vr 7), (.vr 0)] []
        (.call (some 22) 38 [(.vr 5), (.vr 0)] []
        (.chk (.bn (.cm .lss .i64) (.vr 19) (.vr 22))
        (.set 23 (.bn (.cm .lss .i64) (.vr 19) (.vr 22))
        (.ite (.vr 23)
          (.set 5 (.vr 7)
          .nil)
          .nil
        .nil))))))))
      (.chk (.bn (.ar .add .i64) (.vr 13) (.cn (.int .i64 1)))
      (.set 13 (.bn (.ar .add .i64) (.vr 13) (.cn (.int .i64 1)))
      .nil)))))))
  (.set 4 (.vr 5)
  .ret))))))))))
def fc29 : Fc := ⟨27, s29, [(.vr 4)]⟩
theorem c29 : compF Try.prog 29 = some fc29 := by kernel_rfl

/-- kinora/kinoraref24.Within · parameters 2 · 0:l 1:depth 5:i -/
def s30 : S :=
  (.set 4 (.cn (.bool false))
  (.set 5 (.cn (.int .i64 0))
  (.blk 0
    (.loop
      (.chk (.un .ln (.vr 0))
      (.chk (.bn (.cm .lss .i64) (.vr 5) (.un .ln (.vr 0)))
      (.set 9 (.bn (.cm .lss .i64) (.vr 5) (.un .ln (.vr 0)))
      (.ite (.vr 9)
        .nil
        (.exit 0)
      (.blk 1
        (.chk (.bn (.ia 1) (.vr 0) (.vr 5))
        (.chk (.ld (.bn (.ia 1) (.vr 0) (.vr 5)))
        (.chk (.bn (.cm .lss .i64) (.ld (.bn (.ia 1) (.vr 0) (.vr 5))) (.cn (.int .i64 0)))
        (.chk (.gd (.bn (.cm .lss .i64) (.ld (.bn (.ia 1) (.vr 0) (.vr 5))) (.cn (.int .i64 0))) false (.bn (.ia 1) (.vr 0) (.vr 5)))
        (.chk (.gd (.bn (.cm .lss .i64) (.ld (.bn (.ia 1) (.vr 0) (.vr 5))) (.cn (.int .i64 0))) false (.ld (.bn (.ia 1) (.vr 0) (.vr 5))))
        (.chk (.gd (.bn (.cm .lss .i64) (.ld (.bn (.ia 1) (.vr 0) (.vr 5))) (.cn (.int .i64 0))) false (.un (.cv .u64) (.vr 1)))
        (.chk (.gd (.bn (.cm .lss .i64) (.ld (.bn (.ia 1) (.vr 0) (.vr 5))) (.cn (.int .i64 0))) false (.bn (.sh true .i64) (.cn (.int .i64 1)) (.un (.cv .u64) (.vr 1))))
        (.chk (.gd (.bn (.cm .lss .i64) (.ld (.bn (.ia 1) (.vr 0) (.vr 5))) (.cn (.int .i64 0))) false (.bn (.cm .geq .i64) (.ld (.bn (.ia 1) (.vr 0) (.vr 5))) (.bn (.sh true .i64) (.cn (.int .i64 1)) (.un (.cv .u64) (.vr 1)))))
        (.set 26 (.or (.bn (.cm .lss .i64) (.ld (.bn (.ia 1) (.vr 0) (.vr 5))) (.cn (.int .i64 0))) (.bn (.cm .geq .i64) (.ld (.bn (.ia 1) (.vr 0) (.vr 5))) (.bn (.sh true .i64) (.cn (.int .i64 1)) (.un (.cv .u64) (.vr 1)))))
        (.ite (.vr 26)
          (.set 4 (.cn (.bool false))
          .ret)
          .nil
        .nil))))))))))
      (.chk (.bn (.ar .add .i64) (.vr 5) (.cn (.int .i64 1)))
      (.set 5 (.bn (.ar .add .i64) (.vr 5) (.cn (.int .i64 1)))
      .nil))))))))
  (.set 4 (.cn (.bool true))
  .ret))))
def fc30 : Fc := ⟨27, s30, [(.vr 4)]⟩
theorem c30 : compF Try.prog 30 = some fc30 := by kernel_rfl

/-- kinora/kinoraref24.far · parameters 1 · 0:n -/
def s31 : S :=
  (.set 2 (.cn (.int .i64 0))
  (.chk (.un (.neg .i64) (.vr 0))
  (.chk (.bn (.mx .i64) (.vr 0) (.un (.neg .i64) (.vr 0)))
  (.set 2 (.bn (.mx .i64) (.vr 0) (.un (.neg .i64) (.vr 0)))
  .ret))))
def fc31 : Fc := ⟨7, s31, [(.vr 2)]⟩
theorem c31 : compF Try.prog 31 = some fc31 := by kernel_rfl

/-- kinora/guess.Near · parameters 4 · 0:l 1:w 2:x 3:y 8:west 9:north 10:northwest 11:northeast 12:at 13:left -/
def s32 : S :=
  (.set 8 (.cn (.int .i64 0))
  (.set 9 (.cn (.int .i64 0))
  (.set 10 (.cn (.int .i64 0))
  (.set 11 (.cn (.int .i64 0))
  (.chk (.bn (.cm .lss .i64) (.vr 1) (.cn (.int .i64 1)))
  (.chk (.gd (.bn (.cm .lss .i64) (.vr 1) (.cn (.int .i64 1))) false (.bn (.cm .gtr .i64) (.vr 1) (.cn (.int .i64 64))))
  (.chk (.gd (.or (.bn (.cm .lss .i64) (.vr 1) (.cn (.int .i64 1))) (.bn (.cm .gtr .i64) (.vr 1) (.cn (.int .i64 64)))) false (.bn (.cm .lss .i64) (.vr 2) (.cn (.int .i64 0))))
  (.chk (.gd (.or (.or (.bn (.cm .lss .i64) (.vr 1) (.cn (.int .i64 1))) (.bn (.cm .gtr .i64) (.vr 1) (.cn (.int .i64 64)))) (.bn (.cm .lss .i64) (.vr 2) (.cn (.int .i64 0)))) false (.bn (.cm .geq .i64) (.vr 2) (.vr 1)))
  (.chk (.gd (.or (.or (.or (.bn (.cm .lss .i64) (.vr 1) (.cn (.int .i64 1))) (.bn (.cm .gtr .i64) (.vr 1) (.cn (.int .i64 64)))) (.bn (.cm .lss .i64) (.vr 2) (.cn (.int .i64 0)))) (.bn (.cm .geq .i64) (.vr 2) (.vr 1))) false (.bn (.cm .lss .i64) (.vr 3) (.cn (.int .i64 0))))
  (.chk (.gd (.or (.or (.or (.or (.bn (.cm .lss .i64) (.vr 1) (.cn (.int .i64 1))) (.bn (.cm .gtr .i64) (.vr 1) (.cn (.int .i64 64)))) (.bn (.cm .lss .i64) (.vr 2) (.cn (.int .i64 0)))) (.bn (.cm .geq .i64) (.vr 2) (.vr 1))) (.bn (.cm .lss .i64) (.vr 3) (.cn (.int .i64 0)))) false (.bn (.cm .geq .i64) (.vr 3) (.cn (.int .i64 64))))
  (.chk (.gd (.or (.or (.or (.or (.or (.bn (.cm .lss .i64) (.vr 1) (.cn (.int .i64 1))) (.bn (.cm .gtr .i64) (.vr 1) (.cn (.int .i64 64)))) (.bn (.cm .lss .i64) (.vr 2) (.cn (.int .i64 0)))) (.bn (.cm .geq .i64) (.vr 2) (.vr 1))) (.bn (.cm .lss .i64) (.vr 3) (.cn (.int .i64 0)))) (.bn (.cm .geq .i64) (.vr 3) (.cn (.int .i64 64)))) false (.un .ln (.vr 0)))
  (.chk (.gd (.or (.or (.or (.or (.or (.bn (.cm .lss .i64) (.vr 1) (.cn (.int .i64 1))) (.bn (.cm .gtr .i64) (.vr 1) (.cn (.int .i64 64)))) (.bn (.cm .lss .i64) (.vr 2) (.cn (.int .i64 0)))) (.bn (.cm .geq .i64) (.vr 2) (.vr 1))) (.bn (.cm .lss .i64) (.vr 3) (.cn (.int .i64 0)))) (.bn (.cm .geq .i64) (.vr 3) (.cn (.int .i64 64)))) false (.bn (.ar .mul .i64) (.vr 3) (.vr 1)))
  (.chk (.gd (.or (.or (.or (.or (.or (.bn (.cm .lss .i64) (.vr 1) (.cn (.int .i64 1))) (.bn (.cm .gtr .i64) (.vr 1) (.cn (.int .i64 64)))) (.bn (.cm .lss .i64) (.vr 2) (.cn (.int .i64 0)))) (.bn (.cm .geq .i64) (.vr 2) (.vr 1))) (.bn (.cm .lss .i64) (.vr 3) (.cn (.int .i64 0)))) (.bn (.cm .geq .i64) (.vr 3) (.cn (.int .i64 64)))) false (.bn (.ar .add .i64) (.bn (.ar .mul .i64) (.vr 3) (.vr 1)) (.vr 2)))
  (.set 46 (.or (.or (.or (.or (.or (.or (.bn (.cm .lss .i64) (.vr 1) (.cn (.int .i64 1))) (.bn (.cm .gtr .i64) (.vr 1) (.cn (.int .i64 64)))) (.bn (.cm .lss .i64) (.vr 2) (.cn (.int .i64 0)))) (.bn (.cm .geq .i64) (.vr 2) (.vr 1))) (.bn (.cm .lss .i64) (.vr 3) (.cn (.int .i64 0)))) (.bn (.cm .geq .i64) (.vr 3) (.cn (.int .i64 64)))) (.bn (.cm .lss .i64) (.un .ln (.vr 0)) (.bn (.ar .add .i64) (.bn (.ar .mul .i64) (.vr 3) (.vr 1)) (.vr 2))))
  (.ite (.vr 46)
    (.set 8 (.cn (.int .i64 0))
    (.set 9 (.cn (.int .i64 0))
    (.set 10 (.cn (.int .i64 0))
    (.set 11 (.cn (.int .i64 0))
    .ret))))
    .nil
  (.chk (.bn (.ar .mul .i64) (.vr 3) (.vr 1))
  (.chk (.bn (.ar .add .i64) (.bn (.ar .mul .i64) (.vr 3) (.vr 1)) (.vr 2))
  (.set 12 (.bn (.ar .add .i64) (.bn (.ar .mul .i64) (.vr 3) (.vr 1)) (.vr 2))
  (.chk (.bn (.cm .eql .i64) (.vr 3) (.cn (.int .i64 0)))
  (.set 53 (.bn (.cm .eql .i64) (.vr 3) (.cn (.int .i64 0)))
  (.ite (.vr 53)
    (.chk (.bn (.cm .eql .i64) (.vr 2) (.cn (.int .i64 0)))
    (.set 55 (.bn (.cm .eql .i64) (.vr 2) (.cn (.int .i64 0)))
    (.ite (.vr 55)
      (.set 8 (.cn (.int .i64 0))
      (.set 9 (.cn (.int .i64 0))
      (.set 10 (.cn (.int .i64 0))
      (.set 11 (.cn (.int .i64 0))
      .ret))))
      .nil
    (.chk (.bn (.ar .sub .i64) (.vr 12) (.cn (.int .i64 1)))
    (.chk (.bn (.ia 1) (.vr 0) (.bn (.ar .sub .i64) (.vr 12) (.cn (.int .i64 1))))
    (.chk (.ld (.bn (.ia 1) (.vr 0) (.bn (.ar .sub .i64) (.vr 12) (.cn (.int .i64 1)))))
    (.set 13 (.ld (.bn (.ia 1) (.vr 0) (.bn (.ar .sub .i64) (.vr 12) (.cn (.int .i64 1)))))
    (.set 8 (.vr 13)
    (.set 9 (.vr 13)
    (.set 10 (.vr 13)
    (.set 11 (.vr 13)
    .ret)))))))))))
    .nil
  (.chk (.bn (.ar .sub .i64) (.vr 12) (.vr 1))
  (.chk (.bn (.ia 1) (.vr 0) (.bn (.ar .sub .i64) (.vr 12) (.vr 1)))
  (.chk (.ld (.bn (.ia 1) (.vr 0) (.bn (.ar .sub .i64) (.vr 12) (.vr 1))))
  (.set 9 (.ld (.bn (.ia 1) (.vr 0) (.bn (.ar .sub .i64) (.vr 12) (.vr 1))))
  (.set 8 (.vr 9)
  (.set 10 (.vr 9)
  (.set 11 (.vr 9)
  (.chk (.bn (.cm .gtr .i64) (.vr 2) (.cn (.int .i64 0)))
  (.set 75 (.bn (.cm .gtr .i64) (.vr 2) (.cn (.int .i64 0)))
  (.ite (.vr 75)
    (.draw
    (.chk (.bn (.ar .sub .i64) (.vr 12) (.cn (.int .i64 1)))
    (.chk (.bn (.ia 1) (.vr 0) (.bn (.ar .sub .i64) (.vr 12) (.cn (.int .i64 1))))
    (.chk (.ld (.bn (.ia 1) (.vr 0) (.bn (.ar .sub .i64) (.vr 12) (.cn (.int .i64 1)))))
    (.chk (.bn (.ar .sub .i64) (.vr 12) (.vr 1))
    (.chk (.bn (.ia 1) (.vr 0) (.bn (.ar .sub .i64) (.bn (.ar .sub .i64) (.vr 12) (.vr 1)) (.cn (.int .i64 1))))
    (.chk (.ld (.bn (.ia 1) (.vr 0) (.bn (.ar .sub .i64) (.bn (.ar .sub .i64) (.vr 12) (.vr 1)) (.cn (.int .i64 1)))))
    (.set 8 (.ld (.bn (.ia 1) (.vr 0) (.bn (.ar .sub .i64) (.vr 12) (.cn (.int .i64 1)))))
    (.set 10 (.ld (.bn (.ia 1) (.vr 0) (.bn (.ar .sub .i64) (.bn (.ar .sub .i64) (.vr 12) (.vr 1)) (.cn (.int .i64 1)))))
    .nil)))))))))
    .nil
  (.chk (.bn (.ar .sub .i64) (.vr 1) (.cn (.int .i64 1)))
  (.chk (.bn (.cm .lss .i64) (.vr 2) (.bn (.ar .sub .i64) (.vr 1) (.cn (.int .i64 1))))
  (.set 91 (.bn (.cm .lss .i64) (.vr 2) (.bn (.ar .sub .i64) (.vr 1) (.cn (.int .i64 1))))
  (.ite (.vr 91)
    (.chk (.bn (.ar .sub .i64) (.vr 12) (.vr 1))
    (.chk (.bn (.ia 1) (.vr 0) (.bn (.ar .add .i64) (.bn (.ar .sub .i64) (.vr 12) (.vr 1)) (.cn (.int .i64 1))))
    (.chk (.ld (.bn (.ia 1) (.vr 0) (.bn (.ar .add .i64) (.bn (.ar .sub .i64) (.vr 12) (.vr 1)) (.cn (.int .i64 1)))))
    (.set 11 (.ld (.bn (.ia 1) (.vr 0) (.bn (.ar .add .i64) (.bn (.ar .sub .i64) (.vr 12) (.vr 1)) (.cn (.int .i64 1)))))
    .nil))))
    .nil
  (.set 8 (.vr 8)
  (.set 9 (.vr 9)
  (.set 10 (.vr 10)
  (.set 11 (.vr 11)
  .ret)))))))))))))))))))))))))))))))))))))))
def fc32 : Fc := ⟨103, s32, [(.vr 8), (.vr 9), (.vr 10), (.vr 11)]⟩
theorem c32 : compF Try.prog 32 = some fc32 := by kernel_rfl

/-- kinora/kinoraref24.GuessNear · parameters 4 · 0:l 1:w 2:x 3:y 12:at 13:n 14:west 15:a 16:b -/
def s33 : S :=
  (.set 8 (.cn (.int .i64 0))
  (.set 9 (.cn (.int .i64 0))
  (.set 10 (.cn (.int .i64 0))
  (.set 11 (.cn (.int .i64 0))
  (.call (some 18) 44 [(.vr 1)] []
  (.chk (.un .not (.vr 18))
  (.set 20 (.un .not (.vr 18))
  (.chk (.gd (.vr 20) false (.bn (.cm .lss .i64) (.vr 2) (.cn (.int .i64 0))))
  (.chk (.or (.vr 20) (.bn (.cm .lss .i64) (.vr 2) (.cn (.int .i64 0))))
  (.set 24 (.or (.vr 20) (.bn (.cm .lss .i64) (.vr 2) (.cn (.int .i64 0))))
  (.chk (.gd (.vr 24) false (.bn (.cm .geq .i64) (.vr 2) (.vr 1)))
  (.chk (.or (.vr 24) (.bn (.cm .geq .i64) (.vr 2) (.vr 1)))
  (.set 29 (.or (.vr 24) (.bn (.cm .geq .i64) (.vr 2) (.vr 1)))
  (.chk (.gd (.vr 29) false (.bn (.cm .lss .i64) (.vr 3) (.cn (.int .i64 0))))
  (.chk (.or (.vr 29) (.bn (.cm .lss .i64) (.vr 3) (.cn (.int .i64 0))))
  (.set 33 (.or (.vr 29) (.bn (.cm .lss .i64) (.vr 3) (.cn (.int .i64 0))))
  (.chk (.gd (.vr 33) false (.bn (.cm .geq .i64) (.vr 3) (.cn (.int .i64 64))))
  (.chk (.or (.vr 33) (.bn (.cm .geq .i64) (.vr 3) (.cn (.int .i64 64))))
  (.set 37 (.or (.vr 33) (.bn (.cm .geq .i64) (.vr 3) (.cn (.int .i64 64))))
  (.chk (.gd (.vr 37) false (.un .ln (.vr 0)))
  (.chk (.gd (.vr 37) false (.bn (.ar .mul .i64) (.vr 3) (.vr 1)))
  (.chk (.gd (.vr 37) false (.bn (.ar .add .i64) (.bn (.ar .mul .i64) (.vr 3) (.vr 1)) (.vr 2)))
  (.chk (.or (.vr 37) (.bn (.cm .lss .i64) (.un .ln (.vr 0)) (.bn (.ar .add .i64) (.bn (.ar .mul .i64) (.vr 3) (.vr 1)) (.vr 2))))
  (.set 46 (.or (.vr 37) (.bn (.cm .lss .i64) (.un .ln (.vr 0)) (.bn (.ar .add .i64) (.bn (.ar .mul .i64) (.vr 3) (.vr 1)) (.vr 2))))
  (.ite (.vr 46)
    (.set 8 (.cn (.int .i64 0))
    (.set 9 (.cn (.int .i64 0))
    (.set 10 (.cn (.int .i64 0))
    (.set 11 (.cn (.int .i64 0))
    .ret))))
    .nil
  (.chk (.bn (.ar .mul .i64) (.vr 3) (.vr 1))
  (.chk (.bn (.ar .add .i64) (.bn (.ar .mul .i64) (.vr 3) (.vr 1)) (.vr 2))
  (.set 12 (.bn (.ar .add .i64) (.bn (.ar .mul .i64) (.vr 3) (.vr 1)) (.vr 2))
  (.chk (.bn (.cm .eql .i64) (.vr 3) (.cn (.int .i64 0)))
  (.set 53 (.bn (.cm .eql .i64) (.vr 3) (.cn (.int .i64 0)))
  (.ite (.vr 53)
    (.chk (.bn (.cm .eql .i64) (.vr 2) (.cn (.int .i64 0)))
    (.set 55 (.bn (.cm .eql .i64) (.vr 2) (.cn (.int .i64 0)))
    (.ite (.vr 55)
      (.set 8 (.cn (.int .i64 0))
      (.set 9 (.cn (.int .i64 0))
      (.set 10 (.cn (.int .i64 0))
      (.set 11 (.cn (.int .i64 0))
      .ret))))
      .nil
    (.draw
    (.chk (.bn (.ar .sub .i64) (.vr 12) (.cn (.int .i64 1)))
    (.chk (.bn (.ia 1) (.vr 0) (.bn (.ar .sub .i64) (.vr 12) (.cn (.int .i64 1))))
    (.chk (.ld (.bn (.ia 1) (.vr 0) (.bn (.ar .sub .i64) (.vr 12) (.cn (.int .i64 1)))))
    (.chk (.bn (.ar .sub .i64) (.vr 12) (.cn (.int .i64 1)))
    (.chk (.bn (.ia 1) (.vr 0) (.bn (.ar .sub .i64) (.vr 12) (.cn (.int .i64 1))))
    (.chk (.ld (.bn (.ia 1) (.vr 0) (.bn (.ar .sub .i64) (.vr 12) (.cn (.int .i64 1)))))
    (.chk (.bn (.ar .sub .i64) (.vr 12) (.cn (.int .i64 1)))
    (.chk (.bn (.ia 1) (.vr 0) (.bn (.ar .sub .i64) (.vr 12) (.cn (.int .i64 1))))
    (.chk (.ld (.bn (.ia 1) (.vr 0) (.bn (.ar .sub .i64) (.vr 12) (.cn (.int .i64 1)))))
    (.chk (.bn (.ar .sub .i64) (.vr 12) (.cn (.int .i64 1)))
    (.chk (.bn (.ia 1) (.vr 0) (.bn (.ar .sub .i64) (.vr 12) (.cn (.int .i64 1))))
    (.chk (.ld (.bn (.ia 1) (.vr 0) (.bn (.ar .sub .i64) (.vr 12) (.cn (.int .i64 1)))))
    (.set 8 (.ld (.bn (.ia 1) (.vr 0) (.bn (.ar .sub .i64) (.vr 12) (.cn (.int .i64 1)))))
    (.set 9 (.ld (.bn (.ia 1) (.vr 0) (.bn (.ar .sub .i64) (.vr 12) (.cn (.int .i64 1)))))
    (.set 10 (.ld (.bn (.ia 1) (.vr 0) (.bn (.ar .sub .i64) (.vr 12) (.cn (.int .i64 1)))))
    (.set 11 (.ld (.bn (.ia 1) (.vr 0) (.bn (.ar .sub .i64) (.vr 12) (.cn (.int .i64 1)))))
    .ret))))))))))))))))))))
    .nil
  (.chk (.bn (.ar .sub .i64) (.vr 12) (.vr 1))
  (.chk (.bn (.ia 1) (.vr 0) (.bn (.ar .sub .i64) (.vr 12) (.vr 1)))
  (.chk (.ld (.bn (.ia 1) (.vr 0) (.bn (.ar .sub .i64) (.vr 12) (.vr 1))))
  (.set 13 (.ld (.bn (.ia 1) (.vr 0) (.bn (.ar .sub .i64) (.vr 12) (.vr 1))))
  (.set 14 (.vr 13)
  (.set 15 (.vr 13)
  (.set 16 (.vr 13)
  (.chk (.bn (.cm .gtr .i64) (.vr 2) (.cn (.int .i64 0)))
  (.set 86 (.bn (.cm .gtr .i64) (.vr 2) (.cn (.int .i64 0)))
  (.ite (.vr 86)
    (.draw
    (.chk (.bn (.ar .sub .i64) (.vr 12) (.cn (.int .i64 1)))
    (.chk (.bn (.ia 1) (.vr 0) (.bn (.ar .sub .i64) (.vr 12) (.cn (.int .i64 1))))
    (.chk (.ld (.bn (.ia 1) (.vr 0) (.bn (.ar .sub .i64) (.vr 12) (.cn (.int .i64 1)))))
    (.chk (.bn (.ar .sub .i64) (.vr 12) (.vr 1))
    (.chk (.bn (.ia 1) (.vr 0) (.bn (.ar .sub .i64) (.bn (.ar .sub .i64) (.vr 12) (.vr 1)) (.cn (.int .i64 1))))
    (.chk (.ld (.bn (.ia 1) (.vr 0) (.bn (.ar .sub .i64) (.bn (.ar .sub .i64) (.vr 12) (.vr 1)) (.cn (.int .i64 1)))))
    (.set 14 (.ld (.bn (.ia 1) (.vr 0) (.bn (.ar .sub .i64) (.vr 12) (.cn (.int .i64 1)))))
    (.set 15 (.ld (.bn (.ia 1) (.vr 0) (.bn (.ar .sub .i64) (.bn (.ar .sub .i64) (.vr 12) (.vr 1)) (.cn (.int .i64 1)))))
    .nil)))))))))
    .nil
  (.chk (.bn (.ar .sub .i64) (.vr 1) (.cn (.int .i64 1)))
  (.chk (.bn (.cm .lss .i64) (.vr 2) (.bn (.ar .sub .i64) (.vr 1) (.cn (.int .i64 1))))
  (.set 102 (.bn (.cm .lss .i64) (.vr 2) (.bn (.ar .sub .i64) (.vr 1) (.cn (.int .i64 1))))
  (.ite (.vr 102)
    (.chk (.bn (.ar .sub .i64) (.vr 12) (.vr 1))
    (.chk (.bn (.ia 1) (.vr 0) (.bn (.ar .add .i64) (.bn (.ar .sub .i64) (.vr 12) (.vr 1)) (.cn (.int .i64 1))))
    (.chk (.ld (.bn (.ia 1) (.vr 0) (.bn (.ar .add .i64) (.bn (.ar .sub .i64) (.vr 12) (.vr 1)) (.cn (.int .i64 1)))))
    (.set 16 (.ld (.bn (.ia 1) (.vr 0) (.bn (.ar .add .i64) (.bn (.ar .sub .i64) (.vr 12) (.vr 1)) (.cn (.int .i64 1)))))
    .nil))))
    .nil
  (.set 8 (.vr 14)
  (.set 9 (.vr 13)
  (.set 10 (.vr 15)
  (.set 11 (.vr 16)
  .ret)))))))))))))))))))))))))))))))))))))))))))))))))
def fc33 : Fc := ⟨114, s33, [(.vr 8), (.vr 9), (.vr 10), (.vr 11)]⟩
theorem c33 : compF Try.prog 33 = some fc33 := by kernel_rfl

/-- kinora/guess.isPlane · parameters 4 · 0:l 1:w 2:h 3:depth 10:s -/
def s34 : S :=
  (.set 8 (.cn (.bool false))
  (.chk (.bn (.cm .lss .i64) (.vr 1) (.cn (.int .i64 1)))
  (.chk (.gd (.bn (.cm .lss .i64) (.vr 1) (.cn (.int .i64 1))) false (.bn (.cm .gtr .i64) (.vr 1) (.cn (.int .i64 64))))
  (.chk (.gd (.or (.bn (.cm .lss .i64) (.vr 1) (.cn (.int .i64 1))) (.bn (.cm .gtr .i64) (.vr 1) (.cn (.int .i64 64)))) false (.bn (.cm .lss .i64) (.vr 2) (.cn (.int .i64 1))))
  (.chk (.gd (.or (.or (.bn (.cm .lss .i64) (.vr 1) (.cn (.int .i64 1))) (.bn (.cm .gtr .i64) (.vr 1) (.cn (.int .i64 64)))) (.bn (.cm .lss .i64) (.vr 2) (.cn (.int .i64 1)))) false (.bn (.cm .gtr .i64) (.vr 2) (.cn (.int .i64 64))))
  (.chk (.gd (.or (.or (.or (.bn (.cm .lss .i64) (.vr 1) (.cn (.int .i64 1))) (.bn (.cm .gtr .i64) (.vr 1) (.cn (.int .i64 64)))) (.bn (.cm .lss .i64) (.vr 2) (.cn (.int .i64 1)))) (.bn (.cm .gtr .i64) (.vr 2) (.cn (.int .i64 64)))) false (.bn (.cm .lss .i64) (.vr 3) (.cn (.int .i64 1))))
  (.chk (.gd (.or (.or (.or (.or (.bn (.cm .lss .i64) (.vr 1) (.cn (.int .i64 1))) (.bn (.cm .gtr .i64) (.vr 1) (.cn (.int .i64 64)))) (.bn (.cm .lss .i64) (.vr 2) (.cn (.int .i64 1)))) (.bn (.cm .gtr .i64) (.vr 2) (.cn (.int .i64 64)))) (.bn (.cm .lss .i64) (.vr 3) (.cn (.int .i64 1)))) false (.bn (.cm .gtr .i64) (.vr 3) (.cn (.int .i64 16))))
  (.set 32 (.or (.or (.or (.or (.or (.bn (.cm .lss .i64) (.vr 1) (.cn (.int .i64 1))) (.bn (.cm .gtr .i64) (.vr 1) (.cn (.int .i64 64)))) (.bn (.cm .lss .i64) (.vr 2) (.cn (.int .i64 1)))) (.bn (.cm .gtr .i64) (.vr 2) (.cn (.int .i64 64)))) (.bn (.cm .lss .i64) (.vr 3) (.cn (.int .i64 1)))) (.bn (.cm .gtr .i64) (.vr 3) (.cn (.int .i64 16))))
  (.ite (.vr 32)
    (.set 8 (.cn (.bool false))
    .ret)
    .nil
  (.chk (.un .ln (.vr 0))
  (.chk (.bn (.ar .mul .i64) (.vr 1) (.vr 2))
  (.set 38 (.bn (.cm .neq .i64) (.un .ln (.vr 0)) (.bn (.ar .mul .i64) (.vr 1) (.vr 2)))
  (.ite (.vr 38)
    (.set 8 (.cn (.bool false))
    .ret)
    .nil
  (.set 39 (.vr 0)
  (.chk (.un .ln (.vr 39))
  (.set 40 (.un .ln (.vr 39))
  (.set 41 (.cn (.int .i64 0))
  (.blk 0
    (.loop
      (.chk (.bn (.cm .lss .i64) (.vr 41) (.vr 40))
      (.set 42 (.bn (.cm .lss .i64) (.vr 41) (.vr 40))
      (.ite (.vr 42)
        .nil
        (.exit 0)
      (.blk 1
        (.chk (.bn (.ia 1) (.vr 39) (.vr 41))
        (.chk (.ld (.bn (.ia 1) (.vr 39) (.vr 41)))
        (.set 10 (.ld (.bn (.ia 1) (.vr 39) (.vr 41)))
        (.chk (.bn (.cm .lss .i64) (.vr 10) (.cn (.int .i64 0)))
        (.chk (.gd (.bn (.cm .lss .i64) (.vr 10) (.cn (.int .i64 0))) false (.bn (.sh true .i64) (.cn (.int .i64 1)) (.vr 3)))
        (.chk (.gd (.bn (.cm .lss .i64) (.vr 10) (.cn (.int .i64 0))) false (.bn (.cm .geq .i64) (.vr 10) (.bn (.sh true .i64) (.cn (.int .i64 1)) (.vr 3))))
        (.set 52 (.or (.bn (.cm .lss .i64) (.vr 10) (.cn (.int .i64 0))) (.bn (.cm .geq .i64) (.vr 10) (.bn (.sh true .i64) (.cn (.int .i64 1)) (.vr 3))))
        (.ite (.vr 52)
          (.set 8 (.cn (.bool false))
          .ret)
          .nil
        .nil))))))))
      (.chk (.bn (.ar .add .i64) (.vr 41) (.cn (.int .i64 1)))
      (.set 41 (.bn (.ar .add .i64) (.vr 41) (.cn (.int .i64 1)))
      .nil)))))))
  (.set 8 (.cn (.bool true))
  .ret)))))))))))))))))))
def fc34 : Fc := ⟨54, s34, [(.vr 8)]⟩
theorem c34 : compF Try.prog 34 = some fc34 := by kernel_rfl

/-- kinora/guess.areKinds · parameters 2 · 0:kinds 1:h 6:k -/
def s35 : S :=
  (.set 4 (.cn (.bool false))
  (.chk (.un .ln (.vr 0))
  (.chk (.bn (.cm .neq .i64) (.un .ln (.vr 0)) (.vr 1))
  (.set 10 (.bn (.cm .neq .i64) (.un .ln (.vr 0)) (.vr 1))
  (.ite (.vr 10)
    (.set 4 (.cn (.bool false))
    .ret)
    .nil
  (.set 11 (.vr 0)
  (.chk (.un .ln (.vr 11))
  (.set 12 (.un .ln (.vr 11))
  (.set 13 (.cn (.int .i64 0))
  (.blk 0
    (.loop
      (.chk (.bn (.cm .lss .i64) (.vr 13) (.vr 12))
      (.set 14 (.bn (.cm .lss .i64) (.vr 13) (.vr 12))
      (.ite (.vr 14)
        .nil
        (.exit 0)
      (.blk 1
        (.chk (.bn (.ia 1) (.vr 11) (.vr 13))
        (.chk (.ld (.bn (.ia 1) (.vr 11) (.vr 13)))
        (.set 6 (.ld (.bn (.ia 1) (.vr 11) (.vr 13)))
        (.chk (.bn (.cm .lss .i64) (.vr 6) (.cn (.int .i64 0)))
        (.chk (.gd (.bn (.cm .lss .i64) (.vr 6) (.cn (.int .i64 0))) false (.bn (.cm .geq .i64) (.vr 6) (.cn (.int .i64 10))))
        (.set 22 (.or (.bn (.cm .lss .i64) (.vr 6) (.cn (.int .i64 0))) (.bn (.cm .geq .i64) (.vr 6) (.cn (.int .i64 10))))
        (.ite (.vr 22)
          (.set 4 (.cn (.bool false))
          .ret)
          .nil
        .nil)))))))
      (.chk (.bn (.ar .add .i64) (.vr 13) (.cn (.int .i64 1)))
      (.set 13 (.bn (.ar .add .i64) (.vr 13) (.cn (.int .i64 1)))
      .nil)))))))
  (.set 4 (.cn (.bool true))
  .ret)))))))))))
def fc35 : Fc := ⟨24, s35, [(.vr 4)]⟩
theorem c35 : compF Try.prog 35 = some fc35 := by kernel_rfl

/-- kinora/guess.row · parameters 5 · 0:l 1:w 2:y 3:depth 4:kind 11:rest 12:x 13:west 14:north 15:northwest 16:northeast 17:guess -/
def s36 : S :=
  (.set 10 (.cn (.slice none 0 0))
  (.op (some 19) (.makeSlice 22 (.tmp 18) (.tmp 18)) 22 [(18, (.vr 1)), (18, (.vr 1))] []
  (.set 11 (.vr 19)
  (.chk (.un .ln (.vr 11))
  (.set 21 (.un .ln (.vr 11))
  (.set 22 (.cn (.int .i64 0))
  (.blk 0
    (.loop
      (.chk (.bn (.cm .lss .i64) (.vr 22) (.vr 21))
      (.set 23 (.bn (.cm .lss .i64) (.vr 22) (.vr 21))
      (.ite (.vr 23)
        .nil
        (.exit 0)
      (.blk 1
        (.set 12 (.vr 22)
        (.call (some 30) 32 [(.vr 0), (.vr 1), (.vr 12), (.vr 2)] []
        (.chk (.un (.ex 0) (.vr 30))
        (.chk (.un (.ex 1) (.vr 30))
        (.chk (.un (.ex 2) (.vr 30))
        (.chk (.un (.ex 3) (.vr 30))
        (.set 13 (.un (.ex 0) (.vr 30))
        (.set 14 (.un (.ex 1) (.vr 30))
        (.set 15 (.un (.ex 2) (.vr 30))
        (.set 16 (.un (.ex 3) (.vr 30))
        (.call (some 41) 14 [(.vr 4), (.vr 13), (.vr 14), (.vr 15), (.vr 16), (.vr 3)] []
        (.set 17 (.vr 41)
        (.chk (.bn (.ar .mul .i64) (.vr 2) (.vr 1))
        (.chk (.bn (.ar .add .i64) (.bn (.ar .mul .i64) (.vr 2) (.vr 1)) (.vr 12))
        (.chk (.bn (.ia 1) (.vr 0) (.bn (.ar .add .i64) (.bn (.ar .mul .i64) (.vr 2) (.vr 1)) (.vr 12)))
        (.chk (.ld (.bn (.ia 1) (.vr 0) (.bn (.ar .add .i64) (.bn (.ar .mul .i64) (.vr 2) (.vr 1)) (.vr 12))))
        (.set 51 (.ld (.bn (.ia 1) (.vr 0) (.bn (.ar .add .i64) (.bn (.ar .mul .i64) (.vr 2) (.vr 1)) (.vr 12))))
        (.chk (.bn (.ar .sub .i64) (.vr 51) (.vr 17))
        (.call (some 55) 37 [(.bn (.ar .sub .i64) (.vr 51) (.vr 17)), (.vr 3)] []
        (.chk (.bn (.ia 1) (.vr 11) (.vr 12))
        (.st 1 (.bn (.ia 1) (.vr 11) (.vr 12)) (.vr 55) []
        .nil)))))))))))))))))))))
      (.chk (.bn (.ar .add .i64) (.vr 22) (.cn (.int .i64 1)))
      (.set 22 (.bn (.ar .add .i64) (.vr 22) (.cn (.int .i64 1)))
      .nil)))))))
  (.set 10 (.vr 11)
  .ret))))))))
def fc36 : Fc := ⟨59, s36, [(.vr 10)]⟩
theorem c36 : compF Try.prog 36 = some fc36 := by kernel_rfl

/-- kinora/pic.Wrap · parameters 2 · 0:v 1:depth -/
def s37 : S :=
  (.set 4 (.cn (.int .i64 0))
  (.chk (.bn (.cm .lss .i64) (.vr 1) (.cn (.int .i64 1)))
  (.chk (.gd (.bn (.cm .lss .i64) (.vr 1) (.cn (.int .i64 1))) false (.bn (.cm .gtr .i64) (.vr 1) (.cn (.int .i64 16))))
  (.set 10 (.or (.bn (.cm .lss .i64) (.vr 1) (.cn (.int .i64 1))) (.bn (.cm .gtr .i64) (.vr 1) (.cn (.int .i64 16))))
  (.ite (.vr 10)
    (.set 4 (.cn (.int .i64 0))
    .ret)
    .nil
  (.chk (.bn (.sh true .i64) (.cn (.int .i64 1)) (.vr 1))
  (.chk (.bn (.bt .and .i64) (.vr 0) (.bn (.ar .sub .i64) (.bn (.sh true .i64) (.cn (.int .i64 1)) (.vr 1)) (.cn (.int .i64 1))))
  (.set 4 (.bn (.bt .and .i64) (.vr 0) (.bn (.ar .sub .i64) (.bn (.sh true .i64) (.cn (.int .i64 1)) (.vr 1)) (.cn (.int .i64 1))))
  .ret))))))))
def fc37 : Fc := ⟨16, s37, [(.vr 4)]⟩
theorem c37 : compF Try.prog 37 = some fc37 := by kernel_rfl

/-- kinora/guess.distance · parameters 2 · 0:a 1:b -/
def s38 : S :=
  (.set 4 (.cn (.int .i64 0))
  (.chk (.bn (.cm .lss .i64) (.vr 0) (.vr 1))
  (.set 7 (.bn (.cm .lss .i64) (.vr 0) (.vr 1))
  (.ite (.vr 7)
    (.chk (.bn (.ar .sub .i64) (.vr 1) (.vr 0))
    (.set 4 (.bn (.ar .sub .i64) (.vr 1) (.vr 0))
    .ret))
    .nil
  (.chk (.bn (.ar .sub .i64) (.vr 0) (.vr 1))
  (.set 4 (.bn (.ar .sub .i64) (.vr 0) (.vr 1))
  .ret))))))
def fc38 : Fc := ⟨14, s38, [(.vr 4)]⟩
theorem c38 : compF Try.prog 38 = some fc38 := by kernel_rfl

/-- kinora/pic.Fold · parameters 2 · 0:v 1:depth -/
def s39 : S :=
  (.set 4 (.cn (.int .i64 0))
  (.chk (.bn (.cm .lss .i64) (.vr 1) (.cn (.int .i64 1)))
  (.chk (.gd (.bn (.cm .lss .i64) (.vr 1) (.cn (.int .i64 1))) false (.bn (.cm .gtr .i64) (.vr 1) (.cn (.int .i64 16))))
  (.set 10 (.or (.bn (.cm .lss .i64) (.vr 1) (.cn (.int .i64 1))) (.bn (.cm .gtr .i64) (.vr 1) (.cn (.int .i64 16))))
  (.ite (.vr 10)
    (.set 4 (.cn (.int .i64 0))
    .ret)
    .nil
  (.call (some 13) 37 [(.vr 0), (.vr 1)] []
  (.set 0 (.vr 13)
  (.chk (.bn (.ar .sub .i64) (.vr 1) (.cn (.int .i64 1)))
  (.chk (.bn (.sh true .i64) (.cn (.int .i64 1)) (.bn (.ar .sub .i64) (.vr 1) (.cn (.int .i64 1))))
  (.chk (.bn (.cm .geq .i64) (.vr 0) (.bn (.sh true .i64) (.cn (.int .i64 1)) (.bn (.ar .sub .i64) (.vr 1) (.cn (.int .i64 1)))))
  (.set 18 (.bn (.cm .geq .i64) (.vr 0) (.bn (.sh true .i64) (.cn (.int .i64 1)) (.bn (.ar .sub .i64) (.vr 1) (.cn (.int .i64 1)))))
  (.ite (.vr 18)
    (.chk (.bn (.sh true .i64) (.cn (.int .i64 1)) (.vr 1))
    (.chk (.bn (.ar .sub .i64) (.vr 0) (.bn (.sh true .i64) (.cn (.int .i64 1)) (.vr 1)))
    (.set 0 (.bn (.ar .sub .i64) (.vr 0) (.bn (.sh true .i64) (.cn (.int .i64 1)) (.vr 1)))
    .nil)))
    .nil
  (.set 4 (.vr 0)
  .ret)))))))))))))
def fc39 : Fc := ⟨24, s39, [(.vr 4)]⟩
theorem c39 : compF Try.prog 39 = some fc39 := by kernel_rfl

/-- kinora/kinoraref24.GuessFore · parameters 5 · 0:l 1:w 2:h 3:depth 4:kinds 12:out 13:at 14:a 15:b 16:c 17:d -/
def s40 : S :=
  (.set 10 (.cn (.slice none 0 0))
  (.set 11 (.cn (.int .i64 0))
  (.call (some 22) 42 [(.vr 0), (.vr 1), (.vr 2), (.vr 3)] []
  (.chk (.un .not (.vr 22))
  (.set 24 (.un .not (.vr 22))
  (.ifg (.vr 24) false
    (.call (some 27) 45 [(.vr 4), (.vr 2)] []
    .nil)
    (.set 27 (.cn undef)
    .nil)
  (.chk (.gd (.vr 24) false (.un .not (.vr 27)))
  (.chk (.or (.vr 24) (.un .not (.vr 27)))
  (.set 29 (.or (.vr 24) (.un .not (.vr 27)))
  (.ite (.vr 29)
    (.set 10 (.cn (.slice none 0 0))
    (.set 11 (.cn (.int .i64 1))
    .ret))
    .nil
  (.set 12 (.cn (.slice none 0 0))
  (.set 13 (.cn (.int .i64 0))
  (.blk 0
    (.loop
      (.chk (.un .ln (.vr 0))
      (.chk (.bn (.cm .lss .i64) (.vr 13) (.un .ln (.vr 0)))
      (.set 33 (.bn (.cm .lss .i64) (.vr 13) (.un .ln (.vr 0)))
      (.ite (.vr 33)
        .nil
        (.exit 0)
      (.blk 1
        (.draw
        (.chk (.bn (.dv true .i64) (.vr 13) (.vr 1))
        (.chk (.bn (.dv false .i64) (.vr 13) (.vr 1))
        (.call (some 45) 33 [(.vr 0), (.vr 1), (.bn (.dv true .i64) (.vr 13) (.vr 1)), (.bn (.dv false .i64) (.vr 13) (.vr 1))] []
        (.chk (.un (.ex 0) (.vr 45))
        (.chk (.un (.ex 1) (.vr 45))
        (.chk (.un (.ex 2) (.vr 45))
        (.chk (.un (.ex 3) (.vr 45))
        (.set 14 (.un (.ex 0) (.vr 45))
        (.set 15 (.un (.ex 1) (.vr 45))
        (.set 16 (.un (.ex 2) (.vr 45))
        (.set 17 (.un (.ex 3) (.vr 45))
        (.draw
        (.chk (.bn (.ia 1) (.vr 0) (.vr 13))
        (.chk (.ld (.bn (.ia 1) (.vr 0) (.vr 13)))
        (.set 54 (.ld (.bn (.ia 1) (.vr 0) (.vr 13)))
        (.chk (.bn (.dv false .i64) (.vr 13) (.vr 1))
        (.chk (.bn (.ia 1) (.vr 4) (.bn (.dv false .i64) (.vr 13) (.vr 1)))
        (.chk (.ld (.bn (.ia 1) (.vr 4) (.bn (.dv false .i64) (.vr 13) (.vr 1))))
        (.set 60 (.ld (.bn (.ia 1) (.vr 4) (.bn (.dv false .i64) (.vr 13) (.vr 1))))
        (.call (some 66) 15 [(.vr 60), (.vr 14), (.vr 15), (.vr 16), (.vr 17), (.vr 3)] [⟨4, (.bn (.ia 1) (.vr 0) (.vr 13)), 1, none⟩]
        (.chk (.bn (.ar .sub .i64) (.vr 54) (.vr 66))
        (.call (some 69) 13 [(.bn (.ar .sub .i64) (.vr 54) (.vr 66)), (.vr 3)] []
        (.op (some 70) (.buildSlice 22 1 #[(0, (.tmp 69))]) 22 [(69, (.vr 69))] []
        (.op (some 71) (.call ⟨(.builtin .append), #[(.tmp 50), (.tmp 70)], #[22, 22]⟩) 22 [(50, (.vr 12)), (70, (.vr 70))] []
        (.set 12 (.vr 71)
        .nil))))))))))))))))))))))))))
      (.chk (.bn (.ar .add .i64) (.vr 13) (.cn (.int .i64 1)))
      (.set 13 (.bn (.ar .add .i64) (.vr 13) (.cn (.int .i64 1)))
      .nil))))))))
  (.set 10 (.vr 12)
  (.set 11 (.cn (.int .i64 0))
  .ret)))))))))))))))
def fc40 : Fc := ⟨73, s40, [(.vr 10), (.vr 11)]⟩
theorem c40 : compF Try.prog 40 = some fc40 := by kernel_rfl

/-- kinora/kinoraref24.GuessBack · parameters 5 · 0:l 1:w 2:h 3:depth 4:kinds 12:out 13:at 14:a 15:b 16:c 17:d -/
def s41 : S :=
  (.set 10 (.cn (.slice none 0 0))
  (.set 11 (.cn (.int .i64 0))
  (.call (some 22) 42 [(.vr 0), (.vr 1), (.vr 2), (.vr 3)] []
  (.chk (.un .not (.vr 22))
  (.set 24 (.un .not (.vr 22))
  (.ifg (.vr 24) false
    (.call (some 27) 45 [(.vr 4), (.vr 2)] []
    .nil)
    (.set 27 (.cn undef)
    .nil)
  (.chk (.gd (.vr 24) false (.un .not (.vr 27)))
  (.chk (.or (.vr 24) (.un .not (.vr 27)))
  (.set 29 (.or (.vr 24) (.un .not (.vr 27)))
  (.ite (.vr 29)
    (.set 10 (.cn (.slice none 0 0))
    (.set 11 (.cn (.int .i64 1))
    .ret))
    .nil
  (.set 12 (.cn (.slice none 0 0))
  (.set 13 (.cn (.int .i64 0))
  (.blk 0
    (.loop
      (.chk (.un .ln (.vr 0))
      (.chk (.bn (.cm .lss .i64) (.vr 13) (.un .ln (.vr 0)))
      (.set 33 (.bn (.cm .lss .i64) (.vr 13) (.un .ln (.vr 0)))
      (.ite (.vr 33)
        .nil
        (.exit 0)
      (.blk 1
        (.draw
        (.chk (.bn (.dv true .i64) (.vr 13) (.vr 1))
        (.chk (.bn (.dv false .i64) (.vr 13) (.vr 1))
        (.call (some 45) 33 [(.vr 12), (.vr 1), (.bn (.dv true .i64) (.vr 13) (.vr 1)), (.bn (.dv false .i64) (.vr 13) (.vr 1))] []
        (.chk (.un (.ex 0) (.vr 45))
        (.chk (.un (.ex 1) (.vr 45))
        (.chk (.un (.ex 2) (.vr 45))
        (.chk (.un (.ex 3) (.vr 45))
        (.set 14 (.un (.ex 0) (.vr 45))
        (.set 15 (.un (.ex 1) (.vr 45))
        (.set 16 (.un (.ex 2) (.vr 45))
        (.set 17 (.un (.ex 3) (.vr 45))
        (.draw
        (.chk (.bn (.ia 1) (.vr 0) (.vr 13))
        (.chk (.ld (.bn (.ia 1) (.vr 0) (.vr 13)))
        (.set 54 (.ld (.bn (.ia 1) (.vr 0) (.vr 13)))
        (.chk (.bn (.dv false .i64) (.vr 13) (.vr 1))
        (.chk (.bn (.ia 1) (.vr 4) (.bn (.dv false .i64) (.vr 13) (.vr 1)))
        (.chk (.ld (.bn (.ia 1) (.vr 4) (.bn (.dv false .i64) (.vr 13) (.vr 1))))
        (.set 60 (.ld (.bn (.ia 1) (.vr 4) (.bn (.dv false .i64) (.vr 13) (.vr 1))))
        (.call (some 66) 15 [(.vr 60), (.vr 14), (.vr 15), (.vr 16), (.vr 17), (.vr 3)] [⟨4, (.bn (.ia 1) (.vr 0) (.vr 13)), 1, none⟩]
        (.chk (.bn (.ar .add .i64) (.vr 54) (.vr 66))
        (.call (some 69) 13 [(.bn (.ar .add .i64) (.vr 54) (.vr 66)), (.vr 3)] []
        (.op (some 70) (.buildSlice 22 1 #[(0, (.tmp 69))]) 22 [(69, (.vr 69))] []
        (.op (some 71) (.call ⟨(.builtin .append), #[(.tmp 50), (.tmp 70)], #[22, 22]⟩) 22 [(50, (.vr 12)), (70, (.vr 70))] []
        (.set 12 (.vr 71)
        .nil))))))))))))))))))))))))))
      (.chk (.bn (.ar .add .i64) (.vr 13) (.cn (.int .i64 1)))
      (.set 13 (.bn (.ar .add .i64) (.vr 13) (.cn (.int .i64 1)))
      .nil))))))))
  (.set 10 (.vr 12)
  (.set 11 (.cn (.int .i64 0))
  .ret)))))))))))))))
def fc41 : Fc := ⟨73, s41, [(.vr 10), (.vr 11)]⟩
theorem c41 : compF Try.prog 41 = some fc41 := by kernel_rfl

/-- kinora/kinoraref24.Plane · parameters 4 · 0:l 1:w 2:h 3:depth -/
def s42 : S :=
  (.set 8 (.cn (.bool false))
  (.call (some 10) 44 [(.vr 1)] []
  (.set 11 (.vr 10)
  (.ifg (.vr 11) true
    (.call (some 13) 44 [(.vr 2)] []
    .nil)
    (.set 13 (.cn undef)
    .nil)
  (.chk (.pk (.vr 11) (.vr 13) (.cn (.bool false)))
  (.set 15 (.pk (.vr 11) (.vr 13) (.cn (.bool false)))
  (.ifg (.vr 15) true
    (.call (some 17) 28 [(.vr 3)] []
    .nil)
    (.set 17 (.cn undef)
    .nil)
  (.chk (.pk (.vr 15) (.vr 17) (.cn (.bool false)))
  (.set 19 (.pk (.vr 15) (.vr 17) (.cn (.bool false)))
  (.chk (.gd (.vr 19) true (.un .ln (.vr 0)))
  (.chk (.gd (.vr 19) true (.bn (.ar .mul .i64) (.vr 1) (.vr 2)))
  (.chk (.and (.vr 19) (.bn (.cm .eql .i64) (.un .ln (.vr 0)) (.bn (.ar .mul .i64) (.vr 1) (.vr 2))))
  (.set 27 (.and (.vr 19) (.bn (.cm .eql .i64) (.un .ln (.vr 0)) (.bn (.ar .mul .i64) (.vr 1) (.vr 2))))
  (.ifg (.vr 27) true
    (.call (some 30) 30 [(.vr 0), (.vr 3)] []
    .nil)
    (.set 30 (.cn undef)
    .nil)
  (.chk (.pk (.vr 27) (.vr 30) (.cn (.bool false)))
  (.set 8 (.pk (.vr 27) (.vr 30) (.cn (.bool false)))
  .ret))))))))))))))))
def fc42 : Fc := ⟨32, s42, [(.vr 8)]⟩
theorem c42 : compF Try.prog 42 = some fc42 := by kernel_rfl

/-- kinora/kinoraref24.Fold · parameters 2 · 0:v 1:depth 5:n -/
def s43 : S :=
  (.set 4 (.cn (.int .i64 0))
  (.call (some 8) 13 [(.vr 0), (.vr 1)] []
  (.set 5 (.vr 8)
  (.call (some 10) 28 [(.vr 1)] []
  (.set 11 (.vr 10)
  (.chk (.gd (.vr 11) true (.bn (.ar .sub .i64) (.vr 1) (.cn (.int .i64 1))))
  (.chk (.gd (.vr 11) true (.bn (.sh true .i64) (.cn (.int .i64 1)) (.un (.cv .u64) (.bn (.ar .sub .i64) (.vr 1) (.cn (.int .i64 1))))))
  (.chk (.gd (.vr 11) true (.bn (.cm .geq .i64) (.vr 5) (.bn (.sh true .i64) (.cn (.int .i64 1)) (.un (.cv .u64) (.bn (.ar .sub .i64) (.vr 1) (.cn (.int .i64 1)))))))
  (.chk (.and (.vr 11) (.bn (.cm .geq .i64) (.vr 5) (.bn (.sh true .i64) (.cn (.int .i64 1)) (.un (.cv .u64) (.bn (.ar .sub .i64) (.vr 1) (.cn (.int .i64 1)))))))
  (.set 18 (.and (.vr 11) (.bn (.cm .geq .i64) (.vr 5) (.bn (.sh true .i64) (.cn (.int .i64 1)) (.un (.cv .u64) (.bn (.ar .sub .i64) (.vr 1) (.cn (.int .i64 1)))))))
  (.ite (.vr 18)
    (.chk (.un (.cv .u64) (.vr 1))
    (.chk (.bn (.sh true .i64) (.cn (.int .i64 1)) (.un (.cv .u64) (.vr 1)))
    (.chk (.bn (.ar .sub .i64) (.vr 5) (.bn (.sh true .i64) (.cn (.int .i64 1)) (.un (.cv .u64) (.vr 1))))
    (.set 5 (.bn (.ar .sub .i64) (.vr 5) (.bn (.sh true .i64) (.cn (.int .i64 1)) (.un (.cv .u64) (.vr 1))))
    .nil))))
    .nil
  (.set 4 (.vr 5)
  .ret))))))))))))
def fc43 : Fc := ⟨25, s43, [(.vr 4)]⟩
theorem c43 : compF Try.prog 43 = some fc43 := by kernel_rfl

/-- kinora/kinoraref24.Side · parameters 1 · 0:n -/
def s44 : S :=
  (.set 2 (.cn (.bool false))
  (.chk (.bn (.cm .geq .i64) (.vr 0) (.cn (.int .i64 1)))
  (.chk (.gd (.bn (.cm .geq .i64) (.vr 0) (.cn (.int .i64 1))) true (.bn (.cm .leq .i64) (.vr 0) (.cn (.int .i64 64))))
  (.set 2 (.and (.bn (.cm .geq .i64) (.vr 0) (.cn (.int .i64 1))) (.bn (.cm .leq .i64) (.vr 0) (.cn (.int .i64 64))))
  .ret))))
def fc44 : Fc := ⟨9, s44, [(.vr 2)]⟩
theorem c44 : compF Try.prog 44 = some fc44 := by kernel_rfl

/-- kinora/kinoraref24.Kinds · parameters 2 · 0:kinds 1:h 5:i -/
def s45 : S :=
  (.set 4 (.cn (.bool false))
  (.set 5 (.cn (.int .i64 0))
  (.blk 0
    (.loop
      (.chk (.un .ln (.vr 0))
      (.chk (.bn (.cm .lss .i64) (.vr 5) (.un .ln (.vr 0)))
      (.set 9 (.bn (.cm .lss .i64) (.vr 5) (.un .ln (.vr 0)))
      (.ite (.vr 9)
        .nil
        (.exit 0)
      (.blk 1
        (.chk (.bn (.ia 1) (.vr 0) (.vr 5))
        (.chk (.ld (.bn (.ia 1) (.vr 0) (.vr 5)))
        (.chk (.bn (.cm .lss .i64) (.ld (.bn (.ia 1) (.vr 0) (.vr 5))) (.cn (.int .i64 0)))
        (.chk (.gd (.bn (.cm .lss .i64) (.ld (.bn (.ia 1) (.vr 0) (.vr 5))) (.cn (.int .i64 0))) false (.bn (.ia 1) (.vr 0) (.vr 5)))
        (.chk (.gd (.bn (.cm .lss .i64) (.ld (.bn (.ia 1) (.vr 0) (.vr 5))) (.cn (.int .i64 0))) false (.ld (.bn (.ia 1) (.vr 0) (.vr 5))))
        (.chk (.gd (.bn (.cm .lss .i64) (.ld (.bn (.ia 1) (.vr 0) (.vr 5))) (.cn (.int .i64 0))) false (.bn (.cm .gtr .i64) (.ld (.bn (.ia 1) (.vr 0) (.vr 5))) (.cn (.int .i64 9))))
        (.set 23 (.or (.bn (.cm .lss .i64) (.ld (.bn (.ia 1) (.vr 0) (.vr 5))) (.cn (.int .i64 0))) (.bn (.cm .gtr .i64) (.ld (.bn (.ia 1) (.vr 0) (.vr 5))) (.cn (.int .i64 9))))
        (.ite (.vr 23)
          (.set 4 (.cn (.bool false))
          .ret)
          .nil
        .nil))))))))
      (.chk (.bn (.ar .add .i64) (.vr 5) (.cn (.int .i64 1)))
      (.set 5 (.bn (.ar .add .i64) (.vr 5) (.cn (.int .i64 1)))
      .nil))))))))
  (.chk (.un .ln (.vr 0))
  (.chk (.bn (.cm .eql .i64) (.un .ln (.vr 0)) (.vr 1))
  (.set 4 (.bn (.cm .eql .i64) (.un .ln (.vr 0)) (.vr 1))
  .ret))))))
def fc45 : Fc := ⟨28, s45, [(.vr 4)]⟩
theorem c45 : compF Try.prog 45 = some fc45 := by kernel_rfl

end Go.Proofs.Ytifdamadeleigaa.VG
