/- Each function's small form is what the machine runs. -/
import Derived.Test.YtilfhbpehgklbaaProg
import Derived.Test.YtilfhbpehgklbaaQqFns
import Derived.Test.YtilfhbpehgklbaaQqLayoutIR
import Derived.KernelRfl
set_option linter.unusedSimpArgs false
set_option linter.unusedVariables false
namespace Go.D.Layout
open Go.Proofs
theorem ok3 : okFn Try.prog 3 ir3 = true := by kernel_rfl
theorem ok4 : okFn Try.prog 4 ir4 = true := by kernel_rfl
theorem ok5 : okFn Try.prog 5 ir5 = true := by kernel_rfl
theorem ok6 : okFn Try.prog 6 ir6 = true := by kernel_rfl
theorem ok7 : okFn Try.prog 7 ir7 = true := by kernel_rfl
theorem ok8 : okFn Try.prog 8 ir8 = true := by kernel_rfl
theorem ok9 : okFn Try.prog 9 ir9 = true := by kernel_rfl
theorem ok10 : okFn Try.prog 10 ir10 = true := by kernel_rfl
theorem ok11 : okFn Try.prog 11 ir11 = true := by kernel_rfl
theorem ok12 : okFn Try.prog 12 ir12 = true := by kernel_rfl
theorem ok13 : okFn Try.prog 13 ir13 = true := by kernel_rfl
theorem ok14 : okFn Try.prog 14 ir14 = true := by kernel_rfl
theorem ok15 : okFn Try.prog 15 ir15 = true := by kernel_rfl
theorem ok16 : okFn Try.prog 16 ir16 = true := by kernel_rfl
theorem ok17 : okFn Try.prog 17 ir17 = true := by kernel_rfl
theorem ok18 : okFn Try.prog 18 ir18 = true := by kernel_rfl
theorem ok19 : okFn Try.prog 19 ir19 = true := by kernel_rfl
theorem ok20 : okFn Try.prog 20 ir20 = true := by kernel_rfl
theorem ok21 : okFn Try.prog 21 ir21 = true := by kernel_rfl
theorem ok22 : okFn Try.prog 22 ir22 = true := by kernel_rfl
theorem ok23 : okFn Try.prog 23 ir23 = true := by kernel_rfl
theorem ok24 : okFn Try.prog 24 ir24 = true := by kernel_rfl
theorem ok25 : okFn Try.prog 25 ir25 = true := by kernel_rfl
theorem ok26 : okFn Try.prog 26 ir26 = true := by kernel_rfl
theorem ok27 : okFn Try.prog 27 ir27 = true := by kernel_rfl
theorem ok28 : okFn Try.prog 28 ir28 = true := by kernel_rfl
theorem ok29 : okFn Try.prog 29 ir29 = true := by kernel_rfl
theorem ok30 : okFn Try.prog 30 ir30 = true := by kernel_rfl
theorem ok31 : okFn Try.prog 31 ir31 = true := by kernel_rfl
theorem ok32 : okFn Try.prog 32 ir32 = true := by kernel_rfl
theorem ok33 : okFn Try.prog 33 ir33 = true := by kernel_rfl
theorem ok34 : okFn Try.prog 34 ir34 = true := by kernel_rfl
theorem ok35 : okFn Try.prog 35 ir35 = true := by kernel_rfl
theorem ok36 : okFn Try.prog 36 ir36 = true := by kernel_rfl
theorem ok37 : okFn Try.prog 37 ir37 = true := by kernel_rfl
theorem ok38 : okFn Try.prog 38 ir38 = true := by kernel_rfl
theorem ok39 : okFn Try.prog 39 ir39 = true := by kernel_rfl
theorem ok40 : okFn Try.prog 40 ir40 = true := by kernel_rfl
theorem ok41 : okFn Try.prog 41 ir41 = true := by kernel_rfl
theorem ok42 : okFn Try.prog 42 ir42 = true := by kernel_rfl
theorem ok43 : okFn Try.prog 43 ir43 = true := by kernel_rfl
theorem ok44 : okFn Try.prog 44 ir44 = true := by kernel_rfl
theorem ok45 : okFn Try.prog 45 ir45 = true := by kernel_rfl
theorem ok46 : okFn Try.prog 46 ir46 = true := by kernel_rfl
theorem ok47 : okFn Try.prog 47 ir47 = true := by kernel_rfl
theorem ok48 : okFn Try.prog 48 ir48 = true := by kernel_rfl
theorem ok49 : okFn Try.prog 49 ir49 = true := by kernel_rfl
theorem ok50 : okFn Try.prog 50 ir50 = true := by kernel_rfl
theorem ok51 : okFn Try.prog 51 ir51 = true := by kernel_rfl
theorem ok52 : okFn Try.prog 52 ir52 = true := by kernel_rfl
theorem ok53 : okFn Try.prog 53 ir53 = true := by kernel_rfl
theorem ok54 : okFn Try.prog 54 ir54 = true := by kernel_rfl
theorem ok55 : okFn Try.prog 55 ir55 = true := by kernel_rfl
theorem ok56 : okFn Try.prog 56 ir56 = true := by kernel_rfl
theorem fns_ok : ∀ f fi, fns f = some fi → okFn Try.prog f fi = true := by
  intro f fi h
  unfold fns at h
  split at h
  · cases h; exact ok3
  · cases h; exact ok4
  · cases h; exact ok5
  · cases h; exact ok6
  · cases h; exact ok7
  · cases h; exact ok8
  · cases h; exact ok9
  · cases h; exact ok10
  · cases h; exact ok11
  · cases h; exact ok12
  · cases h; exact ok13
  · cases h; exact ok14
  · cases h; exact ok15
  · cases h; exact ok16
  · cases h; exact ok17
  · cases h; exact ok18
  · cases h; exact ok19
  · cases h; exact ok20
  · cases h; exact ok21
  · cases h; exact ok22
  · cases h; exact ok23
  · cases h; exact ok24
  · cases h; exact ok25
  · cases h; exact ok26
  · cases h; exact ok27
  · cases h; exact ok28
  · cases h; exact ok29
  · cases h; exact ok30
  · cases h; exact ok31
  · cases h; exact ok32
  · cases h; exact ok33
  · cases h; exact ok34
  · cases h; exact ok35
  · cases h; exact ok36
  · cases h; exact ok37
  · cases h; exact ok38
  · cases h; exact ok39
  · cases h; exact ok40
  · cases h; exact ok41
  · cases h; exact ok42
  · cases h; exact ok43
  · cases h; exact ok44
  · cases h; exact ok45
  · cases h; exact ok46
  · cases h; exact ok47
  · cases h; exact ok48
  · cases h; exact ok49
  · cases h; exact ok50
  · cases h; exact ok51
  · cases h; exact ok52
  · cases h; exact ok53
  · cases h; exact ok54
  · cases h; exact ok55
  · cases h; exact ok56
  · cases h
end Go.D.Layout
