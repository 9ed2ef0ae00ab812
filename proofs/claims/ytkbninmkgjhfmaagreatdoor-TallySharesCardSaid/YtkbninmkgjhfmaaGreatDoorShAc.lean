/- The tally dump: Tally[int].Add at key 7, by the evaluator: at every number, every row, and at every count of bits. (Printed by a program of this claim's.) -/
import Derived.Test.YtkbninmkgjhfmaaGreatDoorShA1
set_option maxHeartbeats 400000
namespace Go.Proofs
open Go Go.Det
set_option maxRecDepth 100000
theorem new0 : AddNew 18 89 (.int .i64 7) 0 := fun n clk => by kernel_rfl
theorem old0 : AddOld 18 89 (.int .i64 7) 0 := fun n clk b k s l m g => by kernel_rfl
theorem new1 : AddNew 18 89 (.int .i64 7) 1 := fun n clk => by kernel_rfl
theorem old1 : AddOld 18 89 (.int .i64 7) 1 := fun n clk b k s l m g => by kernel_rfl
theorem new2 : AddNew 18 89 (.int .i64 7) 2 := fun n clk => by kernel_rfl
theorem old2 : AddOld 18 89 (.int .i64 7) 2 := fun n clk b k s l m g => by kernel_rfl
theorem new3 : AddNew 18 89 (.int .i64 7) 3 := fun n clk => by kernel_rfl
theorem old3 : AddOld 18 89 (.int .i64 7) 3 := fun n clk b k s l m g => by kernel_rfl
theorem new4 : AddNew 18 89 (.int .i64 7) 4 := fun n clk => by kernel_rfl
theorem old4 : AddOld 18 89 (.int .i64 7) 4 := fun n clk b k s l m g => by kernel_rfl
theorem new5 : AddNew 18 89 (.int .i64 7) 5 := fun n clk => by kernel_rfl
theorem old5 : AddOld 18 89 (.int .i64 7) 5 := fun n clk b k s l m g => by kernel_rfl
theorem new6 : AddNew 18 89 (.int .i64 7) 6 := fun n clk => by kernel_rfl
theorem old6 : AddOld 18 89 (.int .i64 7) 6 := fun n clk b k s l m g => by kernel_rfl
theorem new7 : AddNew 18 89 (.int .i64 7) 7 := fun n clk => by kernel_rfl
theorem old7 : AddOld 18 89 (.int .i64 7) 7 := fun n clk b k s l m g => by kernel_rfl
theorem new8 : AddNew 18 89 (.int .i64 7) 8 := fun n clk => by kernel_rfl
theorem old8 : AddOld 18 89 (.int .i64 7) 8 := fun n clk b k s l m g => by kernel_rfl
theorem new9 : AddNew 18 89 (.int .i64 7) 9 := fun n clk => by kernel_rfl
theorem old9 : AddOld 18 89 (.int .i64 7) 9 := fun n clk b k s l m g => by kernel_rfl
theorem new10 : AddNew 18 89 (.int .i64 7) 10 := fun n clk => by kernel_rfl
theorem old10 : AddOld 18 89 (.int .i64 7) 10 := fun n clk b k s l m g => by kernel_rfl
theorem new11 : AddNew 18 89 (.int .i64 7) 11 := fun n clk => by kernel_rfl
theorem old11 : AddOld 18 89 (.int .i64 7) 11 := fun n clk b k s l m g => by kernel_rfl
theorem new12 : AddNew 18 89 (.int .i64 7) 12 := fun n clk => by kernel_rfl
theorem old12 : AddOld 18 89 (.int .i64 7) 12 := fun n clk b k s l m g => by kernel_rfl
theorem new13 : AddNew 18 89 (.int .i64 7) 13 := fun n clk => by kernel_rfl
theorem old13 : AddOld 18 89 (.int .i64 7) 13 := fun n clk b k s l m g => by kernel_rfl
theorem new14 : AddNew 18 89 (.int .i64 7) 14 := fun n clk => by kernel_rfl
theorem old14 : AddOld 18 89 (.int .i64 7) 14 := fun n clk b k s l m g => by kernel_rfl
theorem new15 : AddNew 18 89 (.int .i64 7) 15 := fun n clk => by kernel_rfl
theorem old15 : AddOld 18 89 (.int .i64 7) 15 := fun n clk b k s l m g => by kernel_rfl
theorem new16 : AddNew 18 89 (.int .i64 7) 16 := fun n clk => by kernel_rfl
theorem old16 : AddOld 18 89 (.int .i64 7) 16 := fun n clk b k s l m g => by kernel_rfl
theorem new17 : AddNew 18 89 (.int .i64 7) 17 := fun n clk => by kernel_rfl
theorem old17 : AddOld 18 89 (.int .i64 7) 17 := fun n clk b k s l m g => by kernel_rfl
theorem new18 : AddNew 18 89 (.int .i64 7) 18 := fun n clk => by kernel_rfl
theorem old18 : AddOld 18 89 (.int .i64 7) 18 := fun n clk b k s l m g => by kernel_rfl
theorem new19 : AddNew 18 89 (.int .i64 7) 19 := fun n clk => by kernel_rfl
theorem old19 : AddOld 18 89 (.int .i64 7) 19 := fun n clk b k s l m g => by kernel_rfl
theorem new20 : AddNew 18 89 (.int .i64 7) 20 := fun n clk => by kernel_rfl
theorem old20 : AddOld 18 89 (.int .i64 7) 20 := fun n clk b k s l m g => by kernel_rfl
theorem new21 : AddNew 18 89 (.int .i64 7) 21 := fun n clk => by kernel_rfl
theorem old21 : AddOld 18 89 (.int .i64 7) 21 := fun n clk b k s l m g => by kernel_rfl
theorem new22 : AddNew 18 89 (.int .i64 7) 22 := fun n clk => by kernel_rfl
theorem old22 : AddOld 18 89 (.int .i64 7) 22 := fun n clk b k s l m g => by kernel_rfl
theorem new23 : AddNew 18 89 (.int .i64 7) 23 := fun n clk => by kernel_rfl
theorem old23 : AddOld 18 89 (.int .i64 7) 23 := fun n clk b k s l m g => by kernel_rfl
theorem new24 : AddNew 18 89 (.int .i64 7) 24 := fun n clk => by kernel_rfl
theorem old24 : AddOld 18 89 (.int .i64 7) 24 := fun n clk b k s l m g => by kernel_rfl
theorem new25 : AddNew 18 89 (.int .i64 7) 25 := fun n clk => by kernel_rfl
theorem old25 : AddOld 18 89 (.int .i64 7) 25 := fun n clk b k s l m g => by kernel_rfl
theorem new26 : AddNew 18 89 (.int .i64 7) 26 := fun n clk => by kernel_rfl
theorem old26 : AddOld 18 89 (.int .i64 7) 26 := fun n clk b k s l m g => by kernel_rfl
theorem new27 : AddNew 18 89 (.int .i64 7) 27 := fun n clk => by kernel_rfl
theorem old27 : AddOld 18 89 (.int .i64 7) 27 := fun n clk b k s l m g => by kernel_rfl
theorem new28 : AddNew 18 89 (.int .i64 7) 28 := fun n clk => by kernel_rfl
theorem old28 : AddOld 18 89 (.int .i64 7) 28 := fun n clk b k s l m g => by kernel_rfl
theorem new29 : AddNew 18 89 (.int .i64 7) 29 := fun n clk => by kernel_rfl
theorem old29 : AddOld 18 89 (.int .i64 7) 29 := fun n clk b k s l m g => by kernel_rfl
theorem new30 : AddNew 18 89 (.int .i64 7) 30 := fun n clk => by kernel_rfl
theorem old30 : AddOld 18 89 (.int .i64 7) 30 := fun n clk b k s l m g => by kernel_rfl
theorem new31 : AddNew 18 89 (.int .i64 7) 31 := fun n clk => by kernel_rfl
theorem old31 : AddOld 18 89 (.int .i64 7) 31 := fun n clk b k s l m g => by kernel_rfl
theorem new32 : AddNew 18 89 (.int .i64 7) 32 := fun n clk => by kernel_rfl
theorem old32 : AddOld 18 89 (.int .i64 7) 32 := fun n clk b k s l m g => by kernel_rfl
theorem new33 : AddNew 18 89 (.int .i64 7) 33 := fun n clk => by kernel_rfl
theorem old33 : AddOld 18 89 (.int .i64 7) 33 := fun n clk b k s l m g => by kernel_rfl
theorem new34 : AddNew 18 89 (.int .i64 7) 34 := fun n clk => by kernel_rfl
theorem old34 : AddOld 18 89 (.int .i64 7) 34 := fun n clk b k s l m g => by kernel_rfl
theorem new35 : AddNew 18 89 (.int .i64 7) 35 := fun n clk => by kernel_rfl
theorem old35 : AddOld 18 89 (.int .i64 7) 35 := fun n clk b k s l m g => by kernel_rfl
theorem new36 : AddNew 18 89 (.int .i64 7) 36 := fun n clk => by kernel_rfl
theorem old36 : AddOld 18 89 (.int .i64 7) 36 := fun n clk b k s l m g => by kernel_rfl
theorem new37 : AddNew 18 89 (.int .i64 7) 37 := fun n clk => by kernel_rfl
theorem old37 : AddOld 18 89 (.int .i64 7) 37 := fun n clk b k s l m g => by kernel_rfl
theorem new38 : AddNew 18 89 (.int .i64 7) 38 := fun n clk => by kernel_rfl
theorem old38 : AddOld 18 89 (.int .i64 7) 38 := fun n clk b k s l m g => by kernel_rfl
theorem new39 : AddNew 18 89 (.int .i64 7) 39 := fun n clk => by kernel_rfl
theorem old39 : AddOld 18 89 (.int .i64 7) 39 := fun n clk b k s l m g => by kernel_rfl
theorem new40 : AddNew 18 89 (.int .i64 7) 40 := fun n clk => by kernel_rfl
theorem old40 : AddOld 18 89 (.int .i64 7) 40 := fun n clk b k s l m g => by kernel_rfl
theorem new41 : AddNew 18 89 (.int .i64 7) 41 := fun n clk => by kernel_rfl
theorem old41 : AddOld 18 89 (.int .i64 7) 41 := fun n clk b k s l m g => by kernel_rfl
theorem new42 : AddNew 18 89 (.int .i64 7) 42 := fun n clk => by kernel_rfl
theorem old42 : AddOld 18 89 (.int .i64 7) 42 := fun n clk b k s l m g => by kernel_rfl
theorem new43 : AddNew 18 89 (.int .i64 7) 43 := fun n clk => by kernel_rfl
theorem old43 : AddOld 18 89 (.int .i64 7) 43 := fun n clk b k s l m g => by kernel_rfl
theorem new44 : AddNew 18 89 (.int .i64 7) 44 := fun n clk => by kernel_rfl
theorem old44 : AddOld 18 89 (.int .i64 7) 44 := fun n clk b k s l m g => by kernel_rfl
theorem new45 : AddNew 18 89 (.int .i64 7) 45 := fun n clk => by kernel_rfl
theorem old45 : AddOld 18 89 (.int .i64 7) 45 := fun n clk b k s l m g => by kernel_rfl
theorem new46 : AddNew 18 89 (.int .i64 7) 46 := fun n clk => by kernel_rfl
theorem old46 : AddOld 18 89 (.int .i64 7) 46 := fun n clk b k s l m g => by kernel_rfl
theorem new47 : AddNew 18 89 (.int .i64 7) 47 := fun n clk => by kernel_rfl
theorem old47 : AddOld 18 89 (.int .i64 7) 47 := fun n clk b k s l m g => by kernel_rfl
theorem new48 : AddNew 18 89 (.int .i64 7) 48 := fun n clk => by kernel_rfl
theorem old48 : AddOld 18 89 (.int .i64 7) 48 := fun n clk b k s l m g => by kernel_rfl
theorem new49 : AddNew 18 89 (.int .i64 7) 49 := fun n clk => by kernel_rfl
theorem old49 : AddOld 18 89 (.int .i64 7) 49 := fun n clk b k s l m g => by kernel_rfl
theorem new50 : AddNew 18 89 (.int .i64 7) 50 := fun n clk => by kernel_rfl
theorem old50 : AddOld 18 89 (.int .i64 7) 50 := fun n clk b k s l m g => by kernel_rfl
theorem new51 : AddNew 18 89 (.int .i64 7) 51 := fun n clk => by kernel_rfl
theorem old51 : AddOld 18 89 (.int .i64 7) 51 := fun n clk b k s l m g => by kernel_rfl
theorem new52 : AddNew 18 89 (.int .i64 7) 52 := fun n clk => by kernel_rfl
theorem old52 : AddOld 18 89 (.int .i64 7) 52 := fun n clk b k s l m g => by kernel_rfl
theorem new53 : AddNew 18 89 (.int .i64 7) 53 := fun n clk => by kernel_rfl
theorem old53 : AddOld 18 89 (.int .i64 7) 53 := fun n clk b k s l m g => by kernel_rfl
theorem new54 : AddNew 18 89 (.int .i64 7) 54 := fun n clk => by kernel_rfl
theorem old54 : AddOld 18 89 (.int .i64 7) 54 := fun n clk b k s l m g => by kernel_rfl
theorem new55 : AddNew 18 89 (.int .i64 7) 55 := fun n clk => by kernel_rfl
theorem old55 : AddOld 18 89 (.int .i64 7) 55 := fun n clk b k s l m g => by kernel_rfl
theorem new56 : AddNew 18 89 (.int .i64 7) 56 := fun n clk => by kernel_rfl
theorem old56 : AddOld 18 89 (.int .i64 7) 56 := fun n clk b k s l m g => by kernel_rfl
theorem new57 : AddNew 18 89 (.int .i64 7) 57 := fun n clk => by kernel_rfl
theorem old57 : AddOld 18 89 (.int .i64 7) 57 := fun n clk b k s l m g => by kernel_rfl
theorem new58 : AddNew 18 89 (.int .i64 7) 58 := fun n clk => by kernel_rfl
theorem old58 : AddOld 18 89 (.int .i64 7) 58 := fun n clk b k s l m g => by kernel_rfl
theorem new59 : AddNew 18 89 (.int .i64 7) 59 := fun n clk => by kernel_rfl
theorem old59 : AddOld 18 89 (.int .i64 7) 59 := fun n clk b k s l m g => by kernel_rfl
theorem new60 : AddNew 18 89 (.int .i64 7) 60 := fun n clk => by kernel_rfl
theorem old60 : AddOld 18 89 (.int .i64 7) 60 := fun n clk b k s l m g => by kernel_rfl
theorem new61 : AddNew 18 89 (.int .i64 7) 61 := fun n clk => by kernel_rfl
theorem old61 : AddOld 18 89 (.int .i64 7) 61 := fun n clk b k s l m g => by kernel_rfl
theorem new62 : AddNew 18 89 (.int .i64 7) 62 := fun n clk => by kernel_rfl
theorem old62 : AddOld 18 89 (.int .i64 7) 62 := fun n clk b k s l m g => by kernel_rfl
theorem new63 : AddNew 18 89 (.int .i64 7) 63 := fun n clk => by kernel_rfl
theorem old63 : AddOld 18 89 (.int .i64 7) 63 := fun n clk b k s l m g => by kernel_rfl
theorem new64 : AddNew 18 89 (.int .i64 7) 64 := fun n clk => by kernel_rfl
theorem old64 : AddOld 18 89 (.int .i64 7) 64 := fun n clk b k s l m g => by kernel_rfl
theorem new_all : ∀ c, c < 65 → AddNew 18 89 (.int .i64 7) c
  | 0, _ => new0
  | 1, _ => new1
  | 2, _ => new2
  | 3, _ => new3
  | 4, _ => new4
  | 5, _ => new5
  | 6, _ => new6
  | 7, _ => new7
  | 8, _ => new8
  | 9, _ => new9
  | 10, _ => new10
  | 11, _ => new11
  | 12, _ => new12
  | 13, _ => new13
  | 14, _ => new14
  | 15, _ => new15
  | 16, _ => new16
  | 17, _ => new17
  | 18, _ => new18
  | 19, _ => new19
  | 20, _ => new20
  | 21, _ => new21
  | 22, _ => new22
  | 23, _ => new23
  | 24, _ => new24
  | 25, _ => new25
  | 26, _ => new26
  | 27, _ => new27
  | 28, _ => new28
  | 29, _ => new29
  | 30, _ => new30
  | 31, _ => new31
  | 32, _ => new32
  | 33, _ => new33
  | 34, _ => new34
  | 35, _ => new35
  | 36, _ => new36
  | 37, _ => new37
  | 38, _ => new38
  | 39, _ => new39
  | 40, _ => new40
  | 41, _ => new41
  | 42, _ => new42
  | 43, _ => new43
  | 44, _ => new44
  | 45, _ => new45
  | 46, _ => new46
  | 47, _ => new47
  | 48, _ => new48
  | 49, _ => new49
  | 50, _ => new50
  | 51, _ => new51
  | 52, _ => new52
  | 53, _ => new53
  | 54, _ => new54
  | 55, _ => new55
  | 56, _ => new56
  | 57, _ => new57
  | 58, _ => new58
  | 59, _ => new59
  | 60, _ => new60
  | 61, _ => new61
  | 62, _ => new62
  | 63, _ => new63
  | 64, _ => new64
  | c + 65, h => absurd h (by omega)
theorem old_all : ∀ c, c < 65 → AddOld 18 89 (.int .i64 7) c
  | 0, _ => old0
  | 1, _ => old1
  | 2, _ => old2
  | 3, _ => old3
  | 4, _ => old4
  | 5, _ => old5
  | 6, _ => old6
  | 7, _ => old7
  | 8, _ => old8
  | 9, _ => old9
  | 10, _ => old10
  | 11, _ => old11
  | 12, _ => old12
  | 13, _ => old13
  | 14, _ => old14
  | 15, _ => old15
  | 16, _ => old16
  | 17, _ => old17
  | 18, _ => old18
  | 19, _ => old19
  | 20, _ => old20
  | 21, _ => old21
  | 22, _ => old22
  | 23, _ => old23
  | 24, _ => old24
  | 25, _ => old25
  | 26, _ => old26
  | 27, _ => old27
  | 28, _ => old28
  | 29, _ => old29
  | 30, _ => old30
  | 31, _ => old31
  | 32, _ => old32
  | 33, _ => old33
  | 34, _ => old34
  | 35, _ => old35
  | 36, _ => old36
  | 37, _ => old37
  | 38, _ => old38
  | 39, _ => old39
  | 40, _ => old40
  | 41, _ => old41
  | 42, _ => old42
  | 43, _ => old43
  | 44, _ => old44
  | 45, _ => old45
  | 46, _ => old46
  | 47, _ => old47
  | 48, _ => old48
  | 49, _ => old49
  | 50, _ => old50
  | 51, _ => old51
  | 52, _ => old52
  | 53, _ => old53
  | 54, _ => old54
  | 55, _ => old55
  | 56, _ => old56
  | 57, _ => old57
  | 58, _ => old58
  | 59, _ => old59
  | 60, _ => old60
  | 61, _ => old61
  | 62, _ => old62
  | 63, _ => old63
  | 64, _ => old64
  | c + 65, h => absurd h (by omega)
end Go.Proofs
