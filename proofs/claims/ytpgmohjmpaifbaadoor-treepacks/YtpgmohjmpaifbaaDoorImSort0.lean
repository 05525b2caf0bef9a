/- ImSort0: the code of slices.SortFunc and of its parts, for any size of elements. Written by a program (gensort.py). -/
import Derived.Test.YtpgmohjmpaifbaaDoorImSem
set_option linter.unusedVariables false
namespace Go.Im

structure SortIds where
  (srt pdq len l32 l64 ins heap brk piv rev par peq prt sift npo nxt mda med ord : FuncId)

end Go.Im
