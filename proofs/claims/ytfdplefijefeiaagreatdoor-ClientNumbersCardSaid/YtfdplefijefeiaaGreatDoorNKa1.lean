/- Each stands for its function. -/
import Derived.Test.YtfdplefijefeiaaGreatDoorNK
import Derived.Test.YtfdplefijefeiaaGreatDoorNKd1
namespace Go.Proofs.YtfdplefijefeiaaGreatDoor
open Go.Dx
set_option maxRecDepth 100000
theorem ok104 : Fok 104 d104 := ⟨_, Tryz.func104, by kernel_rfl⟩
theorem ok105 : Fok 105 d105 := ⟨_, Tryz.func105, by kernel_rfl⟩
theorem ok106 : Fok 106 d106 := ⟨_, Tryz.func106, by kernel_rfl⟩
theorem ok107 : Fok 107 d107 := ⟨_, Tryz.func107, by kernel_rfl⟩
theorem ok111 : Fok 111 d111 := ⟨_, Tryz.func111, by kernel_rfl⟩
theorem ok112 : Fok 112 d112 := ⟨_, Tryz.func112, by kernel_rfl⟩
theorem ok114 : Fok 114 d114 := ⟨_, Tryz.func114, by kernel_rfl⟩
theorem ok115 : Fok 115 d115 := ⟨_, Tryz.func115, by kernel_rfl⟩
theorem ok116 : Fok 116 d116 := ⟨_, Tryz.func116, by kernel_rfl⟩
theorem ok117 : Fok 117 d117 := ⟨_, Tryz.func117, by kernel_rfl⟩
theorem ok118 : Fok 118 d118 := ⟨_, Tryz.func118, by kernel_rfl⟩
theorem ok119 : Fok 119 d119 := ⟨_, Tryz.func119, by kernel_rfl⟩
theorem ok120 : Fok 120 d120 := ⟨_, Tryz.func120, by kernel_rfl⟩
theorem ok121 : Fok 121 d121 := ⟨_, Tryz.func121, by kernel_rfl⟩
theorem ok122 : Fok 122 d122 := ⟨_, Tryz.func122, by kernel_rfl⟩
theorem ok124 : Fok 124 d124 := ⟨_, Tryz.func124, by kernel_rfl⟩
theorem ok125 : Fok 125 d125 := ⟨_, Tryz.func125, by kernel_rfl⟩
theorem ok129 : Fok 129 d129 := ⟨_, Tryz.func129, by kernel_rfl⟩
theorem ok131 : Fok 131 d131 := ⟨_, Tryz.func131, by kernel_rfl⟩
theorem ok132 : Fok 132 d132 := ⟨_, Tryz.func132, by kernel_rfl⟩
theorem ok134 : Fok 134 d134 := ⟨_, Tryz.func134, by kernel_rfl⟩
theorem ok137 : Fok 137 d137 := ⟨_, Tryz.func137, by kernel_rfl⟩
theorem ok138 : Fok 138 d138 := ⟨_, Tryz.func138, by kernel_rfl⟩
theorem ok139 : Fok 139 d139 := ⟨_, Tryz.func139, by kernel_rfl⟩
theorem ok141 : Fok 141 d141 := ⟨_, Tryz.func141, by kernel_rfl⟩
theorem ok144 : Fok 144 d144 := ⟨_, Tryz.func144, by kernel_rfl⟩
theorem ok145 : Fok 145 d145 := ⟨_, Tryz.func145, by kernel_rfl⟩
theorem ok146 : Fok 146 d146 := ⟨_, Tryz.func146, by kernel_rfl⟩
theorem ok147 : Fok 147 d147 := ⟨_, Tryz.func147, by kernel_rfl⟩
theorem ok148 : Fok 148 d148 := ⟨_, Tryz.func148, by kernel_rfl⟩
theorem ok149 : Fok 149 d149 := ⟨_, Tryz.func149, by kernel_rfl⟩
theorem ok150 : Fok 150 d150 := ⟨_, Tryz.func150, by kernel_rfl⟩
theorem ok151 : Fok 151 d151 := ⟨_, Tryz.func151, by kernel_rfl⟩
theorem ok153 : Fok 153 d153 := ⟨_, Tryz.func153, by kernel_rfl⟩
theorem ok154 : Fok 154 d154 := ⟨_, Tryz.func154, by kernel_rfl⟩
theorem ok156 : Fok 156 d156 := ⟨_, Tryz.func156, by kernel_rfl⟩
theorem ok157 : Fok 157 d157 := ⟨_, Tryz.func157, by kernel_rfl⟩
theorem ok158 : Fok 158 d158 := ⟨_, Tryz.func158, by kernel_rfl⟩
theorem ok163 : Fok 163 d163 := ⟨_, Tryz.func163, by kernel_rfl⟩
theorem ok164 : Fok 164 d164 := ⟨_, Tryz.func164, by kernel_rfl⟩
theorem ok167 : Fok 167 d167 := ⟨_, Tryz.func167, by kernel_rfl⟩
theorem ok176 : Fok 176 d176 := ⟨_, Tryz.func176, by kernel_rfl⟩
theorem ok177 : Fok 177 d177 := ⟨_, Tryz.func177, by kernel_rfl⟩
theorem ok183 : Fok 183 d183 := ⟨_, Tryz.func183, by kernel_rfl⟩
theorem ok184 : Fok 184 d184 := ⟨_, Tryz.func184, by kernel_rfl⟩
theorem ok185 : Fok 185 d185 := ⟨_, Tryz.func185, by kernel_rfl⟩
theorem ok186 : Fok 186 d186 := ⟨_, Tryz.func186, by kernel_rfl⟩
theorem ok187 : Fok 187 d187 := ⟨_, Tryz.func187, by kernel_rfl⟩
theorem ok188 : Fok 188 d188 := ⟨_, Tryz.func188, by kernel_rfl⟩
theorem ok189 : Fok 189 d189 := ⟨_, Tryz.func189, by kernel_rfl⟩
theorem ok190 : Fok 190 d190 := ⟨_, Tryz.func190, by kernel_rfl⟩
theorem ok191 : Fok 191 d191 := ⟨_, Tryz.func191, by kernel_rfl⟩
theorem ok196 : Fok 196 d196 := ⟨_, Tryz.func196, by kernel_rfl⟩
theorem ok197 : Fok 197 d197 := ⟨_, Tryz.func197, by kernel_rfl⟩
theorem ok201 : Fok 201 d201 := ⟨_, Tryz.func201, by kernel_rfl⟩
theorem ok203 : Fok 203 d203 := ⟨_, Tryz.func203, by kernel_rfl⟩
theorem ok204 : Fok 204 d204 := ⟨_, Tryz.func204, by kernel_rfl⟩
theorem ok207 : Fok 207 d207 := ⟨_, Tryz.func207, by kernel_rfl⟩
theorem ok213 : Fok 213 d213 := ⟨_, Tryz.func213, by kernel_rfl⟩
theorem ok217 : Fok 217 d217 := ⟨_, Tryz.func217, by kernel_rfl⟩
theorem ok218 : Fok 218 d218 := ⟨_, Tryz.func218, by kernel_rfl⟩
theorem ok219 : Fok 219 d219 := ⟨_, Tryz.func219, by kernel_rfl⟩
theorem ok220 : Fok 220 d220 := ⟨_, Tryz.func220, by kernel_rfl⟩
theorem ok221 : Fok 221 d221 := ⟨_, Tryz.func221, by kernel_rfl⟩
theorem ok236 : Fok 236 d236 := ⟨_, Tryz.func236, by kernel_rfl⟩
theorem ok237 : Fok 237 d237 := ⟨_, Tryz.func237, by kernel_rfl⟩
theorem ok242 : Fok 242 d242 := ⟨_, Tryz.func242, by kernel_rfl⟩
end Go.Proofs.YtfdplefijefeiaaGreatDoor
