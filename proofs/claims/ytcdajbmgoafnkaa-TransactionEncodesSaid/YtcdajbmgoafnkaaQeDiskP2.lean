/- Texts of the proof, joined: DiskP2. -/
import Derived.Test.YtcdajbmgoafnkaaQeDiskP

